/- The table of this seat's types is right; no condition. -/
import Derived.Test.YtbkhhfekdpkhbaaAcD
import Derived.KernelRfl
namespace Go.Proofs.Ytbkhhfekdpkhbaa.Ab
open Go

def eqT : List Nat := [26, 33, 31, 113, 191]
noncomputable def tiS : TypeId → TyI := tiOf Try.prog.types.toList (memb badT) (lookD dtT) (memb eqT)

theorem types_ck : ((List.range 248).all fun T => memb badT T || okT Try.prog.types.toList (memb badT) (lookD dtT) T) = true := by kernel_rfl

theorem zero26 : (zcells Try.prog.types.toList 26).map V.v = List.replicate 32 (.v (.int .u8 0)) := by kernel_rfl
theorem zero191 : (zcells Try.prog.types.toList 191).map V.v = List.replicate 64 (.v (.int .u8 0)) := by kernel_rfl
theorem zero33 : (zcells Try.prog.types.toList 33).map V.v = [.v (.int .i64 0), .v (.int .i64 0)] := by kernel_rfl
theorem zero31 : (zcells Try.prog.types.toList 31).map V.v = [.v (.int .i64 0), .v (.int .i64 0)] := by kernel_rfl
theorem zero113 : (zcells Try.prog.types.toList 113).map V.v = [.v (.int .i64 0), .v (.int .i64 0), .v (.string ⟨#[]⟩)] := by kernel_rfl

theorem info5 : Try.prog.info? 5 = some Try.t5 := info_at rfl (by kernel_rfl)

theorem eqs_ok (T : TypeId) (h : memb eqT T = true) : EqOK Try.prog T ((zcells Try.prog.types.toList T).map V.v) := by
  rw [memb_iff] at h
  simp only [eqT, List.mem_cons, List.not_mem_nil, or_false] at h
  rcases h with rfl | rfl | rfl | rfl | rfl
  · rw [zero26]
    exact eqOK_array Try.underlying26 info5 rfl (fun z hz => by rw [List.eq_of_mem_replicate hz]; exact .int _ _ Try.underlying5) (by simp) (by kernel_rfl)
  · rw [zero33]
    refine eqOK_struct Try.underlying33 (by kernel_rfl) rfl (fun i f z hf hz => ?_) (by kernel_rfl)
    match i, hf, hz with
    | 0, hf, hz => cases hf; cases hz; exact ⟨by decide, rfl, .int _ _ Try.underlying3⟩
    | 1, hf, hz => cases hf; cases hz; exact ⟨by decide, rfl, .int _ _ Try.underlying3⟩
    | i + 2, hf, hz => cases hz
  · rw [zero31]
    refine eqOK_struct Try.underlying31 (by kernel_rfl) rfl (fun i f z hf hz => ?_) (by kernel_rfl)
    match i, hf, hz with
    | 0, hf, hz => cases hf; cases hz; exact ⟨by decide, rfl, .int _ _ Try.underlying3⟩
    | 1, hf, hz => cases hf; cases hz; exact ⟨by decide, rfl, .int _ _ Try.underlying3⟩
    | i + 2, hf, hz => cases hz
  · rw [zero113]
    refine eqOK_struct Try.underlying113 (by kernel_rfl) rfl (fun i f z hf hz => ?_) (by kernel_rfl)
    match i, hf, hz with
    | 0, hf, hz => cases hf; cases hz; exact ⟨by decide, rfl, .int _ _ Try.underlying3⟩
    | 1, hf, hz => cases hf; cases hz; exact ⟨by decide, rfl, .int _ _ Try.underlying3⟩
    | 2, hf, hz => cases hf; cases hz; exact ⟨by decide, rfl, .str _ Try.underlying9⟩
    | i + 3, hf, hz => cases hz
  · rw [zero191]
    exact eqOK_array Try.underlying191 info5 rfl (fun z hz => by rw [List.eq_of_mem_replicate hz]; exact .int _ _ Try.underlying5) (by simp) (by kernel_rfl)

theorem mixed : Try.prog.follows .mixedOrders = true := by kernel_rfl

theorem tiS_ok : TiOK Try.prog tiS := by
  refine tiOf_ok rfl (fun T i hT hb => ?_) eqs_ok
  have hlt : T < 248 := by
    have := (List.getElem?_eq_some_iff.1 hT).1
    rw [Array.length_toList, Try.types_size] at this
    exact this
  have := List.all_eq_true.1 types_ck T (List.mem_range.2 hlt)
  rw [hb] at this
  simpa using this
end Go.Proofs.Ytbkhhfekdpkhbaa.Ab

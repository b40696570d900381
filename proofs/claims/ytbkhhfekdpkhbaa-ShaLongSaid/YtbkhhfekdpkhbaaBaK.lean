/- From a function's summary to a call in whatever memory: what was there stays; no condition. -/
import Derived.Test.YtbkhhfekdpkhbaaBaA
import Derived.Below
import Derived.ChangeSame
import Derived.WalkKit
import Derived.ProofKit
import Derived.OpenShut
namespace Go.Proofs.Ytbkhhfekdpkhbaa.Ab
open Go
set_option linter.unusedSimpArgs false
set_option linter.unusedVariables false
set_option maxRecDepth 100000
open Go.RowKit Go.WideShapes Go.ChangeShapes

/-- All that is there changes no more. -/
def allG (w : World) (b : Nat) : Prop := b < w.heap.size
def noHd (_ : Nat) : Hd := ⟨0, 0, 0, 0, true⟩
theorem hrel0 (w : World) : HRel (inK 0) noHd (allG w) (fun _ => none) w := ⟨fun _ _ h => (by cases h), fun _ _ h => (by cases h), fun _ h => h⟩

/-- A function that is known is called in whatever memory. -/
theorem calls0 {P : Program} {F : FuncId} {s : Sum} (h : SumOK P F s) {l : List V} {e : Eff} (he : s.f 0 l (fun _ => none) = some e) (hok : effOk 0 e = true) (hn : e.need) {w : World} {args : List Value} (hr : Reps (inK 0) noHd (allG w) w l args) {b : Bool} (hb : e.val = .v (.bool b)) :
    Calls P F args.toArray w fun en w' => en = .returned (.bool b) ∧ Below w.heap.size w w' := by
  refine (h.calls 0 l (fun _ => none) e he hok hn noHd (allG w) w args (hrel0 w) (fun _ _ h => by cases h) hr).mono ?_
  intro en w' hq
  cases en with
  | returned v =>
    obtain ⟨ρ', G', _, h2, h3⟩ := hq
    rw [hb] at h2
    have := h2.toBool
    subst this
    exact ⟨rfl, h3.os, h3.tape, h3.output, h3.size, fun k hk => h3.keep k hk fun ⟨q, hq, _⟩ => by cases hq⟩
  | _ => exact hq.elim

/-- The row's end, where what was there stays. -/
theorem post_below {P : Program} {H : Type} {enc : TypeId × Value → H} {f : Func} {s : ChangeSpec} {apart fresh handsOn again : Bool} {W W' : World} {args : Array Value} {v : Value} {ds gs : List (DataW H)} {before pa pv : List MemPlace}
    (hW : DataW.Whole enc P f.params.toList s.vars apart W args.toList ds gs before)
    (hres : ∀ (b : Nat) (sp : Nat → Bool) (hd : Bool), DataW.TrodAll enc P W' b sp hd f.resultTypes.toList (v.resultList f.resultTypes.size) (s.fn H (ds ++ gs)).results [])
    (hargs : ∀ sp : Nat → Bool, (∀ p ∈ before, sp p.block = true) → DataW.TrodAll enc P W' 0 sp true f.params.toList args.toList (s.fn H (ds ++ gs)).args pa)
    (hvars : ∀ sp : Nat → Bool, (∀ p ∈ before, sp p.block = true) → DataW.TrodVars enc P W' sp s.vars (s.fn H (ds ++ gs)).vars pv)
    (hps : before = pa ++ pv) (hb : Below W.heap.size W W')
    (hok : ∀ (j : Nat) (t : TypeId) (r : Value), f.resultTypes[j]? = some t → (v.resultList f.resultTypes.size)[j]? = some r → Value.okWide P W' .any 0 t r) :
    s.post enc P f apart fresh handsOn again W args v W' := by
  have hlt : ∀ p ∈ before, p.block < W.heap.size := fun p hp => hW.lt p hp
  have hold : ∀ p ∈ before, (fun b => decide (b < W.heap.size)) p.block = true := fun p hp => by simpa using hlt p hp
  refine ⟨ds, gs, before, [], pa, pv, hW, hres _ _ _, hargs _ hold, hvars _ hold, World.keptBut_mono (fun p hp => ⟨hp, ?_⟩) (hb.frame (· ∈ before)), fun _ => ?_⟩
  · rw [hps, List.mem_append] at hp
    exact Or.inr hp
  · obtain ⟨_, _, _, _, _, hz, hn⟩ := hW
    refine ⟨hok, _, _, ([] ++ pa) ++ pv, ⟨[] ++ pa, pv, trodAll_append (hargs _ (fun _ _ => rfl)) (hres _ _ _), hvars _ (fun _ _ => rfl), rfl, ?_, ?_⟩, ?_⟩
    · intro b off hp
      have hin : MemPlace.cell b off ∈ before := by rw [hps]; simpa using hp
      rw [hb.frozen (hlt _ hin)]
      exact hz b off hin
    · intro ha
      have := hn ha
      rw [hps] at this
      simpa using this
    · intro p hp _
      rw [hps]
      simpa using hp
end Go.Proofs.Ytbkhhfekdpkhbaa.Ab

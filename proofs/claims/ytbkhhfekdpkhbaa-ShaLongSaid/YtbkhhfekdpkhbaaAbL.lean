/- Conversions, slices of slices, fields, indexes; one condition: what floats of small numbers are. -/
import Derived.Test.YtbkhhfekdpkhbaaAbK
namespace Go.Proofs.Ytbkhhfekdpkhbaa.Ab
open Go

section
variable {P : Program} {ti : TypeId → TyI} {K : Nat → Bool} {ρ : Nat → Hd} {G : Nat → Prop} {heap : Nat → Option Row} {w : World}

theorem TOK.some {T : TypeId} (h : TOK P ti T) : ∃ d, P.underlying T = some d := by
  have hu := h.und
  split at hu
  · exact ⟨_, hu.1⟩
  · exact ⟨_, hu.1⟩
  · exact ⟨_, hu.1⟩
  · exact ⟨_, hu.1⟩
  · exact ⟨_, hu.1⟩
  · exact ⟨_, hu.1⟩
  · obtain ⟨F, h, _⟩ := hu; exact ⟨_, h⟩
  · obtain ⟨⟨d, h, _⟩, _⟩ := hu; exact ⟨_, h⟩

theorem byteT_ok (hti : TiOK P ti) {T : TypeId} (h : byteT ti T = true) : ∃ e, (ti T).k = .sl e ∧ P.underlying T = some (.slice e) ∧ P.underlying e = some (.int .u8) := by
  unfold byteT at h
  simp only [Bool.and_eq_true] at h
  obtain ⟨h1, h2⟩ := h
  split at h2
  · rename_i e hk
    simp only [Bool.and_eq_true] at h2
    obtain ⟨h3, h4⟩ := h2
    have hu := (hti T h1).und
    rw [hk] at hu
    have hv := (hti e h3).und
    split at h4
    · rename_i hk'
      rw [hk'] at hv
      exact ⟨e, hk, hu.1, hv.1⟩
    · cases h4
  · cases h2

/-- What is a list is a slice, or a string. -/
theorem listOf_slice {t : DT} {c : V} {v : Value} (r : Rep K ρ G w c v) {p : Prop} {xs : List t.T} {a b : List Nat} (h : listOf ti t heap c = some (p, xs, a, b)) :
    (∃ s, c = .v (.string s)) ∨ ∃ a n c, v = .slice a n c := by
  cases r <;> (try (exact .inr ⟨_, _, _, rfl⟩)) <;> (try (simp only [listOf, immOne, decD] at h; cases h; done))
  case v =>
    cases v <;> first | (exact .inl ⟨_, rfl⟩) | (exact .inr ⟨_, _, _, rfl⟩) | (simp only [listOf, immOne, decD] at h; cases h)

theorem bytes_cells {xs : List UInt8} {us : List Value} (hl : us.length = xs.length * 1)
    (h : ∀ (q : Nat) (hq : q < xs.length) (j : Nat) (c : V), ([V.b xs[q]])[j]? = some c → ∃ u, us[q * 1 + j]? = some u ∧ Rep K ρ G w c u) : us = (xs.map fun b => (b.toNat : Int)).map (Value.int .u8) := by
  apply List.ext_getElem?
  intro q
  by_cases hq : q < xs.length
  · obtain ⟨u, h1, h2⟩ := h q hq 0 _ rfl
    simp only [Nat.mul_one, Nat.add_zero] at h1
    cases h2
    rw [h1]
    simp [hq]
  · rw [List.getElem?_eq_none (by omega), List.getElem?_eq_none (by simp; omega)]

theorem string_ok {xs : List UInt8} {a : Option Addr} {n c : Nat} (s : Src P K ρ G w (.slice a n c) .u8 xs) : (Conv.bytesToString (.slice a n c)).run P w = .ok (.string ⟨xs.toArray⟩) w := by
  have hn : n = xs.length := by
    have := s.len w
    simp [Builtin.lenOf] at this
    exact this
  subst hn
  obtain ⟨us, h1, h2, h3⟩ := s.cells
  have h3' := h3 _ (Nat.le_refl _) w (fun _ => rfl)
  have hus := bytes_cells (K := K) (ρ := ρ) (G := G) (w := w) (xs := xs) (us := us) h1 h2
  have h1' : us.length = xs.length := by simpa using congrArg List.length hus
  cases a with
  | none =>
    have e : (Builtin.firstCells DT.u8.size xs.length (.slice none xs.length c)).run P w = .ok #[] w := by simp [Builtin.firstCells]
    have h3'' := e.symm.trans h3'
    simp only [Result.ok.injEq, and_true] at h3''
    have h0 : (us.take (xs.length * DT.u8.size)).length = 0 := by
      have := congrArg Array.size h3''
      rw [List.size_toArray] at this
      exact this.symm
    have h4 : xs.length = 0 := by
      rw [List.length_take] at h0
      simp only [DT.size, Nat.mul_one] at h0
      omega
    have h5 : xs = [] := List.eq_nil_of_length_eq_zero h4
    subst h5
    simp [Conv.bytesToString]
    rfl
  | some ad =>
    have e : (loadCells ad xs.length).run P w = .ok ((xs.map fun b => (b.toNat : Int)).map (Value.int .u8)).toArray w := by
      have h4 : (loadCells ad (xs.length * 1)).run P w = .ok (us.take (xs.length * 1)).toArray w := h3'
      rw [Nat.mul_one, ← h1', List.take_length] at h4
      rw [← hus, ← h1']
      exact h4
    rw [run_bytesToString w ad xs.length c _ e, foldl_push_byteCells]
    have he0 : ByteArray.empty.data = #[] := rfl
    rw [he0]
    simp

/-- A mark behind a row's last cell. -/
theorem mark_turn (m : HRel K ρ G heap w) {h : Nat} {e : TypeId} {l : List V} (hh : heap h = some (.lit e l)) (a : Addr) (ha : a.block = (ρ h).b) :
    ∃ w', (markStringish a).run P w = .ok () w' ∧ HRel K ρ G (upd heap h (some (.lit e l))) w' ∧ Evo K ρ G heap w K ρ G (upd heap h (some (.lit e l))) w' := by
  obtain ⟨hn, htl, hok, cs, fz, hb, hcl, hcs⟩ := (m.row h _ hh).2.1
  have hlt : (ρ h).b < w.heap.size := (Array.getElem?_eq_some_iff.1 hb).1
  refine ⟨w.freeze ⟨(ρ h).b, cs.size, none⟩ 1, ?_, m.turn hh hn ?_ ?_ ?_ ?_ ?_ ?_⟩
  · have hsh : w.shape? (ρ h).b = some (e, cs.size) := by unfold World.shape?; rw [hb]
    simp [markStringish, hsh, ha]
  · unfold World.freeze; split <;> rfl
  · unfold World.freeze; split <;> rfl
  · unfold World.freeze; split <;> rfl
  · unfold World.freeze; split <;> simp
  · intro b hb'
    unfold World.freeze
    rw [if_neg (by decide)]
    simp [Array.getElem?_modify, Ne.symm hb']
  · obtain ⟨lo, hi⟩ := fz
    have hat : (w.freeze ⟨(ρ h).b, cs.size, none⟩ 1).heap[(ρ h).b]? = some (.cells cs e (if (lo == hi) = true then (cs.size, cs.size + 1) else (min lo cs.size, max hi (cs.size + 1)))) := by
      unfold World.freeze
      rw [if_neg (by decide)]
      simp only [Array.getElem?_modify, if_pos]
      rw [hb]
      rfl
    have hG : ¬ G (ρ h).b := ((m.row h _ hh).2.2 hn).1
    refine ⟨hn, htl, hok, cs, _, hat, .inr (by by_cases e : lo = hi <;> rcases hcl with hc | hc <;> simp_all), hcs.mono (fun _ h => ⟨h, rfl⟩) (fun _ h => h) (fun b hb' => ?_)⟩
    unfold World.freeze
    rw [if_neg (by decide)]
    have : (ρ h).b ≠ b := fun e => hG (e ▸ hb')
    simp [Array.getElem?_modify, this]
end
end Go.Proofs.Ytbkhhfekdpkhbaa.Ab

/- What copy does; no condition. -/
import Derived.Test.YtbkhhfekdpkhbaaAbP
namespace Go.Proofs.Ytbkhhfekdpkhbaa.Ab
open Go

section
variable {P : Program} {ti : TypeId → TyI} {K : Nat → Bool} {ρ : Nat → Hd} {G : Nat → Prop} {heap : Nat → Option Row} {w : World}

theorem Ok.turned {h : Nat} {r : Row} {e : Eff} (hp : e.put = [(h, some r)]) (hnew : e.new = []) {s : Sem Value} {z : Value} {w1 : World} (hs : s.run P w = .ok z w1)
    (x : HRel K ρ G (upd heap h (some r)) w1 ∧ Evo K ρ G heap w K ρ G (upd heap h (some r)) w1) (hz : Rep K ρ G w1 e.val z) : Ok P K ρ G heap w e s := by
  refine ⟨z, w1, ρ, G, hs, ?_, ?_, ?_⟩ <;> rw [hnew] <;> simp only [mark, news] <;> try exact hz
  · rw [hp]; exact x.1
  · rw [hp]; exact x.2

theorem upd_self {α : Type} (f : Nat → α) (d : Nat) : upd f d (f d) = f := by
  funext t
  by_cases e : t = d
  · subst e; rw [upd_same]
  · rw [upd_ne _ _ _ e]

/-- A row that stays. -/
theorem HRel.same (m : HRel K ρ G heap w) {h : Nat} {r : Row} (hh : heap h = some r) : HRel K ρ G (upd heap h (some r)) w ∧ Evo K ρ G heap w K ρ G (upd heap h (some r)) w := by
  rw [← hh, upd_self]
  exact ⟨m, Evo.refl _ _ _ _ _⟩

theorem over_length {α : Type} (xs ys : List α) (off n : Nat) (h : off + n ≤ xs.length) (hy : n ≤ ys.length) : (over xs ys off n).length = xs.length := by
  unfold over; simp; omega

theorem over_get {α : Type} (xs ys : List α) (off n q : Nat) (h : off + n ≤ xs.length) (hy : n ≤ ys.length) :
    (over xs ys off n)[q]? = if q < off then xs[q]? else if q < off + n then ys[q - off]? else xs[q]? := by
  have := seg_get xs (ys.take n) off q (by simp; omega)
  have e : (ys.take n).length = n := by simp; omega
  rw [e] at this
  unfold over
  rw [this]
  by_cases h1 : q < off
  · rw [if_pos h1, if_pos h1]
  · rw [if_neg h1, if_neg h1]
    by_cases h2 : q < off + n
    · rw [if_pos h2, if_pos h2, List.getElem?_take, if_pos (by omega)]
    · rw [if_neg h2, if_neg h2]

theorem run_copy' {T T' ty el : TypeId} (hT : P.underlying T = some (.slice el)) {sz : Nat} (hsz : ∀ w, (sizeOf el).run P w = .ok sz w) {n m cap : Nat} {ao : Option Addr} {v : Value} {us : List Value}
    (hlen : (Builtin.lenOf v).run P w = .ok m w) (hc : (Builtin.firstCells sz (min m n) v).run P w = .ok us.toArray w) {w1 : World} (hst : ∀ a, ao = some a → (storeCells a us).run P w = .ok () w1) (hno : ao = none → w1 = w) :
    (Builtin.copy_ #[T, T'] ty #[.slice ao n cap, v]).run P w = .ok (goInt (min m n : Nat)) w1 := by
  have e : Nat.min m n = min m n := rfl
  cases ao with
  | none => simp [Builtin.copy_, run_underlying hT, hlen, hsz, e, hc, hno rfl]
  | some a => simp [Builtin.copy_, run_underlying hT, hlen, hsz, e, hc, hst a rfl]

/-- The elements behind a copy. -/
theorem Elems.over {t : DT} {xs ys : List t.T} {cs : Array Value} (el : Elems K ρ G w t xs cs) {off n : Nat} (h : off + n ≤ xs.length) (hy : n ≤ ys.length) (hcs : xs.length * t.size ≤ cs.size) {us : List Value} (hl : us.length = ys.length * t.size)
    (hu : ∀ (q : Nat) (hq : q < ys.length) (j : Nat) (c : V), (enc t ys[q])[j]? = some c → ∃ u, us[q * t.size + j]? = some u ∧ Rep K ρ G w c u) :
    Elems K ρ G w t (Ab.over xs ys off n) (cs.toList.take (off * t.size) ++ us.take (n * t.size) ++ cs.toList.drop (off * t.size + (us.take (n * t.size)).length)).toArray := by
  intro q hq j c hc
  have hqx : q < xs.length := by rwa [over_length _ _ _ _ h hy] at hq
  have hj : j < t.size := by have := (List.getElem?_eq_some_iff.1 hc).1; rwa [enc_length] at this
  have hn : (us.take (n * t.size)).length = n * t.size := by rw [List.length_take, hl]; exact Nat.min_eq_left (Nat.mul_le_mul_right _ hy)
  have hin : (off + n) * t.size ≤ cs.size := Nat.le_trans (Nat.mul_le_mul_right _ h) hcs
  have hseg := seg_get cs.toList (us.take (n * t.size)) (off * t.size) (q * t.size + j) (by rw [hn, Array.length_toList, ← Nat.add_mul]; exact hin)
  rw [List.getElem?_toArray, hseg, hn]
  have hget := over_get xs ys off n q h hy
  rw [List.getElem?_eq_getElem hq] at hget
  have mulo : ∀ a b : Nat, a < b → a * t.size + j < b * t.size := by
    intro a b hab
    have : (a + 1) * t.size ≤ b * t.size := Nat.mul_le_mul_right _ hab
    rw [Nat.add_mul, Nat.one_mul] at this; omega
  by_cases h1 : q < off
  · rw [if_pos h1] at hget
    rw [List.getElem?_eq_getElem hqx, Option.some.injEq] at hget
    rw [hget] at hc
    rw [if_pos (mulo q off h1), Array.getElem?_toList]
    exact el q hqx j c hc
  · have g1 : off * t.size ≤ q * t.size := Nat.mul_le_mul_right _ (by omega)
    rw [if_neg h1] at hget
    rw [if_neg (by omega)]
    by_cases h2 : q < off + n
    · have hq2 : q - off < ys.length := by omega
      rw [if_pos h2, List.getElem?_eq_getElem hq2, Option.some.injEq] at hget
      rw [hget] at hc
      have g2 := mulo q (off + n) h2
      rw [Nat.add_mul] at g2
      rw [if_pos g2]
      obtain ⟨u, u1, u2⟩ := hu _ hq2 j c hc
      refine ⟨u, ?_, u2⟩
      have e : q * t.size + j - off * t.size = (q - off) * t.size + j := by rw [Nat.sub_mul]; omega
      rw [e, List.getElem?_take, if_pos (mulo _ _ (by omega))]
      exact u1
    · rw [if_neg h2, List.getElem?_eq_getElem hqx, Option.some.injEq] at hget
      rw [hget] at hc
      have g3 : (off + n) * t.size ≤ q * t.size := Nat.mul_le_mul_right _ (by omega)
      rw [Nat.add_mul] at g3
      rw [if_neg (by omega), Array.getElem?_toList]
      exact el q hqx j c hc

theorem copy_ok (hti : TiOK P ti) (S : St) (m : HRel K ρ G S.heap w) {T T' ty : TypeId} (hk : known ti T = true) {x y : V} {u v : Value} (rx : Rep K ρ G w x u) (ry : Rep K ρ G w y v)
    {e : Eff} (h : copyV ti S T x y = some e) (hn : e.need) : Ok P K ρ G S.heap w e (Builtin.copy_ #[T, T'] ty #[u, v]) := by
  have hu := (hti T hk).und
  unfold copyV at h
  split at h
  · rename_i el hkk
    rw [hkk] at hu
    split at h
    · rename_i t ht
      replace h := bif_some h; obtain ⟨hke, h⟩ := h
      have hE := hti el hke
      have hsz : t.size = (ti el).size := (hE.dt t ht).1
      split at h
      · rename_i p ys a hy
        -- what is copied
        have key : p → Src P K ρ G w v t ys := by
          intro hp
          have s := listOf_ok (P := P) m ry hy hp
          obtain ⟨us, a1, a2, a3⟩ := s.cells
          refine ⟨s.len, us, a1, fun q hq j c hc => ?_, a3⟩
          obtain ⟨u, b1, b2⟩ := a2 q hq j c hc
          refine ⟨u, b1, b2.mono (fun _ h => ⟨h, rfl⟩) (fun b hb => ?_) (fun _ _ => rfl)⟩
          rcases hb with hb | ⟨_, hm, _⟩
          · exact hb
          · cases hm
        -- the copy into a row's block
        have fin : ∀ {hd : Nat} {r r' : Row} {xs : List t.T} {cs : Array Value} {e0 : TypeId} {fz : Nat × Nat} {off len c : Nat} {ad : Addr}, Src P K ρ G w v t ys → S.heap hd = some r → (ρ hd).nil = false →
            w.heap[(ρ hd).b]? = some (.cells cs e0 fz) → Clear cs.size fz → xs.length * t.size ≤ cs.size → Elems K ρ G w t xs cs → off + len ≤ xs.length → (len ≠ 0 → ad = ⟨(ρ hd).b, off * t.size, none⟩) →
            (min ys.length len = 0 → r = r') →
            (∀ {w1 : World} {cs' : Array Value}, w1.heap[(ρ hd).b]? = some (.cells cs' e0 fz) → cs'.size = cs.size → Elems K ρ G w1 t (over xs ys off (min ys.length len)) cs' → RowRep K ρ G w1 hd r') →
            ∃ w1, (Builtin.copy_ #[T, T'] ty #[.slice (some ad) len c, v]).run P w = .ok (goInt (min ys.length len : Nat)) w1 ∧ HRel K ρ G (upd S.heap hd (some r')) w1 ∧ Evo K ρ G S.heap w K ρ G (upd S.heap hd (some r')) w1 := by
          intro hd r r' xs cs e0 fz off len c ad src hr hn hb hcl hcs hel hle had hsame hrow
          obtain ⟨us, a1, a2, a3⟩ := src.cells
          have hc := a3 (min ys.length len) (Nat.min_le_left _ _) w (fun _ => rfl)
          by_cases h0 : min ys.length len = 0
          · have := hsame h0
            subst this
            refine ⟨w, run_copy' hu.1 hE.sizeOf (src.len w) (hsz ▸ hc) (fun a _ => ?_) (fun _ => rfl), m.same hr⟩
            rw [h0, Nat.zero_mul, List.take_zero]
            rfl
          · have hlen : len ≠ 0 := by intro e; rw [e, Nat.min_zero] at h0; exact h0 rfl
            have hmn : min ys.length len ≤ len := Nat.min_le_right _ _
            have hmy : min ys.length len ≤ ys.length := Nat.min_le_left _ _
            have hl2 : (us.take (min ys.length len * t.size)).length = min ys.length len * t.size := by rw [List.length_take, a1]; exact Nat.min_eq_left (Nat.mul_le_mul_right _ hmy)
            have hin : off * t.size + min ys.length len * t.size ≤ cs.size := by
              rw [← Nat.add_mul]; exact Nat.le_trans (Nat.mul_le_mul_right _ (by omega)) hcs
            have hone : ∀ u ∈ us.take (min ys.length len * t.size), u.oneCell' = true := by
              intro u hu
              obtain ⟨k, hk1, hk2⟩ := List.getElem_of_mem (List.mem_of_mem_take hu)
              have hpos := dt_pos t
              have hq : k / t.size < ys.length := Nat.div_lt_of_lt_mul (by rw [Nat.mul_comm]; omega)
              have hr : k % t.size < t.size := Nat.mod_lt _ hpos
              have hc0 : (enc t ys[k / t.size])[k % t.size]? = some ((enc t ys[k / t.size])[k % t.size]'(by rw [enc_length]; exact hr)) := by rw [List.getElem?_eq_getElem]
              obtain ⟨u', h1, h2⟩ := a2 _ hq _ _ hc0
              rw [Nat.mul_comm, Nat.div_add_mod, List.getElem?_eq_getElem hk1] at h1
              cases h1
              rw [← hk2]
              exact one_of_enc hc0 h2
            have hst := run_storeCells_fz P (ρ hd).b (off * t.size) e0 fz (us.take (min ys.length len * t.size)) 0 cs w hb hcl (by rw [Nat.add_zero, hl2]; exact hin) hone
            simp only [Nat.add_zero] at hst
            refine ⟨w.setRow (ρ hd).b (cs.toList.take (off * t.size) ++ us.take (min ys.length len * t.size) ++ cs.toList.drop (off * t.size + (us.take (min ys.length len * t.size)).length)).toArray, run_copy' hu.1 hE.sizeOf (src.len w) (us := us.take (min ys.length len * t.size)) (hsz ▸ hc) (fun a ha => ?_) (fun e => by cases e), m.turn hr hn rfl rfl rfl (by simp) (fun b hb => setRow_other w _ b _ hb) ?_⟩
            · cases ha
              rw [had hlen]
              exact hst
            · have hkeep := HRel.keepsG m hr hn ((cs.toList.take (off * t.size) ++ us.take (min ys.length len * t.size) ++ cs.toList.drop (off * t.size + (us.take (min ys.length len * t.size)).length)).toArray)
              refine hrow (setRow_heap w _ cs _ e0 fz hb) (by simp only [List.size_toArray, List.length_append, hl2, List.length_take, List.length_drop, Array.length_toList]; omega) ?_
              have := Elems.over hel (off := off) (n := min ys.length len) (by omega) hmy hcs a1 a2
              exact this.mono (fun _ h => ⟨h, rfl⟩) (fun _ h => h) hkeep
        unfold copyInto at h
        split at h
        · rename_i hd
          split at h
          · rename_i e0 t' xs' hr
            split at h
            · rename_i xs hd'
              cases h
              obtain ⟨et, hxs⟩ := decD_cast hd'
              subst et
              simp only at hxs
              subst hxs
              have src := key hn
              obtain ⟨hlen, hrow⟩ := (m.row hd _ hr).2.1
              cases rx with
              | owNil _ hk1 hn1 =>
                rcases hrow with ⟨_, rfl⟩ | ⟨hnil, _⟩
                · have hm : min ys.length ([] : List t'.T).length = 0 := by simp
                  refine Ok.turned rfl rfl (run_copy' (w1 := w) hu.1 hE.sizeOf (src.len w) (us := []) ?_ (fun a ha => by cases ha) (fun _ => rfl)) ?_ ?_
                  · obtain ⟨us, _, _, a3⟩ := src.cells
                    have := a3 0 (Nat.zero_le _) w (fun _ => rfl)
                    rw [hsz] at this
                    simpa using this
                  · rw [hm]
                    have : over [] ys 0 0 = ([] : List t'.T) := by simp [over]
                    rw [this]
                    exact m.same hr
                  · exact .v _
                · rw [hn1] at hnil; cases hnil
              | ow _ hk1 hn1 =>
                rcases hrow with ⟨hnil, _⟩ | ⟨_, htot, hcap, cs, fz, hb, hcl, hcsz, hel⟩
                · rw [hn1] at hnil; cases hnil
                have hcs : xs.length * t'.size ≤ cs.size := by rw [hcsz]; exact Nat.mul_le_mul_right _ hcap
                obtain ⟨w1, r1, r2⟩ := fin (r' := .buf e0 t' (over xs ys 0 (min ys.length xs.length))) (off := 0) (len := xs.length) (c := (ρ hd).cap) (ad := ⟨(ρ hd).b, 0, none⟩) src hr hn1 hb hcl hcs hel (by omega) (fun _ => by simp)
                  (fun h0 => by rw [h0]; simp [over])
                  (fun {w1 cs'} b1 b2 b3 => ⟨by rw [over_length _ _ _ _ (by omega) (by omega)]; exact hlen, .inr ⟨hn1, htot, by rw [over_length _ _ _ _ (by omega) (by omega)]; exact hcap, cs', fz, b1, by rw [b2]; exact hcl, by rw [b2]; exact hcsz, b3⟩⟩)
                rw [hlen] at r1
                exact Ok.turned rfl rfl r1 (by rw [← hlen] at *; exact r2) (by rw [hlen]; exact .v _)
            · cases h
          · cases h
        · rename_i hd base s off len lim
          replace h := bif_some h; obtain ⟨hc, h⟩ := h
          simp only [Bool.and_eq_true] at hc
          have c1 := Nat.eq_of_beq_eq_true hc.1
          have c2 := Nat.eq_of_beq_eq_true hc.2
          subst c1; subst c2
          split at h
          · rename_i e0 t' xs' hr
            split at h
            · rename_i xs hd'
              cases h
              obtain ⟨et, hxs⟩ := decD_cast hd'
              subst et
              simp only at hxs
              subst hxs
              obtain ⟨hp, hle⟩ := hn
              have src := key hp
              obtain ⟨hlen, hrow⟩ := (m.row hd _ hr).2.1
              cases rx with
              | ownNil _ _ _ _ hk1 hn1 =>
                refine Ok.turned rfl rfl (run_copy' (w1 := w) hu.1 hE.sizeOf (src.len w) (us := []) ?_ (fun a ha => by cases ha) (fun _ => rfl)) ?_ ?_
                · obtain ⟨us, _, _, a3⟩ := src.cells
                  have := a3 0 (Nat.zero_le _) w (fun _ => rfl)
                  rw [hsz] at this
                  simpa using this
                · have : over xs ys 0 (min ys.length 0) = xs := by simp [over]
                  rw [this]
                  exact m.same hr
                · exact .v _
              | own _ _ _ _ _ c _ ad hk1 hn1 hl ha hlim htot =>
                rcases hrow with ⟨hnil, _⟩ | ⟨_, htot', hcap, cs, fz, hb, hcl, hcsz, hel⟩
                · rw [hn1] at hnil; cases hnil
                have hcs : xs.length * t'.size ≤ cs.size := by rw [hcsz]; exact Nat.mul_le_mul_right _ hcap
                obtain ⟨w1, r1, r2⟩ := fin (r' := .buf e0 t' (over xs ys off (min ys.length len))) (off := off) (len := len) (c := c) (ad := ad) src hr hn1 hb hcl hcs hel hle (fun hne => by rw [ha (.inl (by omega))]; simp)
                  (fun h0 => by rw [h0]; simp [over])
                  (fun {w1 cs'} b1 b2 b3 => ⟨by rw [over_length _ _ _ _ (by omega) (by omega)]; exact hlen, .inr ⟨hn1, htot', by rw [over_length _ _ _ _ (by omega) (by omega)]; exact hcap, cs', fz, b1, by rw [b2]; exact hcl, by rw [b2]; exact hcsz, b3⟩⟩)
                exact Ok.turned rfl rfl r1 r2 (.v _)
            · cases h
          · rename_i e0 t' xs' hr
            split at h
            · rename_i xs hd'
              cases h
              obtain ⟨et, hxs⟩ := decD_cast hd'
              subst et
              simp only at hxs
              subst hxs
              obtain ⟨hp, hle⟩ := hn
              have src := key hp
              obtain ⟨hn0, htt, cs, fz, hb, hcl, hcsz, hel⟩ := (m.row hd _ hr).2.1
              cases rx with
              | ownNil _ _ _ _ hk1 hn1 => rw [hn1] at hn0; cases hn0
              | own _ _ _ _ _ c _ ad hk1 hn1 hl ha hlim htot =>
                obtain ⟨w1, r1, r2⟩ := fin (r' := .arr e0 t' (over xs ys off (min ys.length len))) (off := off) (len := len) (c := c) (ad := ad) src hr hn1 hb hcl (by omega) hel hle (fun hne => by rw [ha (.inl (by omega))]; simp)
                  (fun h0 => by rw [h0]; simp [over])
                  (fun {w1 cs'} b1 b2 b3 => ⟨hn1, by rw [over_length _ _ _ _ (by omega) (by omega)]; exact htt, cs', fz, b1, by rw [b2]; exact hcl, by rw [b2, over_length _ _ _ _ (by omega) (by omega)]; exact hcsz, b3⟩)
                exact Ok.turned rfl rfl r1 r2 (.v _)
            · cases h
          · cases h
        · cases h
      · cases h
    · cases h
  · cases h
end
end Go.Proofs.Ytbkhhfekdpkhbaa.Ab

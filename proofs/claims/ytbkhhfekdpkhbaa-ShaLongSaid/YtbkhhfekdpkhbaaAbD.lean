/- Back from cells to elements, rows that come, turn and go; no condition. -/
import Derived.Test.YtbkhhfekdpkhbaaAbC
namespace Go.Proofs.Ytbkhhfekdpkhbaa.Ab
open Go

/-- Whatever one says, the other says. -/
def Sub (c' c : V) : Prop := ∀ (K : Nat → Bool) (ρ : Nat → Hd) (G : Nat → Prop) (w : World) (u : Value), Rep K ρ G w c' u → Rep K ρ G w c u
def Subs (l m : List V) : Prop := l.length = m.length ∧ ∀ (j : Nat) (c : V), m[j]? = some c → ∃ c', l[j]? = some c' ∧ Sub c' c

theorem Sub.refl (c : V) : Sub c c := fun _ _ _ _ _ h => h
theorem Subs.nil : Subs [] [] := ⟨rfl, fun j c h => by simp at h⟩
theorem Subs.refl (l : List V) : Subs l l := ⟨rfl, fun _ c h => ⟨c, h, Sub.refl c⟩⟩
theorem Subs.cons {a b : V} {l m : List V} (h : Sub a b) (k : Subs l m) : Subs (a :: l) (b :: m) := by
  refine ⟨by simp [k.1], fun j c hj => ?_⟩
  cases j with
  | zero => simp at hj; subst hj; exact ⟨a, by simp, h⟩
  | succ j => simp at hj; obtain ⟨c', h1, h2⟩ := k.2 j c hj; exact ⟨c', by simpa using h1, h2⟩
theorem Subs.append {l m l' m' : List V} (h : Subs l m) (k : Subs l' m') : Subs (l ++ l') (m ++ m') := by
  refine ⟨by simp [h.1, k.1], fun j c hj => ?_⟩
  rw [List.getElem?_append] at hj ⊢
  rw [h.1]
  split at hj
  · rename_i hlt; rw [if_pos hlt]; exact h.2 j c hj
  · rename_i hlt; rw [if_neg hlt]; exact k.2 _ c hj

theorem decU8_sub {c : V} {p : Prop} {x : UInt8} (h : decU8 c = some (p, x)) (hp : p) : Sub c (.b x) := by
  intro K ρ G w u r
  unfold decU8 at h
  split at h
  · cases h; exact r
  · rename_i n
    cases h
    cases r
    have e : ((UInt8.ofNat n.toNat).toNat : Int) = n := by
      rw [UInt8.toNat_ofNat_of_lt' (by simp only [UInt8.size]; omega)]; exact Int.toNat_of_nonneg hp.1
    have := Rep.b (K := K) (ρ := ρ) (G := G) (w := w) (UInt8.ofNat n.toNat)
    rwa [e] at this
  · cases h

theorem decB_sub : ∀ (n : Nat) (l : List V) (p : Prop) (xs : List UInt8), decB n l = some (p, xs) → p → xs.length = n ∧ Subs l (xs.map V.b) := by
  intro n
  induction n with
  | zero =>
    intro l p xs h _
    cases l with
    | nil => simp only [decB] at h; cases h; exact ⟨rfl, Subs.nil⟩
    | cons c l => simp only [decB] at h; cases h
  | succ n ih =>
    intro l p xs h hp
    cases l with
    | nil => simp only [decB] at h; cases h
    | cons c l =>
      simp only [decB] at h
      cases h1 : decU8 c with
      | none => simp only [h1] at h; cases h
      | some a =>
        cases h2 : decB n l with
        | none => simp only [h1, h2] at h; cases h
        | some b =>
          simp only [h1, h2] at h
          cases h
          obtain ⟨hl, hs⟩ := ih l b.1 b.2 h2 hp.2
          exact ⟨by simp [hl], Subs.cons (decU8_sub h1 hp.1) hs⟩

theorem hashV_eq (xs : List UInt8) (h : xs.length = 32) : hashV xs = xs.map V.b := by
  unfold hashV
  apply List.ext_getElem?
  intro j
  simp only [List.getElem?_map]
  by_cases hj : j < 32
  · simp [List.getElem?_range hj, List.getElem?_eq_getElem (show j < xs.length by omega)]
  · have h1 : (List.range 32)[j]? = none := List.getElem?_eq_none (by simp; omega)
    have h2 : xs[j]? = none := List.getElem?_eq_none (by omega)
    simp [h1, h2]

theorem hash_sub {l : List V} {p : Prop} {xs : List UInt8} (h : decB 32 l = some (p, xs)) (hp : p) : Subs l (hashV xs) := by
  obtain ⟨hl, hs⟩ := decB_sub 32 l p xs h hp
  rw [hashV_eq xs hl]; exact hs

theorem decI_sub {c : V} {n : Int} (h : decI c = some n) : Sub c (iV n) := by
  unfold decI at h
  split at h <;> cases h
  exact Sub.refl _
theorem decS_sub {c : V} {n : ByteArray} (h : decS c = some n) : Sub c (.v (.string n)) := by
  unfold decS at h
  split at h <;> cases h
  exact Sub.refl _
theorem decD_sub {t : DT} {c : V} {xs : List t.T} (h : decD t c = some xs) : Sub c (.deep t xs) := by
  unfold decD at h
  split at h
  · split at h <;> cases h <;> exact Sub.refl _
  · cases h
    intro K ρ G w u r
    cases r
    exact .deepE t none 0 (fun _ => rfl)
  · cases h

theorem decByte_sub {l : List V} {p : Prop} {x : UInt8} (h : decByte l = some (p, x)) (hp : p) : Subs l [.b x] := by
  match l with
  | [c] => simp only [decByte] at h; exact Subs.cons (decU8_sub h hp) Subs.nil
  | [] | _ :: _ :: _ => simp only [decByte] at h; cases h
theorem decInt_sub {k : IntKind} {l : List V} {p : Prop} {x : Int} (h : decInt k l = some (p, x)) : Subs l [.v (.int k x)] := by
  unfold decInt at h
  split at h
  · split at h
    · rename_i e; subst e; cases h; exact Subs.refl _
    · cases h
  · cases h
theorem decComp_sub {l : List V} {p : Prop} {x : Comp} (h : decComp l = some (p, x)) : Subs l (enc .comp x) := by
  match l with
  | [a, b, c] =>
    simp only [decComp] at h
    cases h1 : decI a <;> cases h2 : decI b <;> cases h3 : decS c <;> simp only [h1, h2, h3] at h <;> cases h
    exact Subs.cons (decI_sub h1) (Subs.cons (decI_sub h2) (Subs.cons (decS_sub h3) Subs.nil))
  | [] | [_] | [_, _] | _ :: _ :: _ :: _ :: _ => simp only [decComp] at h; cases h
theorem decUA_sub {l : List V} {p : Prop} {x : UA} (h : decUA l = some (p, x)) : Subs l (enc .ua x) := by
  match l with
  | [a, b] =>
    simp only [decUA] at h
    cases h1 : decI a <;> cases h2 : decI b <;> simp only [h1, h2] at h <;> cases h
    exact Subs.cons (decI_sub h1) (Subs.cons (decI_sub h2) Subs.nil)
  | [] | [_] | _ :: _ :: _ :: _ => simp only [decUA] at h; cases h
theorem decBytes_sub {l : List V} {p : Prop} {x : List UInt8} (h : decBytes l = some (p, x)) : Subs l (enc .bytes x) := by
  match l with
  | [c] =>
    simp only [decBytes] at h
    cases h1 : decD .u8 c <;> simp only [h1] at h <;> cases h
    exact Subs.cons (decD_sub h1) Subs.nil
  | [] | _ :: _ :: _ => simp only [decBytes] at h; cases h
theorem decEn_sub {l : List V} {p : Prop} {x : En} (h : decEn l = some (p, x)) (hp : p) : Subs l (enc .en x) := by
  match l with
  | body :: l =>
    simp only [decEn] at h
    cases h1 : decD .u8 body with
    | none => simp only [h1] at h; cases h
    | some body' =>
    cases h2 : decB 32 (l.take 32) with
    | none => simp only [h1, h2] at h; cases h
    | some mac' =>
    simp only [h1, h2] at h
    match hd : l.drop 32, h with
    | at_ :: op :: r, h =>
      simp only at h
      cases h3 : decI at_ <;> cases h4 : decD .comp op <;> cases h5 : decB 32 (r.take 32) <;> cases h6 : decB 32 (r.drop 32) <;> simp only [h3, h4, h5, h6] at h <;> cases h
      have e : body :: l = body :: (l.take 32 ++ at_ :: op :: (r.take 32 ++ r.drop 32)) := by
        rw [List.take_append_drop, ← hd, List.take_append_drop]
      rw [e]
      exact Subs.cons (decD_sub h1) (Subs.append (hash_sub h2 hp.1) (Subs.cons (decI_sub h3) (Subs.cons (decD_sub h4) (Subs.append (hash_sub h5 hp.2.1) (hash_sub h6 hp.2.2)))))
    | [], h => simp only at h; cases h
    | [_], h => simp only at h; cases h
  | [] => simp only [decEn] at h; cases h
theorem decSta_sub {l : List V} {p : Prop} {x : Sta} (h : decSta l = some (p, x)) (hp : p) : Subs l (enc .sta x) := by
  match l with
  | a :: b :: c :: d :: e :: l =>
    simp only [decSta] at h
    cases h1 : decI a with
    | none => simp only [h1] at h; cases h
    | some a' =>
    cases h2 : decI b with
    | none => simp only [h1, h2] at h; cases h
    | some b' =>
    cases h3 : decS c <;> cases h4 : decD .ua d <;> cases h5 : decI e <;> cases h6 : decB 32 l <;> simp only [h1, h2, h3, h4, h5, h6] at h <;> cases h
    exact Subs.cons (decI_sub h1) (Subs.cons (decI_sub h2) (Subs.cons (decS_sub h3) (Subs.cons (decD_sub h4) (Subs.cons (decI_sub h5) (hash_sub h6 hp)))))
  | [] | [_] | [_, _] | [_, _, _] | [_, _, _, _] => simp only [decSta] at h; cases h
theorem decStp_sub {l : List V} {p : Prop} {x : Stp} (h : decStp l = some (p, x)) : Subs l (enc .stp x) := by
  match l with
  | [a, b, c, d] =>
    simp only [decStp] at h
    cases h1 : decI a <;> cases h2 : decI b <;> cases h3 : decI c <;> cases h4 : decD (.int .i64) d <;> simp only [h1, h2, h3, h4] at h <;> cases h
    exact Subs.cons (decI_sub h1) (Subs.cons (decI_sub h2) (Subs.cons (decI_sub h3) (Subs.cons (decD_sub h4) Subs.nil)))
  | [] | [_] | [_, _] | [_, _, _] | _ :: _ :: _ :: _ :: _ :: _ => simp only [decStp] at h; cases h

theorem dec_sub (t : DT) (l : List V) (p : Prop) (x : t.T) (h : dec t l = some (p, x)) (hp : p) : Subs l (enc t x) :=
  match t, x, h with
  | .u8, _, h => decByte_sub h hp
  | .int _, _, h => decInt_sub h
  | .comp, _, h => decComp_sub h
  | .ua, _, h => decUA_sub h
  | .bytes, _, h => decBytes_sub h
  | .en, _, h => decEn_sub h hp
  | .sta, _, h => decSta_sub h hp
  | .stp, _, h => decStp_sub h

theorem enc_length (t : DT) (x : t.T) : (enc t x).length = t.size := by
  cases t <;> simp [enc, DT.size, hashV]

theorem enc_ok (t : DT) (x : t.T) : (enc t x).all cellOk = true := by
  cases t <;> simp [enc, hashV, iV, cellOk]

theorem flat_get {t : DT} {xs : List t.T} {n : Nat} : ∀ (k j : Nat) (c : V), ((List.range' k (n - k)).flatMap fun i => enc t (xs.getD i t.dflt))[j]? = some c → ∃ i j', k ≤ i ∧ i < n ∧ j' < t.size ∧ i * t.size + j' = k * t.size + j ∧ (enc t (xs.getD i t.dflt))[j']? = some c := by
  intro k
  generalize hd : n - k = d
  induction d generalizing k with
  | zero => intro j c hc; simp at hc
  | succ d ih =>
    intro j c hc
    rw [List.range'_succ, List.flatMap_cons, List.getElem?_append, enc_length] at hc
    split at hc
    · rename_i hj; exact ⟨k, j, Nat.le_refl _, by omega, hj, rfl, hc⟩
    · rename_i hj
      obtain ⟨i, j', a1, a2, a3, a4, a5⟩ := ih (k + 1) (by omega) _ c hc
      refine ⟨i, j', by omega, a2, a3, ?_, a5⟩
      rw [a4, Nat.add_mul]; omega
theorem flat_length {t : DT} {xs : List t.T} : ∀ (l : List Nat), (l.flatMap fun i => enc t (xs.getD i t.dflt)).length = l.length * t.size := by
  intro l
  induction l with
  | nil => simp
  | cons a l ih => simp only [List.flatMap_cons, List.length_append, enc_length, List.length_cons, ih, Nat.add_mul]; omega

theorem flat_at {t : DT} {xs : List t.T} {n : Nat} : ∀ (k q j : Nat), k ≤ q → q < n → j < t.size → ((List.range' k (n - k)).flatMap fun i => enc t (xs.getD i t.dflt))[(q - k) * t.size + j]? = (enc t (xs.getD q t.dflt))[j]? := by
  intro k
  generalize hd : n - k = d
  induction d generalizing k with
  | zero => intro q j h1 h2 _; omega
  | succ d ih =>
    intro q j h1 h2 h3
    rw [List.range'_succ, List.flatMap_cons, List.getElem?_append, enc_length]
    by_cases e : q = k
    · subst e
      rw [Nat.sub_self, Nat.zero_mul, Nat.zero_add, if_pos h3]
    · have h4 : q - k = (q - (k + 1)) + 1 := by omega
      rw [h4, Nat.add_mul, Nat.one_mul, if_neg (by omega)]
      rw [show (q - (k + 1)) * t.size + t.size + j - t.size = (q - (k + 1)) * t.size + j by omega]
      exact ih (k + 1) (by omega) q j (by omega) h2 h3

/-- The cells of a value are what those of an abstract one say. -/
theorem Rep.cells {K : Nat → Bool} {ρ : Nat → Hd} {G : Nat → Prop} {w : World} {c : V} {x : Value} (r : Rep K ρ G w c x) (h : (Ab.cells c).all cellOk = true) : Reps K ρ G w (Ab.cells c) x.cells.toList := by
  by_cases hc : cellOk c = true
  · rw [r.cells_one hc]
    have hcells : Ab.cells c = [c] := by cases c <;> first | rfl | (simp [cellOk] at hc)
    rw [hcells]
    refine ⟨rfl, fun j d hj => ?_⟩
    match j, hj with
    | 0, hj => simp at hj; subst hj; exact r
  · cases r with
    | agg l cs hl hr => exact ⟨by simpa [Value.cells, Ab.cells] using hl, by simpa [Value.cells, Ab.cells] using hr⟩
    | vec t n xs cs hl hs hr =>
      have e : (Value.agg cs.toArray).cells.toList = cs := by simp [Value.cells]
      rw [e]
      refine ⟨by show cs.length = _; simp only [Ab.cells, flat_length, List.length_range]; exact hs, fun j d hj => ?_⟩
      have hj' : ((List.range' 0 (n - 0)).flatMap fun i => enc t (xs.getD i t.dflt))[j]? = some d := by
        rw [Nat.sub_zero, ← List.range_eq_range']; exact hj
      obtain ⟨i, j', _, a2, a3, a4, a5⟩ := flat_get 0 j d hj'
      have hi : i < xs.length := by omega
      have hd : xs.getD i t.dflt = xs[i] := by simp [List.getD, hi]
      rw [hd] at a5
      have := hr i hi j' d a5
      rwa [a4, Nat.zero_mul, Nat.zero_add] at this
    | _ => first | (simp [Ab.cells, cellOk] at h hc; done) | (simp [Ab.cells] at h; exact absurd h hc)

theorem decAll_sub (t : DT) (s : Nat) : ∀ (n : Nat) (l : List V) (p : Prop) (xs : List t.T), decAll t (chunk s n l) = some (p, xs) → p →
    xs.length = n ∧ ∀ q (hq : q < xs.length), Subs ((l.drop (q * s)).take s) (enc t xs[q]) := by
  intro n
  induction n with
  | zero => intro l p xs h _; simp only [chunk, decAll] at h; cases h; exact ⟨rfl, fun q hq => by simp at hq⟩
  | succ n ih =>
    intro l p xs h hp
    simp only [chunk, decAll] at h
    cases h1 : dec t (l.take s) with
    | none => simp only [h1] at h; cases h
    | some a =>
      cases h2 : decAll t (chunk s n (l.drop s)) with
      | none => simp only [h1, h2] at h; cases h
      | some b =>
        simp only [h1, h2] at h
        cases h
        obtain ⟨hl, hs⟩ := ih _ b.1 b.2 h2 hp.2
        refine ⟨by simp [hl], fun q hq => ?_⟩
        cases q with
        | zero => simpa using dec_sub t _ a.1 a.2 h1 hp.1
        | succ q =>
          have := hs q (by simpa using hq)
          rw [List.drop_drop] at this
          simpa [Nat.add_mul, Nat.add_comm] using this

/-- As a cell of the whole. -/
theorem decAll_cell (t : DT) (n : Nat) (l : List V) (p : Prop) (xs : List t.T) (h : decAll t (chunk t.size n l) = some (p, xs)) (hp : p) :
    xs.length = n ∧ ∀ q (hq : q < xs.length) j c, (enc t xs[q])[j]? = some c → ∃ c', l[q * t.size + j]? = some c' ∧ Sub c' c := by
  obtain ⟨hl, hs⟩ := decAll_sub t t.size n l p xs h hp
  refine ⟨hl, fun q hq j c hc => ?_⟩
  obtain ⟨c', h1, h2⟩ := (hs q hq).2 j c hc
  refine ⟨c', ?_, h2⟩
  rw [List.getElem?_take] at h1
  split at h1
  · rwa [List.getElem?_drop] at h1
  · simp at h1

/-! Worlds that only grow. -/
structure Ext (w w' : World) : Prop where
  os : w'.os = w.os
  tape : w'.tape = w.tape
  output : w'.output = w.output
  size : w.heap.size ≤ w'.heap.size
  keep : ∀ b, b < w.heap.size → w'.heap[b]? = w.heap[b]?
theorem Ext.refl (w : World) : Ext w w := ⟨rfl, rfl, rfl, Nat.le_refl _, fun _ _ => rfl⟩
theorem Ext.drew (w : World) : Ext w w.drew := ⟨rfl, rfl, rfl, Nat.le_refl _, fun _ _ => rfl⟩
theorem Ext.alloc (w : World) (o : Obj) : Ext w (w.alloc o) := ⟨rfl, rfl, rfl, by simp, fun b hb => RowKit.Below.heap_alloc w o b hb⟩
theorem Ext.trans {a b c : World} (h : Ext a b) (k : Ext b c) : Ext a c :=
  ⟨k.os.trans h.os, k.tape.trans h.tape, k.output.trans h.output, Nat.le_trans h.size k.size, fun i hi => (k.keep i (Nat.lt_of_lt_of_le hi h.size)).trans (h.keep i hi)⟩

theorem upd_same {α : Type} (f : Nat → α) (d : Nat) (x : α) : upd f d x d = x := by simp [upd]
theorem upd_ne {α : Type} (f : Nat → α) (d : Nat) (x : α) {t : Nat} (h : t ≠ d) : upd f d x t = f t := by
  have : t.beq d = false := by
    cases hb : t.beq d with
    | false => rfl
    | true => exact absurd (Nat.eq_of_beq_eq_true hb) h
  simp [upd, this]

section
variable {K : Nat → Bool} {ρ : Nat → Hd} {G : Nat → Prop} {heap : Nat → Option Row} {w : World}

theorem Reps.mono {K' : Nat → Bool} {ρ' : Nat → Hd} {G' : Nat → Prop} {w' : World} (hK : ∀ h, K h = true → K' h = true ∧ ρ' h = ρ h) (hG : ∀ b, G b → G' b)
    (hw : ∀ b, G b → w'.heap[b]? = w.heap[b]?) {l : List V} {cs : List Value} (r : Reps K ρ G w l cs) : Reps K' ρ' G' w' l cs :=
  ⟨r.1, fun j c h => (r.2 j c h).mono hK hG hw⟩
theorem Elems.mono {K' : Nat → Bool} {ρ' : Nat → Hd} {G' : Nat → Prop} {w' : World} (hK : ∀ h, K h = true → K' h = true ∧ ρ' h = ρ h) (hG : ∀ b, G b → G' b)
    (hw : ∀ b, G b → w'.heap[b]? = w.heap[b]?) {t : DT} {xs : List t.T} {cs : Array Value} (r : Elems K ρ G w t xs cs) : Elems K' ρ' G' w' t xs cs :=
  fun q hq j c h => let ⟨u, h1, h2⟩ := r q hq j c h; ⟨u, h1, h2.mono hK hG hw⟩

theorem RowRep.mono {K' : Nat → Bool} {ρ' : Nat → Hd} {G' : Nat → Prop} {w' : World} (hK : ∀ h, K h = true → K' h = true ∧ ρ' h = ρ h) (hG : ∀ b, G b → G' b)
    (hw : ∀ b, G b → w'.heap[b]? = w.heap[b]?) {h : Nat} {r : Row} (hρ : ρ' h = ρ h) (hb : (ρ h).nil = false → w'.heap[(ρ h).b]? = w.heap[(ρ h).b]?) (m : RowRep K ρ G w h r) : RowRep K' ρ' G' w' h r := by
  cases r with
  | lit e l =>
    obtain ⟨h1, h2, h3, cs, fz, h4, h5, h6⟩ := m
    simp only [RowRep, hρ]
    exact ⟨h1, h2, h3, cs, fz, by rw [hb h1]; exact h4, h5, h6.mono hK hG hw⟩
  | arr e t xs =>
    obtain ⟨h1, h2, cs, fz, h4, h5, h6, h7⟩ := m
    simp only [RowRep, hρ]
    exact ⟨h1, h2, cs, fz, by rw [hb h1]; exact h4, h5, h6, h7.mono hK hG hw⟩
  | buf e t xs =>
    obtain ⟨h0, h⟩ := m
    simp only [RowRep, hρ]
    refine ⟨h0, ?_⟩
    rcases h with h | ⟨h1, h2, h3, cs, fz, h4, h5, h6, h7⟩
    · exact .inl h
    · exact .inr ⟨h1, h2, h3, cs, fz, by rw [hb h1]; exact h4, h5, h6, h7.mono hK hG hw⟩

/-- A new row. -/
theorem HRel.new (m : HRel K ρ G heap w) {w1 : World} (x : Ext w w1) {d : Nat} (hd : Hd) (hK : K d = false) (hb : hd.nil = false → w.heap.size ≤ hd.b ∧ hd.b < w1.heap.size) {r : Row}
    (hr : RowRep (upd K d true) (upd ρ d hd) G w1 d r) :
    HRel (upd K d true) (upd ρ d hd) G (upd heap d (some r)) w1 ∧ Evo K ρ G heap w (upd K d true) (upd ρ d hd) G (upd heap d (some r)) w1 := by
  have hname : ∀ h, K h = true → upd K d true h = true ∧ upd ρ d hd h = ρ h := by
    intro h hh
    have : h ≠ d := by rintro rfl; simp [hK] at hh
    rw [upd_ne _ _ _ this, upd_ne _ _ _ this]; exact ⟨hh, rfl⟩
  have hold : ∀ h r, heap h = some r → h ≠ d := by
    rintro h r hh rfl
    have := (m.row h r hh).1
    simp [hK] at this
  have hkeep : ∀ b, G b → w1.heap[b]? = w.heap[b]? := fun b hb => x.keep b (m.old b hb)
  constructor
  · constructor
    · intro h s hs
      by_cases hh : h = d
      · subst hh
        rw [upd_same] at hs ⊢
        cases hs
        refine ⟨rfl, hr, fun hn => ?_⟩
        rw [upd_same] at hn ⊢
        exact ⟨fun hG => by have := m.old _ hG; have := (hb hn).1; omega, (hb hn).2⟩
      · rw [upd_ne _ _ _ hh] at hs
        obtain ⟨h1, h2, h3⟩ := m.row h s hs
        refine ⟨(hname h h1).1, ?_, ?_⟩
        · exact h2.mono hname (fun _ h => h) hkeep (hname h h1).2 (fun hn => x.keep _ (h3 hn).2)
        · rw [(hname h h1).2]; exact fun hn => ⟨(h3 hn).1, Nat.lt_of_lt_of_le (h3 hn).2 x.size⟩
    · intro h h' hs hs' hn hn' he
      by_cases hh : h = d <;> by_cases hh' : h' = d
      · rw [hh, hh']
      · subst hh
        rw [upd_ne _ _ _ hh'] at hs' hn' he
        rw [upd_same] at hn he
        obtain ⟨r', hr'⟩ := Option.isSome_iff_exists.1 hs'
        have := ((m.row h' r' hr').2.2 hn').2
        have := (hb hn).1
        omega
      · subst hh'
        rw [upd_ne _ _ _ hh] at hs hn he
        rw [upd_same] at hn' he
        obtain ⟨r', hr'⟩ := Option.isSome_iff_exists.1 hs
        have := ((m.row h r' hr').2.2 hn).2
        have := (hb hn').1
        omega
      · rw [upd_ne _ _ _ hh] at hs hn he
        rw [upd_ne _ _ _ hh'] at hs' hn' he
        exact m.inj h h' hs hs' hn hn' he
    · exact fun b hb => Nat.lt_of_lt_of_le (m.old b hb) x.size
  · refine ⟨x.os, x.tape, x.output, x.size, fun b hb' _ => x.keep b hb', hname, fun _ h => h, fun _ h => .inl h, ?_⟩
    rintro b ⟨h, hs, hn, rfl⟩
    by_cases hh : h = d
    · subst hh
      rw [upd_same] at hn ⊢
      exact .inr (hb hn).1
    · rw [upd_ne _ _ _ hh] at hs hn ⊢
      exact .inl ⟨h, hs, hn, rfl⟩

/-- A row that is turned. -/
theorem HRel.turn (m : HRel K ρ G heap w) {h : Nat} {r r' : Row} (hh : heap h = some r) (hn : (ρ h).nil = false) {w1 : World}
    (hos : w1.os = w.os) (htape : w1.tape = w.tape) (hout : w1.output = w.output) (hsz : w1.heap.size = w.heap.size) (hk : ∀ b, b ≠ (ρ h).b → w1.heap[b]? = w.heap[b]?) (hr : RowRep K ρ G w1 h r') :
    HRel K ρ G (upd heap h (some r')) w1 ∧ Evo K ρ G heap w K ρ G (upd heap h (some r')) w1 := by
  obtain ⟨hK, _, hG⟩ := m.row h r hh
  have hkeep : ∀ b, G b → w1.heap[b]? = w.heap[b]? := fun b hb => hk b (fun e => (hG hn).1 (e ▸ hb))
  have hsome : ∀ q, (upd heap h (some r') q).isSome = true → (heap q).isSome = true := by
    intro q hq
    by_cases e : q = h
    · subst e; simp [hh]
    · rwa [upd_ne _ _ _ e] at hq
  constructor
  · constructor
    · intro q s hs
      by_cases e : q = h
      · subst e
        rw [upd_same] at hs; cases hs
        exact ⟨hK, hr, fun _ => by rw [hsz]; exact hG hn⟩
      · rw [upd_ne _ _ _ e] at hs
        obtain ⟨h1, h2, h3⟩ := m.row q s hs
        refine ⟨h1, h2.mono (fun _ h => ⟨h, rfl⟩) (fun _ h => h) hkeep rfl (fun hq => hk _ fun eb => e ?_), fun hq => by rw [hsz]; exact h3 hq⟩
        exact m.inj q h (by simp [hs]) (by simp [hh]) hq hn eb
    · intro q q' hs hs' hq hq' he
      exact m.inj q q' (hsome q hs) (hsome q' hs') hq hq' he
    · exact fun b hb => by rw [hsz]; exact m.old b hb
  · refine ⟨hos, htape, hout, by rw [hsz]; exact Nat.le_refl _, fun b _ hb => hk b fun e => hb ⟨h, by simp [hh], hn, e.symm⟩, fun _ h => ⟨h, rfl⟩, fun _ h => h, fun _ h => .inl h, ?_⟩
    rintro b ⟨q, hs, hq, rfl⟩
    exact .inl ⟨q, hsome q hs, hq, rfl⟩

/-- The blocks of some rows. -/
def Blk (ρ : Nat → Hd) (heap : Nat → Option Row) (a : List Nat) (b : Nat) : Prop := ∃ h, h ∈ a ∧ (heap h).isSome = true ∧ (ρ h).nil = false ∧ (ρ h).b = b
def plus (G : Nat → Prop) (ρ : Nat → Hd) (heap : Nat → Option Row) (a : List Nat) : Nat → Prop := fun b => G b ∨ Blk ρ heap a b

theorem strike_some {a : List Nat} {h : Nat} {r : Row} : strike heap a h = some r ↔ h ∉ a ∧ heap h = some r := by
  unfold strike
  by_cases ha : h ∈ a <;> simp [ha]

/-- Rows that change no more. -/
theorem HRel.strike (m : HRel K ρ G heap w) (a : List Nat) : HRel K ρ (plus G ρ heap a) (Ab.strike heap a) w := by
  constructor
  · intro h r hr
    obtain ⟨ha, hr⟩ := strike_some.1 hr
    obtain ⟨h1, h2, h3⟩ := m.row h r hr
    refine ⟨h1, h2.mono (fun _ h => ⟨h, rfl⟩) (fun _ h => .inl h) (fun _ _ => rfl) rfl (fun _ => rfl), fun hn => ⟨?_, (h3 hn).2⟩⟩
    rintro (hb | ⟨q, hq, hs, hqn, hqb⟩)
    · exact (h3 hn).1 hb
    · exact ha (m.inj q h hs (by simp [hr]) hqn hn hqb ▸ hq)
  · intro h h' hs hs' hn hn' he
    obtain ⟨r, hr⟩ := Option.isSome_iff_exists.1 hs
    obtain ⟨r', hr'⟩ := Option.isSome_iff_exists.1 hs'
    exact m.inj h h' (by simp [(strike_some.1 hr).2]) (by simp [(strike_some.1 hr').2]) hn hn' he
  · rintro b (hb | ⟨q, _, hs, hqn, rfl⟩)
    · exact m.old b hb
    · obtain ⟨r, hr⟩ := Option.isSome_iff_exists.1 hs
      exact ((m.row q r hr).2.2 hqn).2

theorem Evo.strike (a : List Nat) : Evo K ρ G heap w K ρ (plus G ρ heap a) (Ab.strike heap a) w := by
  refine ⟨rfl, rfl, rfl, Nat.le_refl _, fun _ _ _ => rfl, fun _ h => ⟨h, rfl⟩, fun _ h => .inl h, ?_, ?_⟩
  · rintro b (hb | ⟨q, _, hs, hn, rfl⟩)
    · exact .inl hb
    · exact .inr (.inl ⟨q, hs, hn, rfl⟩)
  · rintro b ⟨h, hs, hn, rfl⟩
    obtain ⟨r, hr⟩ := Option.isSome_iff_exists.1 hs
    exact .inl ⟨h, by simp [(strike_some.1 hr).2], hn, rfl⟩

theorem puts_strike : ∀ (a : List Nat) (heap : Nat → Option Row), puts heap (a.map fun h => (h, none)) = Ab.strike heap a := by
  intro a
  induction a with
  | nil => intro heap; funext h; simp [puts, Ab.strike]
  | cons x a ih =>
    intro heap
    simp only [List.map_cons, puts, ih]
    funext h
    by_cases h2 : h = x
    · subst h2
      simp only [Ab.strike, upd_same, List.contains_cons, BEq.rfl, Bool.true_or, cond_true]
      cases a.contains h <;> rfl
    · have : (h == x) = false := by simp [h2]
      simp only [Ab.strike, upd_ne _ _ _ h2, List.contains_cons, this, Bool.false_or]
theorem puts_append : ∀ (a b : List (Nat × Option Row)) (heap : Nat → Option Row), puts heap (a ++ b) = puts (puts heap a) b := by
  intro a
  induction a with
  | nil => intro b heap; rfl
  | cons x a ih => intro b heap; exact ih b _
end
end Go.Proofs.Ytbkhhfekdpkhbaa.Ab

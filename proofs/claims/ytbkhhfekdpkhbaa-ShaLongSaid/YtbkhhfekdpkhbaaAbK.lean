/- Slices, fields, indexes, conversions; one condition: what floats of small numbers are. -/
import Derived.Test.YtbkhhfekdpkhbaaAbJ
namespace Go.Proofs.Ytbkhhfekdpkhbaa.Ab
open Go

section
variable {P : Program} {ti : TypeId → TyI} {K : Nat → Bool} {ρ : Nat → Hd} {G : Nat → Prop} {heap : Nat → Option Row} {w : World}

/-- Where a slice's elements come from: what loading them gives. -/
structure Src (P : Program) (K : Nat → Bool) (ρ : Nat → Hd) (G : Nat → Prop) (w : World) (v : Value) (t : DT) (xs : List t.T) : Prop where
  len : ∀ w', (Builtin.lenOf v).run P w' = .ok xs.length w'
  cells : ∃ us : List Value, us.length = xs.length * t.size ∧ (∀ (q : Nat) (hq : q < xs.length) (j : Nat) (c : V), (enc t xs[q])[j]? = some c → ∃ u, us[q * t.size + j]? = some u ∧ Rep K ρ G w c u) ∧
    (∀ n, n ≤ xs.length → ∀ w' : World, (∀ a, w'.cell? a = w.cell? a) → (Builtin.firstCells t.size n v).run P w' = .ok (us.take (n * t.size)).toArray w')

theorem one_of_enc {t : DT} {x : t.T} {j : Nat} {c : V} (h : (enc t x)[j]? = some c) {u : Value} (r : Rep K ρ G w c u) : u.oneCell' = true :=
  r.oneCell (List.all_eq_true.1 (enc_ok t x) c (List.mem_of_getElem? h))

/-- Elements, as a list of cells. -/
theorem elems_list {t : DT} {xs : List t.T} {f : Nat → Option Value} (h : ∀ (q : Nat) (hq : q < xs.length) (j : Nat) (c : V), (enc t xs[q])[j]? = some c → ∃ u, f (q * t.size + j) = some u ∧ Rep K ρ G w c u) (hpos : 0 < t.size) :
    ∃ us : List Value, us.length = xs.length * t.size ∧ (∀ (q : Nat) (hq : q < xs.length) (j : Nat) (c : V), (enc t xs[q])[j]? = some c → ∃ u, us[q * t.size + j]? = some u ∧ Rep K ρ G w c u) ∧ ∀ j u, us[j]? = some u → f j = some u := by
  have all : ∀ j, j < xs.length * t.size → ∃ u, f j = some u := by
    intro j hj
    have hq : j / t.size < xs.length := Nat.div_lt_of_lt_mul (by rw [Nat.mul_comm]; exact hj)
    have hr : j % t.size < t.size := Nat.mod_lt _ hpos
    have hc : (enc t xs[j / t.size])[j % t.size]? = some ((enc t xs[j / t.size])[j % t.size]'(by rw [enc_length]; exact hr)) := by rw [List.getElem?_eq_getElem]
    obtain ⟨u, h1, _⟩ := h _ hq _ _ hc
    refine ⟨u, ?_⟩
    rw [← h1, Nat.mul_comm, Nat.div_add_mod]
  refine ⟨(List.range (xs.length * t.size)).map fun j => (f j).getD default, by simp, fun q hq j c hc => ?_, fun j u hu => ?_⟩
  · obtain ⟨u, h1, h2⟩ := h q hq j c hc
    have hj : j < t.size := by have := (List.getElem?_eq_some_iff.1 hc).1; rwa [enc_length] at this
    have hlt : q * t.size + j < xs.length * t.size := by
      have : (q + 1) * t.size ≤ xs.length * t.size := Nat.mul_le_mul_right _ hq
      rw [Nat.add_mul, Nat.one_mul] at this; omega
    exact ⟨u, by rw [List.getElem?_map, List.getElem?_range hlt, Option.map_some, h1]; rfl, h2⟩
  · rw [List.getElem?_map] at hu
    by_cases hj : j < xs.length * t.size
    · rw [List.getElem?_range hj, Option.map_some] at hu
      obtain ⟨v, hv⟩ := all j hj
      rw [hv] at hu ⊢
      exact hu
    · rw [List.getElem?_eq_none (by simp; omega)] at hu; cases hu

theorem dt_pos (t : DT) : 0 < t.size := by cases t <;> simp [DT.size]

/-- A slice whose elements lie in memory. -/
theorem Src.mk' {t : DT} {xs : List t.T} {ad : Addr} {b o c n : Nat} (hn : n = xs.length) (ha : xs.length ≠ 0 → ad = ⟨b, o, none⟩)
    (h : ∀ (q : Nat) (hq : q < xs.length) (j : Nat) (d : V), (enc t xs[q])[j]? = some d → ∃ u, w.cell? ⟨b, o + (q * t.size + j), none⟩ = some u ∧ Rep K ρ G w d u) : Src P K ρ G w (.slice (some ad) n c) t xs := by
  subst hn
  refine ⟨fun w' => by simp [Builtin.lenOf], ?_⟩
  obtain ⟨us, h1, h2, h3⟩ := elems_list (f := fun j => w.cell? ⟨b, o + j, none⟩) h (dt_pos t)
  refine ⟨us, h1, h2, fun n hn w' hw => ?_⟩
  have hlt : (us.take (n * t.size)).length = n * t.size := by
    rw [List.length_take, h1]
    exact Nat.min_eq_left (Nat.mul_le_mul_right _ hn)
  exact run_firstCells_some (P := P) w' t.size n ad xs.length c (us.take (n * t.size)) hlt (fun j u hu => by
    have hj : j < us.length := by
      have := (List.getElem?_eq_some_iff.1 hu).1
      rw [List.length_take] at this; omega
    have h0 : xs.length ≠ 0 := by intro e; rw [h1, e] at hj; omega
    rw [ha h0, add_at, hw]
    exact h3 j u (by rw [List.getElem?_take] at hu; split at hu; exact hu; cases hu))

theorem Src.nil (t : DT) (c : Nat) (a : Option Addr) : Src P K ρ G w (.slice a 0 c) t ([] : List t.T) := by
  refine ⟨fun w' => by simp [Builtin.lenOf], [], by simp, fun q hq => by simp at hq, fun n hn w' _ => ?_⟩
  have : n = 0 := by simpa using hn
  subst this
  cases a with
  | none => simp [Builtin.firstCells]
  | some a => simp [Builtin.firstCells, loadCells, loadCellsFrom]

theorem Src.str (s : ByteArray) : Src P K ρ G w (.string s) .u8 s.data.toList := by
  have h1 : ∀ w', (Builtin.lenOf (.string s)).run P w' = .ok s.data.toList.length w' := fun w' => by
    rw [Array.length_toList]; simp [Builtin.lenOf]
  have h2 : (s.data.toList.map fun b => Value.int .u8 (b.toNat : Int)).length = s.data.toList.length * 1 := by rw [List.length_map, Nat.mul_one]
  have h3 : ∀ (q : Nat) (hq : q < s.data.toList.length) (j : Nat) (c : V), [V.b s.data.toList[q]][j]? = some c → ∃ u, (s.data.toList.map fun b => Value.int .u8 (b.toNat : Int))[q * 1 + j]? = some u ∧ Rep K ρ G w c u := by
    intro q hq j c hc
    match j, hc with
    | 0, hc =>
      cases hc
      exact ⟨_, by rw [Nat.mul_one, Nat.add_zero, List.getElem?_map, List.getElem?_eq_getElem hq]; rfl, Rep.b _⟩
    | j + 1, hc => simp at hc
  have h4 : ∀ n, n ≤ s.data.toList.length → ∀ w' : World, (∀ a, w'.cell? a = w.cell? a) → (Builtin.firstCells 1 n (.string s)).run P w' = .ok ((s.data.toList.map fun b => Value.int .u8 (b.toNat : Int)).take (n * 1)).toArray w' := by
    intro n hn w' _
    simp only [Builtin.firstCells, Sem.run_pure]
    congr 1
    apply Array.ext'
    simp [ByteArray.data_extract]
  exact ⟨h1, _, h2, h3, h4⟩

/-- The cells of a slice that has been cut. -/
theorem part_elems {t : DT} {xs : List t.T} {off len : Nat} (hle : off + len ≤ xs.length) {f : Nat → Option Value} (h : ∀ (q : Nat) (hq : q < xs.length) (j : Nat) (d : V), (enc t xs[q])[j]? = some d → ∃ u, f (q * t.size + j) = some u ∧ Rep K ρ G w d u) :
    ((xs.drop off).take len).length = len ∧ ∀ (q : Nat) (hq : q < ((xs.drop off).take len).length) (j : Nat) (d : V), (enc t ((xs.drop off).take len)[q])[j]? = some d → ∃ u, f (off * t.size + (q * t.size + j)) = some u ∧ Rep K ρ G w d u := by
  have hlen : ((xs.drop off).take len).length = len := by simp; omega
  refine ⟨hlen, fun q hq j d hd => ?_⟩
  have hq' : q < len := by omega
  obtain ⟨u, h1, h2⟩ := h (off + q) (by omega) j d (by simpa using hd)
  refine ⟨u, ?_, h2⟩
  rw [← h1]; congr 1; rw [Nat.add_mul]; omega

theorem Rep.up {G' : Nat → Prop} (hG : ∀ b, G b → G' b) {c : V} {u : Value} (r : Rep K ρ G w c u) : Rep K ρ G' w c u := r.mono (fun _ h => ⟨h, rfl⟩) hG (fun _ _ => rfl)

/-- A part of a row, as where elements come from. -/
theorem Src.part {t : DT} {xs : List t.T} {blk base off len c : Nat} {a : Addr} (hle : off + len ≤ xs.length) (hl : len ≤ c) (ha : c ≠ 0 → a = ⟨blk, base + off * t.size, none⟩)
    (h : ∀ (q : Nat) (hq : q < xs.length) (j : Nat) (d : V), (enc t xs[q])[j]? = some d → ∃ u, w.cell? ⟨blk, base + (q * t.size + j), none⟩ = some u ∧ Rep K ρ G w d u) :
    Src P K ρ G w (.slice (some a) len c) t ((xs.drop off).take len) := by
  obtain ⟨h1, h2⟩ := part_elems (f := fun j => w.cell? ⟨blk, base + j, none⟩) hle h
  exact Src.mk' (b := blk) (o := base + off * t.size) h1.symm (fun hne => ha (by omega)) (fun q hq j d hd => by
    obtain ⟨u, h3, h4⟩ := h2 q hq j d hd
    exact ⟨u, by rw [← h3]; congr 2; omega, h4⟩)

theorem decD_cast {t t' : DT} {xs' : List t'.T} {xs : List t.T} (h : decD t (.deep t' xs') = some xs) : ∃ e : t' = t, xs = e ▸ xs' := by
  unfold decD at h
  cases t <;> cases t' <;> simp only at h <;> try (cases h; done)
  all_goals first
    | (cases h; exact ⟨rfl, rfl⟩)
    | (rename_i k k'
       cases k <;> cases k' <;> first | (cases h; done) | (cases h; exact ⟨rfl, rfl⟩))

theorem listOf_ok (m : HRel K ρ G heap w) {t : DT} {c : V} {v : Value} (r : Rep K ρ G w c v) {p : Prop} {xs : List t.T} {a b : List Nat} (h : listOf ti t heap c = some (p, xs, a, b)) (hp : p) :
    Src P K ρ (plus G ρ heap b) w v t xs := by
  have up : ∀ {d : V} {u : Value}, Rep K ρ G w d u → Rep K ρ (plus G ρ heap b) w d u := fun r => r.up fun _ h => .inl h
  -- what the list is, by the cell as it stands
  have viaOne : ∀ {c' : V}, (match immOne ti heap c with | some (p, x, a) => (match decD t x with | some xs => some (p, xs, a, ([] : List Nat)) | none => none) | none => none) = some (p, xs, a, b) →
      (∀ {t' : DT} {ys : List t'.T} {p' : Prop} {a' : List Nat}, immOne ti heap c = some (p', .deep t' ys, a') → p' → Src P K ρ G w v t' ys) →
      (∀ {p' : Prop} {a' : List Nat}, immOne ti heap c = some (p', .v (.slice none 0 0), a') → v = .slice none 0 0) → c' = c → Src P K ρ (plus G ρ heap b) w v t xs := by
    intro c' h k1 k2 _
    cases h1 : immOne ti heap c with
    | none => rw [h1] at h; cases h
    | some e =>
      obtain ⟨p1, x, a1⟩ := e
      rw [h1] at h
      simp only at h
      cases h2 : decD t x with
      | none => rw [h2] at h; cases h
      | some ys =>
        rw [h2] at h
        simp only at h
        cases h
        have lift : ∀ {t' : DT} {ys : List t'.T}, Src P K ρ G w v t' ys → Src P K ρ (plus G ρ heap []) w v t' ys := by
          intro t' ys s
          obtain ⟨us, a1, a2, a3⟩ := s.cells
          exact ⟨s.len, us, a1, fun q hq j c hc => by obtain ⟨u, b1, b2⟩ := a2 q hq j c hc; exact ⟨u, b1, b2.up fun _ h => .inl h⟩, a3⟩
        cases x <;> (try (unfold decD at h2; cases h2; done))
        case deep t' ys' =>
          obtain ⟨e, rfl⟩ := decD_cast h2
          subst e
          exact lift (k1 h1 hp)
        case v x =>
          unfold decD at h2
          split at h2
          · rename_i e; cases e
          · rename_i e; cases e; cases h2
            rw [k2 h1]
            exact Src.nil t 0 none
          · cases h2
  cases r
  case v =>
    cases v <;> (try (simp only [listOf] at h; exact viaOne h (fun h _ => by simp only [immOne] at h; cases h) (fun h => by simp only [immOne] at h; cases h <;> rfl) rfl))
    case string s =>
      simp only [listOf] at h
      cases t <;> simp only at h <;> cases h
      exact Src.str s
  case ow hh hk hn =>
    simp only [listOf] at h
    refine viaOne (c' := .ow hh) h (fun {t' ys p' a'} hi hp' => ?_) (fun hi => ?_) rfl
    · simp only [immOne] at hi
      split at hi
      · rename_i e t2 zs hr
        cases hi
        obtain ⟨hlen, hrow⟩ := (m.row hh _ hr).2.1
        rcases hrow with ⟨hnil, _⟩ | ⟨_, _, hcap, cs, fz, hb, _, hsz, hel⟩
        · rw [hn] at hnil; cases hnil
        rw [← hlen]
        exact Src.mk' (b := (ρ hh).b) (o := 0) rfl (fun _ => rfl) (fun q hq j d hd => by
          obtain ⟨u, h1, h2⟩ := hel q hq j d hd
          exact ⟨u, by rw [cell_heap hb]; simpa using h1, h2⟩)
      · cases hi
    · simp only [immOne] at hi
      split at hi
      · cases hi
      · cases hi
  case owNil hh hk hn =>
    simp only [listOf] at h
    refine viaOne (c' := .ow hh) h (fun {t' ys p' a'} hi hp' => ?_) (fun hi => rfl) rfl
    simp only [immOne] at hi
    split at hi
    · rename_i e t2 zs hr
      cases hi
      rcases (m.row hh _ hr).2.1.2 with ⟨_, rfl⟩ | ⟨hnil, _⟩
      · exact Src.nil _ 0 none
      · rw [hn] at hnil; cases hnil
    · cases hi
  case ownNil hh base s lim hk hn =>
    simp only [listOf] at h
    split at h
    · rename_i e l hr
      have := (m.row hh _ hr).2.1.1
      rw [hn] at this; cases this
    · rename_i hne
      refine viaOne (c' := .own hh base s 0 0 lim) h (fun {t' ys p' a'} hi hp' => ?_) (fun hi => rfl) rfl
      simp only [immOne] at hi
      split at hi
      · replace hi := bif_some hi; obtain ⟨_, hi⟩ := hi
        cases hi
        simp only [List.take_zero]
        exact Src.nil _ 0 none
      · rename_i e t2 zs hr
        have := (m.row hh _ hr).2.1.1
        rw [hn] at this; cases this
      · rename_i e l hr
        exact absurd hr (hne e l)
      · cases hi
  case own hh base s off len c0 lim ad hk hn hl ha hlim htot =>
    simp only [listOf] at h
    split at h
    · rename_i e l hr
      replace h := bif_some h; obtain ⟨hs, h⟩ := h
      have hs' := Nat.eq_of_beq_eq_true hs
      subst hs'
      obtain ⟨_, htl, hok, cs, fz, hb, _, hcs⟩ := (m.row hh _ hr).2.1
      split at h
      · rename_i p1 l' a1 him
        split at h
        · rename_i p2 ys hd
          have fin : p1 → p2 → b = a1 → off + len ≤ room lim base t.size l.length → ys.length = room lim base t.size l.length ∧ Src P K ρ (plus G ρ heap b) w (.slice (some ad) len c0) t ((ys.drop off).take len) := by
            intro q1 q2 eb hle
            subst eb
            have hdrop : Reps K ρ G w (l.drop base) (cs.toList.drop base) := by
              have := hcs.drop_take base (l.length - base)
              rwa [List.take_of_length_le (by simp), List.take_of_length_le (by have := hcs.1; simp at this ⊢; omega)] at this
            have hall := immAll_ok m (G' := plus G ρ heap b) (fun _ h => .inl h) (l.drop base) l' (cs.toList.drop base) p1 b hdrop him q1 (fun _ h => .inr h)
            obtain ⟨hyl, hcell⟩ := decAll_cell t (room lim base t.size l.length) l' p2 ys hd q2
            refine ⟨hyl, Src.part (by omega) hl (fun h => ha (.inl h)) (fun q hq j d hdj => ?_)⟩
            obtain ⟨c1, h1, h2⟩ := hcell q hq j d hdj
            obtain ⟨u, h3, h4⟩ := hall.get h1
            rw [List.getElem?_drop] at h3
            exact ⟨u, by rw [cell_heap hb]; simpa using h3, h2 _ _ _ _ _ h4⟩
          cases ho : (Nat.beq off 0 && Nat.beq len (room lim base t.size l.length)) with
          | true =>
            simp only [ho, cond_true] at h
            cases h
            simp only [Bool.and_eq_true] at ho
            have e0 := Nat.eq_of_beq_eq_true ho.1
            have e1 := Nat.eq_of_beq_eq_true ho.2
            subst e0
            obtain ⟨hyl, this⟩ := fin hp.1 hp.2 rfl (by omega)
            rw [List.drop_zero, List.take_of_length_le (by omega)] at this
            exact this
          | false =>
            simp only [ho, cond_false] at h
            cases h
            exact (fin hp.1 hp.2.1 rfl hp.2.2).2
        · cases h
      · cases h
    · rename_i hne
      refine viaOne (c' := .own hh base s off len lim) h (fun {t' ys p' a'} hi hp' => ?_) (fun hi => ?_) rfl
      · simp only [immOne] at hi
        split at hi
        · rename_i e t2 zs hr
          replace hi := bif_some hi; obtain ⟨hc, hi⟩ := hi
          simp only [Bool.and_eq_true] at hc
          have h0 := Nat.eq_of_beq_eq_true hc.1
          have h1 := Nat.eq_of_beq_eq_true hc.2
          subst h0; subst h1
          obtain ⟨hlen, hrow⟩ := (m.row hh _ hr).2.1
          rcases hrow with ⟨hnil, _⟩ | ⟨_, _, hcap, cs, fz, hb, _, hsz, hel⟩
          · rw [hn] at hnil; cases hnil
          have fin : off + len ≤ zs.length → Src P K ρ G w (.slice (some ad) len c0) t2 ((zs.drop off).take len) := fun hle =>
            Src.part hle hl (fun h => ha (.inl h)) (fun q hq j d hd => by
              obtain ⟨u, h1, h2⟩ := hel q hq j d hd
              exact ⟨u, by rw [cell_heap hb]; simpa using h1, h2⟩)
          cases hi
          exact fin hp'
        · rename_i e t2 zs hr
          replace hi := bif_some hi; obtain ⟨hc, hi⟩ := hi
          simp only [Bool.and_eq_true] at hc
          have h0 := Nat.eq_of_beq_eq_true hc.1
          have h1 := Nat.eq_of_beq_eq_true hc.2
          subst h0; subst h1
          obtain ⟨_, _, cs, fz, hb, _, hsz, hel⟩ := (m.row hh _ hr).2.1
          have fin : off + len ≤ zs.length → Src P K ρ G w (.slice (some ad) len c0) t2 ((zs.drop off).take len) := fun hle =>
            Src.part hle hl (fun h => ha (.inl h)) (fun q hq j d hd => by
              obtain ⟨u, h1, h2⟩ := hel q hq j d hd
              exact ⟨u, by rw [cell_heap hb]; simpa using h1, h2⟩)
          cases lim with
          | none => simp only at hi; cases hi; exact fin hp'
          | some n =>
            simp only at hi
            cases ho : (Nat.beq off 0 && Nat.beq len n) with
            | true =>
              simp only [ho, cond_true] at hi
              cases hi
              simp only [Bool.and_eq_true] at ho
              have e0 := Nat.eq_of_beq_eq_true ho.1
              have e1 := Nat.eq_of_beq_eq_true ho.2
              subst e0; subst e1
              have := fin (by omega)
              rw [List.drop_zero, List.take_of_length_le (by omega)] at this
              exact this
            | false =>
              simp only [ho, cond_false] at hi
              cases hi
              exact fin hp'
        · rename_i e l hr
          exact absurd hr (hne e l)
        · cases hi
      · simp only [immOne] at hi
        split at hi
        · replace hi := bif_some hi; obtain ⟨_, hi⟩ := hi
          cases hi
        · replace hi := bif_some hi; obtain ⟨_, hi⟩ := hi
          split at hi
          · rename_i n
            cases hb : (Nat.beq off 0 && Nat.beq len n) <;> simp only [hb, cond_true, cond_false] at hi <;> cases hi
          · cases hi
        · rename_i e l hr
          exact absurd hr (hne e l)
        · cases hi
  case deep t' ys blk o c1 g hl hG hc hr =>
    simp only [listOf] at h
    refine viaOne (c' := .deep t' ys) h (fun {t2 zs p' a'} hi _ => ?_) (fun hi => by simp only [immOne] at hi; cases hi) rfl
    simp only [immOne] at hi
    cases hi
    exact Src.mk' (b := blk) (o := o) rfl (fun _ => rfl) (fun q hq j d hd => ⟨g q j, by have := hc q hq j d hd; rw [← this]; congr 2; omega, hr q hq j d hd⟩)
  case deepE t' a1 c1 ha =>
    simp only [listOf] at h
    refine viaOne (c' := .deep t' []) h (fun {t2 zs p' a'} hi _ => ?_) (fun hi => by simp only [immOne] at hi; cases hi) rfl
    simp only [immOne] at hi
    cases hi
    exact Src.nil _ _ _
  all_goals (simp only [listOf, immOne, decD] at h; cases h)
end
end Go.Proofs.Ytbkhhfekdpkhbaa.Ab

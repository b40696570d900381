/- States under other names, regions; one condition: what floats of small numbers are. -/
import Derived.Test.YtbkhhfekdpkhbaaAbX
import Derived.Deep.LoopGhost
import Derived.Scope
namespace Go.Proofs.Ytbkhhfekdpkhbaa.Ab
open Go

/-! A state of which only some is kept, under other names: names from a million on stay. -/
def renRow (σ : Nat → Nat) : Row → Row
  | .lit e l => .lit e (l.map (ren0 σ))
  | r => r
def closedRow (ns : Nat → Bool) : Row → Bool
  | .lit _ l => l.all (closed0 ns)
  | _ => true
def namesAll : V → List Nat
  | .agg l => l.flatMap nameOf
  | .tup l => l.flatMap fun x => match x with
    | .agg m => m.flatMap nameOf
    | y => nameOf y
  | x => nameOf x
def addNames : List Nat → List Nat → List Nat
  | acc, [] => acc
  | acc, x :: l => bif Nat.ble 1000000 x || memb acc x then addNames acc l else addNames (acc ++ [x]) l
def rowNames : Option Row → List Nat
  | some (.lit _ l) => l.flatMap nameOf
  | _ => []
/-- The rows that some values lead to. -/
def reach (heap : Nat → Option Row) : Nat → List Nat → List Nat → List Nat
  | 0, acc, _ => acc
  | f + 1, acc, todo => match todo with
    | [] => acc
    | x :: l => bif memb acc x then reach heap f acc l else reach heap f (acc ++ [x]) (l ++ addNames [] (rowNames (heap x)))
def σOf (base : Nat) (hs : List Nat) (h : Nat) : Nat := bif Nat.ble 1000000 h then h else base + pos hs h
def inN (k : Nat) (hs : List Nat) (h : Nat) : Bool := inK k h || (!Nat.ble 1000000 h && memb hs h)

/-- A state as a loop's invariant tells it. -/
structure LS where
  env : List (Nat × V)
  rows : List Row
  ents : List (Nat × Row)
def lookE : List (Nat × V) → Nat → V
  | [], _ => .any
  | (t, x) :: l, q => bif Nat.beq t q then x else lookE l q
def lookR : List (Nat × Row) → Nat → Option Row
  | [], _ => none
  | (t, x) :: l, q => bif Nat.beq t q then some x else lookR l q
def mkHeap (base : Nat) (L : LS) (n : Nat) : Option Row := bif Nat.ble 1000000 n then lookR L.ents n else (bif Nat.ble base n then L.rows[n - base]? else none)
def mkUsed (k base cnt : Nat) (n : Nat) : Bool := inK k n || (Nat.ble base n && Nat.blt n (base + cnt))
def mkS (n k base : Nat) (L : LS) : St := { n := n, env := lookE L.env, heap := mkHeap base L, used := mkUsed k base L.rows.length }
def hsOf (S : St) (env : List (Nat × V)) : List Nat := reach S.heap 1000 [] (addNames [] (env.flatMap fun p => namesAll (S.env p.1)))
/-- May the state be told so? First what a look can tell, then what is to be shown. -/
def fitB (n k base : Nat) (S : St) (hs : List Nat) (L : LS) : Bool :=
  nodup hs && Nat.ble (base + hs.length) 1000000 && hs.all (fun h => !Nat.ble 1000000 h && (match S.heap h with
    | some r => closedRow (inN k hs) r
    | none => false)) && L.env.all (fun p => closed (inN k hs) (S.env p.1)) && nodup (L.env.map (·.1)) && L.ents.all (fun p => inK k p.1 && (match S.heap p.1 with
    | some r => closedRow (inN k hs) r
    | none => false)) && Nat.beq hs.length L.rows.length && Nat.beq S.n n
/-- A value may be told as another: nil is an empty list, cells are an array of elements. -/
def leV0 (x y : V) : Prop := match y with
  | .deep t ys => match x with
    | .v (.slice none 0 0) => ys = []
    | x => x = .deep t ys
  | y => x = y
def leL : List V → List V → Prop
  | [], [] => True
  | [x], [y] => leV0 x y
  | x :: l, y :: m => leV0 x y ∧ leL l m
  | _, _ => False
def leVA (x y : V) : Prop := match y with
  | .agg m => match x with
    | .agg l => leL l m
    | x => x = .agg m
  | .vec t n ys => match x with
    | .agg l => bif Nat.beq l.length (n * t.size) then (match decAll t (chunk t.size n l) with
      | some (p, xs) => p ∧ xs = ys
      | none => False) else False
    | x => x = .vec t n ys
  | y => leV0 x y
def leLA : List V → List V → Prop
  | [], [] => True
  | [x], [y] => leVA x y
  | x :: l, y :: m => leVA x y ∧ leLA l m
  | _, _ => False
def leV (x y : V) : Prop := match y with
  | .tup m => match x with
    | .tup l => leLA l m
    | x => x = .tup m
  | y => leVA x y
def leRow (x y : Row) : Prop := match y with
  | .lit e m => match x with
    | .lit e' l => e' = e ∧ leL l m
    | x => x = .lit e m
  | y => x = y
def leRowO (x : Option Row) (y : Row) : Prop := match x with
  | some x => leRow x y
  | none => False
def eqsE (σ : Nat → Nat) (S : St) : List (Nat × V) → Prop
  | [] => True
  | [(t, x)] => leV (ren σ (S.env t)) x
  | (t, x) :: l => leV (ren σ (S.env t)) x ∧ eqsE σ S l
def eqsR (σ : Nat → Nat) (S : St) : List Nat → List Row → Prop
  | [h], [r] => leRowO ((S.heap h).map (renRow σ)) r
  | h :: hs, r :: rs => leRowO ((S.heap h).map (renRow σ)) r ∧ eqsR σ S hs rs
  | _, _ => True
def eqsN (σ : Nat → Nat) (S : St) : List (Nat × Row) → Prop
  | [] => True
  | [(n, r)] => leRowO ((S.heap n).map (renRow σ)) r
  | (n, r) :: l => leRowO ((S.heap n).map (renRow σ)) r ∧ eqsN σ S l
def fits (n k base : Nat) (S : St) (hs : List Nat) (L : LS) : Prop :=
  bif fitB n k base S hs L then eqsE (σOf base hs) S L.env ∧ eqsR (σOf base hs) S hs L.rows ∧ eqsN (σOf base hs) S L.ents else False

section
variable {P : Program} {ti : TypeId → TyI} {Γ : FuncId → Option Sum} {K : Nat → Bool} {ρ : Nat → Hd} {G : Nat → Prop} {heap : Nat → Option Row} {w : World}

theorem RowRep.ren {K' : Nat → Bool} {ρ' : Nat → Hd} {ns : Nat → Bool} {σ : Nat → Nat} (hσ : ∀ h, ns h = true → K' (σ h) = true ∧ ρ' (σ h) = ρ h) {h n : Nat} (e : ρ' n = ρ h) {r : Row} (hr : RowRep K ρ G w h r) (hf : closedRow ns r = true) :
    RowRep K' ρ' G w n (renRow σ r) := by
  cases r with
  | lit el l =>
    obtain ⟨h1, h2, h3, cs, fz, h4, h5, h6⟩ := hr
    refine ⟨by rw [e]; exact h1, by rw [e, List.length_map]; exact h2, ?_, cs, fz, by rw [e]; exact h4, h5, Reps.mk (by rw [List.length_map]; exact h6.1) fun j c hj => ?_⟩
    · rw [List.all_map]
      rw [List.all_eq_true] at h3 ⊢
      intro x hx
      have := h3 x hx
      cases x <;> exact this
    · rw [List.getElem?_map] at hj
      cases hx : l[j]? with
      | none => rw [hx] at hj; cases hj
      | some x =>
        rw [hx] at hj; cases hj
        obtain ⟨u, u1, u2⟩ := h6.get hx
        exact ⟨u, u1, u2.ren0 hσ (List.all_eq_true.1 hf x (List.mem_of_getElem? hx))⟩
  | arr el t xs => exact hr.free e rfl
  | buf el t xs => exact hr.free e rfl

theorem leV0_ok {x y : V} {u : Value} (h : leV0 x y) (r : Rep K ρ G w x u) : Rep K ρ G w y u := by
  unfold leV0 at h
  split at h
  · split at h
    · subst h
      cases r with
      | v => exact .deepE _ none 0 fun _ => rfl
    · rw [← h]; exact r
  · rw [← h]; exact r
theorem leV0_cell {x y : V} (h : leV0 x y) (hc : cellOk x = true) : cellOk y = true := by
  unfold leV0 at h
  split at h
  · rfl
  · rw [← h]; exact hc
theorem leL_cons {x y : V} {l m : List V} : leL (x :: l) (y :: m) ↔ leV0 x y ∧ leL l m := by
  cases l <;> cases m <;> simp [leL]
theorem leL_ok : ∀ {l m : List V} {us : List Value}, leL l m → Reps K ρ G w l us → Reps K ρ G w m us
  | [], [], _, _, r => r
  | [], _ :: _, _, h, _ => h.elim
  | _ :: l, [], _, h, _ => by cases l <;> exact h.elim
  | x :: l, y :: m, us, h, r => by
    obtain ⟨h1, h2⟩ := leL_cons.1 h
    match us, r with
    | [], r => have := r.1; simp at this
    | u :: us, r =>
      have r0 : Rep K ρ G w x u := by simpa using r.2 0 x rfl
      have r1 : Reps K ρ G w l us := ⟨by have := r.1; simpa using this, fun j c hj => by simpa using r.2 (j + 1) c (by simpa using hj)⟩
      have s1 := leL_ok h2 r1
      refine ⟨by simp [s1.1], fun j c hj => ?_⟩
      cases j with
      | zero => simp at hj; subst hj; simpa using leV0_ok h1 r0
      | succ j => simpa using s1.2 j c (by simpa using hj)
theorem leL_len : ∀ {l m : List V}, leL l m → l.length = m.length
  | [], [], _ => rfl
  | [], _ :: _, h => h.elim
  | _ :: l, [], h => by cases l <;> exact h.elim
  | x :: l, y :: m, h => by
    obtain ⟨_, h2⟩ := leL_cons.1 h
    simp [leL_len h2]
theorem leL_cell : ∀ {l m : List V}, leL l m → l.all cellOk = true → m.all cellOk = true
  | [], [], _, _ => rfl
  | [], _ :: _, h, _ => h.elim
  | _ :: l, [], h, _ => by cases l <;> exact h.elim
  | x :: l, y :: m, h, hc => by
    obtain ⟨h1, h2⟩ := leL_cons.1 h
    simp only [List.all_cons, Bool.and_eq_true] at hc ⊢
    exact ⟨leV0_cell h1 hc.1, leL_cell h2 hc.2⟩
theorem leVA_ok {x y : V} {u : Value} (h : leVA x y) (r : Rep K ρ G w x u) : Rep K ρ G w y u := by
  unfold leVA at h
  split at h
  · split at h
    · cases r with
      | agg _ cs hl hr =>
        have := leL_ok h ⟨hl, hr⟩
        exact .agg _ cs this.1 this.2
    · rw [← h]; exact r
  · rename_i t n ys
    split at h
    · rename_i l
      cases hb : Nat.beq l.length (n * t.size) with
      | false => rw [hb] at h; exact h.elim
      | true =>
        rw [hb] at h
        simp only [cond_true] at h
        have hb := Nat.eq_of_beq_eq_true hb
        split at h
        · rename_i p xs hd
          obtain ⟨hp, rfl⟩ := h
          obtain ⟨hl, hs⟩ := decAll_cell t n l p xs hd hp
          cases r with
          | agg _ cs hl' hr =>
            refine .vec t n xs cs hl (by rw [hl', hb]) fun q hq j c hj => ?_
            obtain ⟨c', h1, h2⟩ := hs q hq j c hj
            exact h2 _ _ _ _ _ (hr _ _ h1)
        · exact h.elim
    · rw [← h]; exact r
  · exact leV0_ok h r
theorem leLA_cons {x y : V} {l m : List V} : leLA (x :: l) (y :: m) ↔ leVA x y ∧ leLA l m := by
  cases l <;> cases m <;> simp [leLA]
theorem leLA_ok : ∀ {l m : List V} {us : List Value}, leLA l m → Reps K ρ G w l us → Reps K ρ G w m us
  | [], [], _, _, r => r
  | [], _ :: _, _, h, _ => h.elim
  | _ :: l, [], _, h, _ => by cases l <;> exact h.elim
  | x :: l, y :: m, us, h, r => by
    obtain ⟨h1, h2⟩ := leLA_cons.1 h
    match us, r with
    | [], r => have := r.1; simp at this
    | u :: us, r =>
      have r0 : Rep K ρ G w x u := by simpa using r.2 0 x rfl
      have r1 : Reps K ρ G w l us := ⟨by have := r.1; simpa using this, fun j c hj => by simpa using r.2 (j + 1) c (by simpa using hj)⟩
      have s1 := leLA_ok h2 r1
      refine ⟨by simp [s1.1], fun j c hj => ?_⟩
      cases j with
      | zero => simp at hj; subst hj; simpa using leVA_ok h1 r0
      | succ j => simpa using s1.2 j c (by simpa using hj)
theorem leV_ok {x y : V} {u : Value} (h : leV x y) (r : Rep K ρ G w x u) : Rep K ρ G w y u := by
  unfold leV at h
  split at h
  · split at h
    · cases r with
      | tup _ cs hl hr =>
        have := leLA_ok h ⟨hl, hr⟩
        exact .tup _ cs this.1 this.2
    · rw [← h]; exact r
  · exact leVA_ok h r
theorem leRow_ok {x y : Row} {n : Nat} (h : leRow x y) (r : RowRep K ρ G w n x) : RowRep K ρ G w n y := by
  unfold leRow at h
  split at h
  · split at h
    · obtain ⟨rfl, hl⟩ := h
      obtain ⟨h1, h2, h3, cs, fz, h4, h5, h6⟩ := r
      exact ⟨h1, by rw [h2, leL_len hl], leL_cell hl h3, cs, fz, h4, h5, leL_ok hl h6⟩
    · rw [← h]; exact r
  · rw [← h]; exact r
theorem leRowO_some {x : Option Row} {f : Row → Row} {y : Row} (h : leRowO (x.map f) y) : ∃ x0, x = some x0 ∧ leRow (f x0) y := by
  cases x with
  | none => exact h.elim
  | some x0 => exact ⟨x0, rfl, h⟩

theorem eqsE_get {σ : Nat → Nat} {S : St} : ∀ {l : List (Nat × V)}, eqsE σ S l → ∀ p ∈ l, leV (Ab.ren σ (S.env p.1)) p.2
  | [], _, _, hp => by cases hp
  | [(t, x)], h, p, hp => by simp at hp; subst hp; exact h
  | (t, x) :: q :: l, h, p, hp => by
    rcases List.mem_cons.1 hp with rfl | hp
    · exact h.1
    · exact eqsE_get h.2 p hp
theorem eqsR_cons {σ : Nat → Nat} {S : St} {h : Nat} {hs : List Nat} {r : Row} {rs : List Row} (e : eqsR σ S (h :: hs) (r :: rs)) : leRowO ((S.heap h).map (renRow σ)) r ∧ eqsR σ S hs rs := by
  cases hs with
  | nil => cases rs with
    | nil => exact ⟨e, trivial⟩
    | cons => exact e
  | cons => exact e
theorem eqsR_get {σ : Nat → Nat} {S : St} : ∀ {hs : List Nat} {rs : List Row}, eqsR σ S hs rs → ∀ (i : Nat) (h : Nat) (r : Row), hs[i]? = some h → rs[i]? = some r → leRowO ((S.heap h).map (renRow σ)) r
  | [], _, _, i, h, r, h1, _ => by simp at h1
  | _ :: _, [], _, i, h, r, _, h2 => by simp at h2
  | x :: hs, y :: rs, e, 0, h, r, h1, h2 => by
    simp at h1 h2; subst h1; subst h2; exact (eqsR_cons e).1
  | x :: hs, y :: rs, e, i + 1, h, r, h1, h2 => eqsR_get (eqsR_cons e).2 i h r (by simpa using h1) (by simpa using h2)
theorem eqsN_get {σ : Nat → Nat} {S : St} : ∀ {l : List (Nat × Row)}, eqsN σ S l → ∀ p ∈ l, leRowO ((S.heap p.1).map (renRow σ)) p.2
  | [], _, _, hp => by cases hp
  | [(t, x)], h, p, hp => by simp at hp; subst hp; exact h
  | (t, x) :: q :: l, h, p, hp => by
    rcases List.mem_cons.1 hp with rfl | hp
    · exact h.1
    · exact eqsN_get h.2 p hp
theorem lookR_some : ∀ {l : List (Nat × Row)} {n : Nat} {r : Row}, lookR l n = some r → (n, r) ∈ l
  | [], _, _, h => by cases h
  | (t, x) :: l, n, r, h => by
    simp only [lookR] at h
    cases hb : Nat.beq t n with
    | true => rw [hb] at h; simp only [cond_true] at h; cases h; rw [Nat.eq_of_beq_eq_true hb]; simp
    | false => rw [hb] at h; simp only [cond_false] at h; exact List.mem_cons_of_mem _ (lookR_some h)
theorem lookE_cases : ∀ (l : List (Nat × V)) (t : Nat), lookE l t = .any ∨ ∃ x, (t, x) ∈ l ∧ lookE l t = x
  | [], _ => .inl rfl
  | (q, x) :: l, t => by
    simp only [lookE]
    cases hb : Nat.beq q t with
    | true => exact .inr ⟨x, by rw [Nat.eq_of_beq_eq_true hb]; simp, rfl⟩
    | false =>
      simp only [cond_false]
      rcases lookE_cases l t with h | ⟨y, h1, h2⟩
      · exact .inl h
      · exact .inr ⟨y, List.mem_cons_of_mem _ h1, h2⟩

/-- How a function's run goes on from where it began. -/
def RelE (k : Nat) (ρ0 : Nat → Hd) (G0 : Nat → Prop) (heap0 : Nat → Option Row) (w0 : World) (S : St) (a : Act) (w : World) : Prop :=
  ∃ ρ G, Rel ρ G S a w ∧ Evo (inK k) ρ0 G0 heap0 w0 S.used ρ G S.heap w

/-! Nil as a row that has no place; a beginning of a row as a row. -/
def tellOne (base : Nat) (rows : List Row) (S : St) (p : Nat × V) : Option (Prop × St) := match p.2, S.env p.1 with
  | .ow n, .v (.slice none 0 0) => match rows[n - base]? with
    | some (.buf e t _) => bif S.used (900000 + p.1) then none else some (True, { n := S.n, env := upd S.env p.1 (.ow (900000 + p.1)), heap := upd S.heap (900000 + p.1) (some (.buf e t [])), used := upd S.used (900000 + p.1) true })
    | _ => none
  | .own n b s _ _ l, .v (.slice none 0 0) => match rows[n - base]? with
    | some (.buf e t _) => bif S.used (900000 + p.1) then none else some (True, { n := S.n, env := upd S.env p.1 (.own (900000 + p.1) b s 0 0 l), heap := upd S.heap (900000 + p.1) (some (.buf e t [])), used := upd S.used (900000 + p.1) true })
    | _ => none
  | .ow _, .own h b s o len none => match S.heap h with
    | some (.buf e t xs) => bif !S.used (900000 + p.1) && Nat.beq b 0 && Nat.beq o 0 && Nat.beq t.size s then
        some (len ≤ xs.length, { n := S.n, env := upd S.env p.1 (.ow (900000 + p.1)), heap := upd (upd S.heap h none) (900000 + p.1) (some (.buf e t (xs.take len))), used := upd S.used (900000 + p.1) true }) else none
    | _ => none
  | .own _ _ _ _ _ _, .ow h => match S.heap h with
    | some (.buf _ t xs) => some (True, { S with env := upd S.env p.1 (.own h 0 t.size 0 xs.length none) })
    | _ => none
  | _, _ => none
def tellN (base : Nat) (rows : List Row) (S : St) (p : Nat × V) : St := match tellOne base rows S p with
  | some (_, S') => S'
  | none => S
def tellAll (base : Nat) (rows : List Row) : List (Nat × V) → St → St
  | [], S => S
  | p :: l, S => tellAll base rows l (tellN base rows S p)
/-- What must hold for it. -/
def tellP (base : Nat) (rows : List Row) : List (Nat × V) → St → Prop → Prop
  | [], _, k => k
  | p :: l, S, k => match tellOne base rows S p with
    | some (q, S') => q ∧ tellP base rows l S' k
    | none => tellP base rows l S k

section
variable {S : St} {a : Act} {k : Nat} {ρ0 : Nat → Hd} {G0 : Nat → Prop} {heap0 : Nat → Option Row} {w0 : World}
/-- A name that is not used may name a row without a place. -/
theorem RelE.nilRow {q t : Nat} {c : V} {e : TypeId} {dt : DT} (hu : S.used q = false) (h : RelE k ρ0 G0 heap0 w0 S a w)
    (hc : ∀ (K : Nat → Bool) (ρ : Nat → Hd) (G : Nat → Prop), K q = true → (ρ q).nil = true → Rep K ρ G w c (.slice none 0 0)) (h2 : S.env t = .v (.slice none 0 0)) :
    RelE k ρ0 G0 heap0 w0 { n := S.n, env := upd S.env t c, heap := upd S.heap q (some (.buf e dt [])), used := upd S.used q true } a w := by
  obtain ⟨ρ, G, h, hev⟩ := h
  have hK : ∀ x, S.used x = true → upd S.used q true x = true ∧ upd ρ q ⟨0, 0, 0, 0, true⟩ x = ρ x := by
    intro x hx
    have hne : x ≠ q := fun c => by rw [c] at hx; exact absurd (hu.symm.trans hx) (by simp)
    rw [upd_ne _ _ _ hne, upd_ne _ _ _ hne]; exact ⟨hx, rfl⟩
  refine ⟨upd ρ q ⟨0, 0, 0, 0, true⟩, G, ?_, ?_⟩
  · constructor
    · exact h.size
    · exact h.defers
    · intro x
      show Rep (upd S.used q true) _ G w (upd S.env t c x) _
      by_cases e : x = t
      · subst e
        rw [upd_same]
        have h0 := h.env x
        rw [h2] at h0
        generalize a.tmps.getD x undef = v at h0 ⊢
        cases h0
        exact hc _ _ _ (upd_same _ _ _) (by rw [upd_same])
      · rw [upd_ne _ _ _ e]
        exact (h.env x).mono hK (fun _ h => h) (fun _ _ => rfl)
    · constructor
      · intro x r hx
        by_cases c : x = q
        · subst c
          have hx' : upd S.heap x (some (.buf e dt [])) x = some r := hx
          rw [upd_same] at hx'
          cases hx'
          refine ⟨upd_same _ _ _, ?_, fun hn => ?_⟩
          · simp only [RowRep, upd_same]
            exact ⟨rfl, .inl ⟨trivial, trivial⟩⟩
          · rw [upd_same] at hn; cases hn
        · have hx' : upd S.heap q (some (.buf e dt [])) x = some r := hx
          rw [upd_ne _ _ _ c] at hx'
          obtain ⟨m1, m2, m3⟩ := h.mem.row x r hx'
          refine ⟨(hK x m1).1, m2.mono hK (fun _ h => h) (fun _ _ => rfl) (by rw [upd_ne _ _ _ c]) (fun _ => rfl), fun hn => ?_⟩
          rw [upd_ne _ _ _ c] at hn ⊢
          exact m3 hn
      · intro x y hx hy hn hn' he
        have cx : x ≠ q := fun c => by rw [c, upd_same] at hn; cases hn
        have cy : y ≠ q := fun c => by rw [c, upd_same] at hn'; cases hn'
        have hx' : (upd S.heap q (some (.buf e dt [])) x).isSome = true := hx
        have hy' : (upd S.heap q (some (.buf e dt [])) y).isSome = true := hy
        rw [upd_ne _ _ _ cx] at hx' hn he
        rw [upd_ne _ _ _ cy] at hy' hn' he
        exact h.mem.inj x y hx' hy' hn hn' he
      · exact h.mem.old
  · refine ⟨hev.os, hev.tape, hev.output, hev.size, hev.keep, fun x hx => ?_, hev.mono, hev.newG, fun b hb => ?_⟩
    · obtain ⟨k1, k2⟩ := hev.names x hx
      exact ⟨(hK x k1).1, (hK x k1).2.trans k2⟩
    · obtain ⟨x, hx, hn, hb⟩ := hb
      have cx : x ≠ q := fun c => by rw [c, upd_same] at hn; cases hn
      have hx' : (upd S.heap q (some (.buf e dt [])) x).isSome = true := hx
      rw [upd_ne _ _ _ cx] at hx' hn hb
      exact hev.lives b ⟨x, hx', hn, hb⟩

/-- The beginning of a row as a row. -/
theorem RelE.cutRow {q t hh len : Nat} {e : TypeId} {dt : DT} {xs : List dt.T} (hu : S.used q = false) (h : RelE k ρ0 G0 heap0 w0 S a w) (h2 : S.env t = .own hh 0 dt.size 0 len none) (hr : S.heap hh = some (.buf e dt xs)) (hle : len ≤ xs.length) :
    RelE k ρ0 G0 heap0 w0 { n := S.n, env := upd S.env t (.ow q), heap := upd (upd S.heap hh none) q (some (.buf e dt (xs.take len))), used := upd S.used q true } a w := by
  obtain ⟨ρ, G, h, hev⟩ := h
  let hd : Hd := ⟨(ρ hh).b, (ρ hh).tot, len, (ρ hh).cap, (ρ hh).nil⟩
  have hK : ∀ x, S.used x = true → upd S.used q true x = true ∧ upd ρ q hd x = ρ x := by
    intro x hx
    have hne : x ≠ q := fun c => by rw [c] at hx; exact absurd (hu.symm.trans hx) (by simp)
    rw [upd_ne _ _ _ hne, upd_ne _ _ _ hne]; exact ⟨hx, rfl⟩
  obtain ⟨m1, m2, m3⟩ := h.mem.row hh _ hr
  have hqh : hh ≠ q := fun c => by rw [c] at m1; exact absurd (hu.symm.trans m1) (by simp)
  have hrow : ∀ x r, upd (upd S.heap hh none) q (some (.buf e dt (xs.take len))) x = some r → (x = q ∧ r = .buf e dt (xs.take len)) ∨ (x ≠ q ∧ x ≠ hh ∧ S.heap x = some r) := by
    intro x r hx
    by_cases c : x = q
    · subst c
      rw [upd_same] at hx
      exact .inl ⟨rfl, (Option.some.inj hx).symm⟩
    · rw [upd_ne _ _ _ c] at hx
      by_cases c2 : x = hh
      · subst c2
        rw [upd_same] at hx; cases hx
      · rw [upd_ne _ _ _ c2] at hx
        exact .inr ⟨c, c2, hx⟩
  obtain ⟨r1, r2⟩ := m2
  refine ⟨upd ρ q hd, G, ?_, ?_⟩
  · constructor
    · exact h.size
    · exact h.defers
    · intro x
      show Rep (upd S.used q true) _ G w (upd S.env t (.ow q) x) _
      by_cases e' : x = t
      · subst e'
        rw [upd_same]
        have h0 := h.env x
        rw [h2] at h0
        generalize a.tmps.getD x undef = v at h0 ⊢
        cases h0 with
        | own _ _ _ _ _ c _ ad hk hn hl ha _ htot =>
          have hn' : (ρ hh).nil = false := hn
          rcases r2 with ⟨r2, _⟩ | ⟨_, r4, r5, _⟩
          · rw [hn'] at r2; cases r2
          · have h3 := htot rfl
            rw [r4, Nat.zero_add, Nat.add_zero] at h3
            have hcc : c = (ρ hh).cap := Nat.eq_of_mul_eq_mul_right (dt_pos dt) h3
            have had : ad = ⟨(ρ hh).b, 0, none⟩ := by
              have := ha (.inr rfl)
              rwa [Nat.zero_mul] at this
            subst hcc
            subst had
            have := Rep.ow (K := upd S.used q true) (ρ := upd ρ q hd) (G := G) (w := w) q (upd_same _ _ _) (by rw [upd_same]; exact hn')
            rw [upd_same] at this
            exact this
        | ownNil _ _ _ _ hk hn => exact .owNil q (upd_same _ _ _) (by rw [upd_same]; exact hn)
      · rw [upd_ne _ _ _ e']
        exact (h.env x).mono hK (fun _ h => h) (fun _ _ => rfl)
    · constructor
      · intro x r hx
        rcases hrow x r hx with ⟨rfl, rfl⟩ | ⟨c1, c2, hx⟩
        · refine ⟨upd_same _ _ _, ?_, fun hn => ?_⟩
          · have e0 : upd ρ x hd x = hd := upd_same _ _ _
            simp only [RowRep, e0]
            refine ⟨by rw [List.length_take]; exact Nat.min_eq_left hle, ?_⟩
            rcases r2 with ⟨r2, r3⟩ | ⟨r3, r4, r5, cs, fz, r6, r7, r8, r9⟩
            · subst r3
              exact .inl ⟨r2, by simp⟩
            · refine .inr ⟨r3, r4, by rw [List.length_take]; exact Nat.le_trans (Nat.min_le_right _ _) r5, cs, fz, r6, r7, r8, fun i hi j c hc => ?_⟩
              rw [List.length_take] at hi
              rw [List.getElem_take] at hc
              obtain ⟨u, u1, u2⟩ := r9 i (by omega) j c hc
              exact ⟨u, u1, u2.mono hK (fun _ h => h) (fun _ _ => rfl)⟩
          · rw [upd_same] at hn ⊢
            exact m3 hn
        · obtain ⟨m1, m2, m3⟩ := h.mem.row x r hx
          refine ⟨(hK x m1).1, m2.mono hK (fun _ h => h) (fun _ _ => rfl) (by rw [upd_ne _ _ _ c1]) (fun _ => rfl), fun hn => ?_⟩
          rw [upd_ne _ _ _ c1] at hn ⊢
          exact m3 hn
      · intro x y hx hy hn hn' he
        obtain ⟨r, hx⟩ := Option.isSome_iff_exists.1 hx
        obtain ⟨r', hy⟩ := Option.isSome_iff_exists.1 hy
        rcases hrow x r hx with ⟨rfl, _⟩ | ⟨c1, c2, hx2⟩ <;> rcases hrow y r' hy with ⟨rfl, _⟩ | ⟨c3, c4, hy2⟩
        · rfl
        · rw [upd_same] at hn he
          rw [upd_ne _ _ _ c3] at hn' he
          exact absurd (h.mem.inj hh y (Option.isSome_iff_exists.2 ⟨_, hr⟩) (Option.isSome_iff_exists.2 ⟨_, hy2⟩) hn hn' he).symm c4
        · rw [upd_same] at hn' he
          rw [upd_ne _ _ _ c1] at hn he
          exact absurd (h.mem.inj x hh (Option.isSome_iff_exists.2 ⟨_, hx2⟩) (Option.isSome_iff_exists.2 ⟨_, hr⟩) hn hn' he) c2
        · rw [upd_ne _ _ _ c1] at hn he
          rw [upd_ne _ _ _ c3] at hn' he
          exact h.mem.inj x y (Option.isSome_iff_exists.2 ⟨_, hx2⟩) (Option.isSome_iff_exists.2 ⟨_, hy2⟩) hn hn' he
      · exact h.mem.old
  · refine ⟨hev.os, hev.tape, hev.output, hev.size, hev.keep, fun x hx => ?_, hev.mono, hev.newG, fun b hb => ?_⟩
    · obtain ⟨k1, k2⟩ := hev.names x hx
      exact ⟨(hK x k1).1, (hK x k1).2.trans k2⟩
    · obtain ⟨x, hx, hn, hb⟩ := hb
      obtain ⟨r, hx⟩ := Option.isSome_iff_exists.1 hx
      rcases hrow x r hx with ⟨rfl, _⟩ | ⟨c1, c2, hx⟩
      · rw [upd_same] at hn hb
        exact hev.lives b ⟨hh, Option.isSome_iff_exists.2 ⟨_, hr⟩, hn, hb⟩
      · rw [upd_ne _ _ _ c1] at hn hb
        exact hev.lives b ⟨x, Option.isSome_iff_exists.2 ⟨_, hx⟩, hn, hb⟩
end

/-- A row as a slice of all of it. -/
theorem RelE.wholeRow {k : Nat} {S : St} {a : Act} {ρ0 : Nat → Hd} {G0 : Nat → Prop} {heap0 : Nat → Option Row} {w0 : World} {t hh : Nat} {e : TypeId} {dt : DT} {xs : List dt.T} (h : RelE k ρ0 G0 heap0 w0 S a w) (h2 : S.env t = .ow hh) (hr : S.heap hh = some (.buf e dt xs)) :
    RelE k ρ0 G0 heap0 w0 { S with env := upd S.env t (.own hh 0 dt.size 0 xs.length none) } a w := by
  obtain ⟨ρ, G, h, hev⟩ := h
  obtain ⟨m1, ⟨r1, r2⟩, m3⟩ := h.mem.row hh _ hr
  refine ⟨ρ, G, ⟨h.size, h.defers, fun x => ?_, h.mem⟩, hev⟩
  show Rep S.used ρ G w (upd S.env t (.own hh 0 dt.size 0 xs.length none) x) _
  by_cases e' : x = t
  · subst e'
    rw [upd_same]
    have h0 := h.env x
    rw [h2] at h0
    generalize a.tmps.getD x undef = v at h0 ⊢
    cases h0 with
    | ow _ hk hn =>
      rcases r2 with ⟨r2, _⟩ | ⟨_, r4, r5, _⟩
      · rw [hn] at r2; cases r2
      · rw [← r1]
        exact .own hh 0 dt.size 0 xs.length (ρ hh).cap none _ hk hn r5 (fun _ => by rw [Nat.zero_mul]) (fun n hn => by cases hn) (fun _ => by rw [r4, Nat.zero_add, Nat.add_zero])
    | owNil _ hk hn =>
      rcases r2 with ⟨_, r3⟩ | ⟨r2, _⟩
      · subst r3; exact .ownNil hh 0 dt.size none hk hn
      · rw [hn] at r2; cases r2
  · rw [upd_ne _ _ _ e']
    exact h.env x

theorem tellOne_ok {k base : Nat} {rows : List Row} {S S' : St} {p : Nat × V} {q : Prop} (ht : tellOne base rows S p = some (q, S')) (hq : q) {ρ0 : Nat → Hd} {G0 : Nat → Prop} {heap0 : Nat → Option Row} {w0 : World} {a : Act} (h : RelE k ρ0 G0 heap0 w0 S a w) :
    RelE k ρ0 G0 heap0 w0 S' a w ∧ S'.n = S.n := by
  unfold tellOne at ht
  split at ht
  · rename_i n h1 h2
    split at ht
    · cases hu : S.used (900000 + p.1) with
      | true => rw [hu] at ht; cases ht
      | false =>
        rw [hu] at ht
        cases ht
        exact ⟨h.nilRow hu (fun _ _ _ a b => .owNil _ a b) h2, rfl⟩
    · cases ht
  · rename_i n b s o len l h1 h2
    split at ht
    · cases hu : S.used (900000 + p.1) with
      | true => rw [hu] at ht; cases ht
      | false =>
        rw [hu] at ht
        cases ht
        exact ⟨h.nilRow hu (fun _ _ _ a b => .ownNil _ _ _ _ a b) h2, rfl⟩
    · cases ht
  · rename_i hh b s o len h1 h2
    split at ht
    · rename_i e t xs hr
      replace ht := bif_some ht; obtain ⟨hc, ht⟩ := ht
      cases ht
      simp only [Bool.and_eq_true, Bool.not_eq_true'] at hc
      obtain ⟨⟨⟨c1, c2⟩, c3⟩, c4⟩ := hc
      have c2 := Nat.eq_of_beq_eq_true c2
      have c3 := Nat.eq_of_beq_eq_true c3
      have c4 := Nat.eq_of_beq_eq_true c4
      subst c2; subst c3; subst c4
      exact ⟨h.cutRow c1 h2 hr hq, rfl⟩
    · cases ht
  · rename_i h1 h2
    split at ht
    · rename_i e t xs hr
      cases ht
      exact ⟨h.wholeRow h2 hr, rfl⟩
    · cases ht
  · cases ht
theorem tellAll_ok {k base : Nat} {rows : List Row} {ρ0 : Nat → Hd} {G0 : Nat → Prop} {heap0 : Nat → Option Row} {w0 : World} {a : Act} {c : Prop} : ∀ (l : List (Nat × V)) {S : St}, tellP base rows l S c → RelE k ρ0 G0 heap0 w0 S a w →
    c ∧ RelE k ρ0 G0 heap0 w0 (tellAll base rows l S) a w
  | [], _, hc, h => ⟨hc, h⟩
  | p :: l, S, hc, h => by
    simp only [tellP] at hc
    split at hc
    · rename_i q S' ht
      have := tellAll_ok l hc.2 (tellOne_ok ht hc.1 h).1
      rw [tellAll, tellN, ht]
      exact this
    · rename_i ht
      have := tellAll_ok l hc h
      rw [tellAll, tellN, ht]
      exact this

/-- A state told anew. -/
theorem fits_ok {n k base : Nat} {S : St} {hs : List Nat} {L : LS} (hf : fits n k base S hs L) {ρ0 : Nat → Hd} {G0 : Nat → Prop} {heap0 : Nat → Option Row} {w0 : World} {a : Act} (h : RelE k ρ0 G0 heap0 w0 S a w) :
    RelE k ρ0 G0 heap0 w0 (mkS n k base L) a w := by
  obtain ⟨ρ, G, h, hev⟩ := h
  obtain ⟨hb, hE, hR, hN⟩ : fitB n k base S hs L = true ∧ eqsE (σOf base hs) S L.env ∧ eqsR (σOf base hs) S hs L.rows ∧ eqsN (σOf base hs) S L.ents := by
    unfold fits at hf
    cases hb : fitB n k base S hs L with
    | true => rw [hb] at hf; exact ⟨rfl, hf⟩
    | false => rw [hb] at hf; exact hf.elim
  unfold fitB at hb
  simp only [Bool.and_eq_true] at hb
  obtain ⟨⟨⟨⟨⟨⟨⟨b1, b2⟩, b3⟩, b4⟩, _⟩, b6⟩, b7⟩, b8⟩ := hb
  have hSn := Nat.eq_of_beq_eq_true b8
  subst hSn
  have hnd := (nodup_iff hs).1 b1
  have hle := Nat.le_of_ble_eq_true b2
  have hlen := Nat.eq_of_beq_eq_true b7
  have hhs : ∀ q ∈ hs, q < 1000000 ∧ ∃ r, S.heap q = some r ∧ closedRow (inN k hs) r = true := by
    intro q hq
    have := List.all_eq_true.1 b3 q hq
    simp only [Bool.and_eq_true, Bool.not_eq_true'] at this
    refine ⟨?_, ?_⟩
    · by_cases c : 1000000 ≤ q
      · rw [Nat.ble_eq_true_of_le c] at this; cases this.1
      · omega
    · cases hr : S.heap q with
      | none => rw [hr] at this; cases this.2
      | some r => rw [hr] at this; exact ⟨r, rfl, this.2⟩
  -- names
  let ρ' : Nat → Hd := fun n => if 1000000 ≤ n then ρ n else ρ (hs.getD (n - base) 0)
  have σin : ∀ q, q ∈ hs → σOf base hs q = base + pos hs q ∧ base + pos hs q < 1000000 ∧ ρ' (σOf base hs q) = ρ q ∧ mkUsed k base L.rows.length (σOf base hs q) = true := by
    intro q hq
    have hlt := (hhs q hq).1
    have hp := pos_lt hq
    have e1 : σOf base hs q = base + pos hs q := by
      unfold σOf
      have : Nat.ble 1000000 q = false := by
        cases hc : Nat.ble 1000000 q with
        | false => rfl
        | true => have := Nat.le_of_ble_eq_true hc; omega
      rw [this]; rfl
    refine ⟨e1, by omega, ?_, ?_⟩
    · rw [e1]
      show (if 1000000 ≤ base + pos hs q then _ else _) = _
      rw [if_neg (by omega), Nat.add_sub_cancel_left]
      simp only [List.getD, pos_get hq, Option.getD_some]
    · rw [e1]
      unfold mkUsed
      simp only [Bool.or_eq_true, Bool.and_eq_true]
      exact .inr ⟨Nat.ble_eq_true_of_le (by omega), Nat.ble_eq_true_of_le (by omega)⟩
  have σk : ∀ q, inK k q = true → σOf base hs q = q ∧ ρ' q = ρ q ∧ mkUsed k base L.rows.length q = true := by
    intro q hq
    have hq' := inK_iff.1 hq
    refine ⟨?_, if_pos hq'.1, ?_⟩
    · unfold σOf; rw [Nat.ble_eq_true_of_le hq'.1]; rfl
    · unfold mkUsed; rw [hq]; rfl
  have hσ : ∀ q, inN k hs q = true → mkUsed k base L.rows.length (σOf base hs q) = true ∧ ρ' (σOf base hs q) = ρ q := by
    intro q hq
    unfold inN at hq
    simp only [Bool.or_eq_true, Bool.and_eq_true] at hq
    rcases hq with hq | ⟨_, hq⟩
    · obtain ⟨h1, h2, h3⟩ := σk q hq
      rw [h1]; exact ⟨h3, h2⟩
    · obtain ⟨_, _, h2, h3⟩ := σin q ((memb_iff _ _).1 hq)
      exact ⟨h3, h2⟩
  -- rows
  have hrow : ∀ n r, mkHeap base L n = some r → ∃ q r0, S.heap q = some r0 ∧ leRow (renRow (σOf base hs) r0) r ∧ closedRow (inN k hs) r0 = true ∧ ρ' n = ρ q ∧ mkUsed k base L.rows.length n = true ∧ ((1000000 ≤ n ∧ q = n) ∨ (n < 1000000 ∧ hs[n - base]? = some q ∧ base ≤ n)) := by
    intro n r hr
    unfold mkHeap at hr
    cases hc : Nat.ble 1000000 n with
    | true =>
      rw [hc] at hr
      simp only [cond_true] at hr
      have hm := lookR_some hr
      have h1 := List.all_eq_true.1 b6 _ hm
      simp only [Bool.and_eq_true] at h1
      obtain ⟨r0, hr0, h2⟩ := leRowO_some (eqsN_get hN _ hm)
      simp only at h2 h1 hr0
      rw [hr0] at h1
      obtain ⟨_, k2, k3⟩ := σk n h1.1
      exact ⟨n, r0, hr0, h2, h1.2, k2, k3, .inl ⟨Nat.le_of_ble_eq_true hc, rfl⟩⟩
    | false =>
      rw [hc] at hr
      simp only [cond_false] at hr
      cases hc2 : Nat.ble base n with
      | false => rw [hc2] at hr; cases hr
      | true =>
        rw [hc2] at hr
        simp only [cond_true] at hr
        have hbn := Nat.le_of_ble_eq_true hc2
        have hlt := (List.getElem?_eq_some_iff.1 hr).1
        have hlt2 : n - base < hs.length := by omega
        obtain ⟨q, hq⟩ : ∃ q, hs[n - base]? = some q := ⟨hs[n - base], List.getElem?_eq_getElem hlt2⟩
        obtain ⟨r1, h4', h2⟩ := leRowO_some (eqsR_get hR _ _ _ hq hr)
        obtain ⟨h3, r0, h4, h5⟩ := hhs q (List.mem_of_getElem? hq)
        have e01 : r1 = r0 := Option.some.inj (h4'.symm.trans h4)
        rw [e01] at h2
        have hn : n < 1000000 := by omega
        refine ⟨q, r0, h4, h2, h5, ?_, ?_, .inr ⟨hn, hq, hbn⟩⟩
        · show (if 1000000 ≤ n then _ else _) = _
          rw [if_neg (by omega)]
          simp only [List.getD, hq, Option.getD_some]
        · unfold mkUsed
          simp only [Bool.or_eq_true, Bool.and_eq_true]
          exact .inr ⟨hc2, Nat.ble_eq_true_of_le (by omega)⟩
  have qinj : ∀ n n' q, ((1000000 ≤ n ∧ q = n) ∨ (n < 1000000 ∧ hs[n - base]? = some q ∧ base ≤ n)) → ((1000000 ≤ n' ∧ q = n') ∨ (n' < 1000000 ∧ hs[n' - base]? = some q ∧ base ≤ n')) → n = n' := by
    intro n n' q h1 h2
    rcases h1 with ⟨a1, a2⟩ | ⟨a1, a2, a3⟩ <;> rcases h2 with ⟨c1, c2⟩ | ⟨c1, c2, c3⟩
    · omega
    · have := (hhs q (List.mem_of_getElem? c2)).1; omega
    · have := (hhs q (List.mem_of_getElem? a2)).1; omega
    · have := nodup_inj hnd a2 c2; omega
  refine ⟨ρ', G, ?_, ?_⟩
  · constructor
    · exact h.size
    · exact h.defers
    · intro t
      show Rep (mkUsed k base L.rows.length) ρ' G w (lookE L.env t) _
      rcases lookE_cases L.env t with e | ⟨x, hx, e⟩
      · rw [e]; exact .any _
      · rw [e]
        have he2 : leV (Ab.ren (σOf base hs) (S.env t)) x := eqsE_get hE _ hx
        exact leV_ok he2 ((h.env t).ren hσ (List.all_eq_true.1 b4 _ hx))
    · constructor
      · intro n r hr
        obtain ⟨q, r0, h1, hle, h3, h4, h5, _⟩ := hrow n r hr
        obtain ⟨m1, m2, m3⟩ := h.mem.row q r0 h1
        exact ⟨h5, leRow_ok hle (m2.ren hσ h4 h3), fun hn => by rw [h4] at hn ⊢; exact m3 hn⟩
      · intro n n' hs1 hs2 hn hn' he
        obtain ⟨r, hr⟩ := Option.isSome_iff_exists.1 hs1
        obtain ⟨r', hr'⟩ := Option.isSome_iff_exists.1 hs2
        obtain ⟨q, r0, h1, _, _, h4, _, h6⟩ := hrow n r hr
        obtain ⟨q', r0', h1', _, _, h4', _, h6'⟩ := hrow n' r' hr'
        rw [h4] at hn he
        rw [h4'] at hn' he
        have := h.mem.inj q q' (by simp [h1]) (by simp [h1']) hn hn' he
        subst this
        exact qinj n n' q h6 h6'
      · exact h.mem.old
  · refine ⟨hev.os, hev.tape, hev.output, hev.size, hev.keep, fun q hq => ?_, hev.mono, hev.newG, fun b hb => ?_⟩
    · obtain ⟨_, k2, k3⟩ := σk q hq
      exact ⟨k3, k2.trans (hev.names q hq).2⟩
    · obtain ⟨n, hs1, hn, hb⟩ := hb
      obtain ⟨r, hr⟩ := Option.isSome_iff_exists.1 hs1
      obtain ⟨q, r0, h1, _, _, h4, _, _⟩ := hrow n r hr
      rw [h4] at hn hb
      exact hev.lives b ⟨q, by simp [h1], hn, hb⟩

/-- A state told anew, nil as rows where rows are wanted. -/
def fitN (n k base : Nat) (S : St) (L : LS) : Prop := tellP base L.rows L.env S (fits n k base (tellAll base L.rows L.env S) (hsOf (tellAll base L.rows L.env S) L.env) L)
theorem fitN_ok {n k base : Nat} {S : St} {L : LS} (hf : fitN n k base S L) {ρ0 : Nat → Hd} {G0 : Nat → Prop} {heap0 : Nat → Option Row} {w0 : World} {a : Act} (h : RelE k ρ0 G0 heap0 w0 S a w) :
    RelE k ρ0 G0 heap0 w0 (mkS n k base L) a w := by
  obtain ⟨h1, h2⟩ := tellAll_ok L.env hf h
  exact fits_ok h1 h2

/-! Regions. -/
theorem run_wpOps (hti : TiOK P ti) (fl : FlOK) (hΓ : ∀ F s, Γ F = some s → SumOK P F s) {ops : Array Oper} {Q : Exit → Act → World → Prop} {S' : St} :
    ∀ (tr : List (Nat × Oper × FP)) (S : St) (a : Act) (w : World) (ρ : Nat → Hd) (G : Nat → Prop), Run ti Γ ops.toList tr S S' → (∀ x ∈ tr, ops[x.1]? = some x.2.1) → Rel ρ G S a w →
    (∀ a' w' ρ' G', Rel ρ' G' S' a' w' → Evo S.used ρ G S.heap w S'.used ρ' G' S'.heap w' → Q .normal a' w') → wpOps P ops Q (tr.map (·.1)) a w := by
  intro tr
  induction tr with
  | nil =>
    intro S a w ρ G run _ hrel hfin
    cases run
    exact hfin a w ρ G hrel (Evo.refl _ _ _ _ _)
  | cons x tr ih =>
    intro S a w ρ G run hat hrel hfin
    obtain ⟨i, o, f⟩ := x
    simp only [List.map_cons]
    rw [wpOps_cons]
    cases run with
    | cons hstep hp rest =>
      exact stepR_ok hti fl hΓ hrel (hat (i, o, f) (by simp)) hstep hp fun a' w' ρ' G' hrel' hev =>
        ih _ a' w' ρ' G' rest (fun y hy => hat y (by simp [hy])) hrel' fun a2 w2 ρ2 G2 r2 e2 => hfin a2 w2 ρ2 G2 r2 (hev.trans e2)

theorem Rel.drawn {S : St} {a : Act} (h : Rel ρ G S a w) : Rel ρ G S a { w with drawn := w.drawn + 1 } ∧ Evo S.used ρ G S.heap w S.used ρ G S.heap { w with drawn := w.drawn + 1 } := by
  refine ⟨⟨h.size, h.defers, fun t => Rep.mono (w := w) (w' := { w with drawn := w.drawn + 1 }) (K := S.used) (ρ := ρ) (G := G) (fun _ h => ⟨h, rfl⟩) (fun _ h => h) (fun _ _ => rfl) (h.env t), ?_⟩, ?_⟩
  · constructor
    · intro n r hr
      obtain ⟨h1, h2, h3⟩ := h.mem.row n r hr
      exact ⟨h1, RowRep.mono (w := w) (w' := { w with drawn := w.drawn + 1 }) (K := S.used) (ρ := ρ) (G := G) (fun _ h => ⟨h, rfl⟩) (fun _ h => h) (fun _ _ => rfl) rfl (fun _ => rfl) h2, h3⟩
    · exact h.mem.inj
    · exact h.mem.old
  · exact ⟨rfl, rfl, rfl, Nat.le_refl _, fun _ _ _ => rfl, fun _ h => ⟨h, rfl⟩, fun _ h => h, fun _ h => .inl h, fun _ h => .inl h⟩

theorem region_ok (hti : TiOK P ti) (fl : FlOK) (hΓ : ∀ F s, Γ F = some s → SumOK P F s) (hmix : P.follows .mixedOrders = true) {id : Nat} {ops : Array Oper} {draws : Bool} {S : St} {a : Act} (h : Rel ρ G S a w) {k : St → Prop}
    (hk : awpOps ti Γ ops.toList ops.toList S [] fun S' fs => bif draws then (bif drawB ops fs.reverse then k S' else False) else k S') {Q : Exit → Act → World → Prop}
    (hfin : ∀ S' a' w' ρ' G', k S' → Rel ρ' G' S' a' w' → Evo S.used ρ G S.heap w S'.used ρ' G' S'.heap w' → Q .normal a' w') : (Code.region id ops draws).wp P Q a w := by
  obtain ⟨fps, S', hl, run, hk⟩ := awpOps_run ops.toList ops.toList 0 S [] _ hk
  have hat : ∀ x ∈ mkTr 0 ops.toList fps, ops[x.1]? = some x.2.1 := by
    intro x hx
    have := (mkTr_at _ _ _ hl x hx).2
    rwa [Nat.sub_zero, Array.getElem?_toList] at this
  have hfst : (mkTr 0 ops.toList fps).map (·.1) = List.range ops.size := by
    rw [mkTr_fst _ _ _ hl, List.range_eq_range', Array.length_toList]
  cases draws with
  | false =>
    simp only [cond_false] at hk
    refine wp_region ?_
    have := run_wpOps hti fl hΓ (Q := Q) _ S a w ρ G run hat h fun a' w' ρ' G' r e => hfin S' a' w' ρ' G' hk r e
    rwa [hfst] at this
  | true =>
    simp only [cond_true, List.append_nil, List.reverse_reverse] at hk
    cases hd : drawB ops fps with
    | false => rw [hd] at hk; exact hk.elim
    | true =>
      rw [hd] at hk
      simp only [cond_true] at hk
      unfold drawB modeB at hd
      simp only [Bool.and_eq_true] at hd
      obtain ⟨d1, d2⟩ := h.drawn
      refine wp_region_any hmix ?_
      refine any_ok hti fl hΓ hd.1 ops.size _ (mkTr 0 ops.toList fps) S a _ ρ G run hat ?_ (by simp) (fun i hi => ?_) (fun q hq => ?_) (pairsB_spec _ hd.2) ?_ d1 (fun a' w' ρ' G' r e => hfin S' a' w' ρ' G' hk r (d2.trans e))
      · rw [hfst]; exact List.pairwise_lt_range
      · rw [hfst]; simp [hi]
      · exfalso
        by_cases c : q < ops.size
        · simp [c] at hq
        · simp [c] at hq
      · have := congrArg List.length hfst
        simp only [List.length_map, List.length_range] at this
        omega
end
end Go.Proofs.Ytbkhhfekdpkhbaa.Ab

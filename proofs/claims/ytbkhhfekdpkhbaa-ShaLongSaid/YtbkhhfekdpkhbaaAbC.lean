/- What an abstract state says of a machine's frame and memory; no condition. -/
import Derived.Test.YtbkhhfekdpkhbaaAbB
import Derived.WalkKit
namespace Go.Proofs.Ytbkhhfekdpkhbaa.Ab
open Go

/-- Where a row lies: its block, how many cells that has, how many elements its slice has and may have; or nowhere (nil). -/
structure Hd where
  b : Nat
  tot : Nat
  n : Nat
  cap : Nat
  nil : Bool

/-- A value of the machine is what an abstract one says. K: the rows that have a name; G: the blocks that never change any more. -/
inductive Rep (K : Nat → Bool) (ρ : Nat → Hd) (G : Nat → Prop) (w : World) : V → Value → Prop where
  | any (x : Value) : Rep K ρ G w .any x
  | v (x : Value) : Rep K ρ G w (.v x) x
  | b (x : UInt8) : Rep K ρ G w (.b x) (.int .u8 (x.toNat : Int))
  | fl (n : Int) (h : small n) : Rep K ρ G w (.fl n) (.float .f64 (FloatKind.f64.nearest n))
  | cx (x y : Int) (hx : small x) (hy : small y) : Rep K ρ G w (.cx x y) (.complex .f64 (FloatKind.f64.nearest x) (FloatKind.f64.nearest y))
  | ptr (h off : Nat) (hk : K h = true) (hn : (ρ h).nil = false) : Rep K ρ G w (.ptr h off) (.pointer (some ⟨(ρ h).b, off, none⟩))
  | pe (h base n s i sub : Nat) (hk : K h = true) (hn : (ρ h).nil = false) : Rep K ρ G w (.pe h base n s i sub) (.pointer (some ⟨(ρ h).b, base + i * s + sub, none⟩))
  | dp (t : DT) (xs : List t.T) (i sub blk o : Nat) (g : Nat → Nat → Value) (hG : G blk)
      (hc : ∀ q (hq : q < xs.length) j c, (enc t xs[q])[j]? = some c → w.cell? ⟨blk, o + q * t.size + j, none⟩ = some (g q j))
      (hr : ∀ q (hq : q < xs.length) j c, (enc t xs[q])[j]? = some c → Rep K ρ G w c (g q j)) :
      Rep K ρ G w (.dp t xs i sub) (.pointer (some ⟨blk, o + i * t.size + sub, none⟩))
  | own (h base s off len c : Nat) (lim : Option Nat) (a : Addr) (hk : K h = true) (hn : (ρ h).nil = false) (hl : len ≤ c)
      (ha : c ≠ 0 ∨ off = 0 → a = ⟨(ρ h).b, base + off * s, none⟩)
      (hlim : ∀ n, lim = some n → c + off = n) (htot : lim = none → base + (c + off) * s = (ρ h).tot) :
      Rep K ρ G w (.own h base s off len lim) (.slice (some a) len c)
  | ownNil (h base s : Nat) (lim : Option Nat) (hk : K h = true) (hn : (ρ h).nil = true) : Rep K ρ G w (.own h base s 0 0 lim) (.slice none 0 0)
  | ow (h : Nat) (hk : K h = true) (hn : (ρ h).nil = false) : Rep K ρ G w (.ow h) (.slice (some ⟨(ρ h).b, 0, none⟩) (ρ h).n (ρ h).cap)
  | owNil (h : Nat) (hk : K h = true) (hn : (ρ h).nil = true) : Rep K ρ G w (.ow h) (.slice none 0 0)
  | deep (t : DT) (xs : List t.T) (blk o c : Nat) (g : Nat → Nat → Value) (hl : xs.length ≤ c) (hG : G blk)
      (hc : ∀ q (hq : q < xs.length) j c, (enc t xs[q])[j]? = some c → w.cell? ⟨blk, o + q * t.size + j, none⟩ = some (g q j))
      (hr : ∀ q (hq : q < xs.length) j c, (enc t xs[q])[j]? = some c → Rep K ρ G w c (g q j)) :
      Rep K ρ G w (.deep t xs) (.slice (some ⟨blk, o, none⟩) xs.length c)
  | deepE (t : DT) (a : Option Addr) (c : Nat) (ha : a = none → c = 0) : Rep K ρ G w (.deep t []) (.slice a 0 c)
  | agg (l : List V) (cs : List Value) (hl : cs.length = l.length) (h : ∀ j c, l[j]? = some c → Rep K ρ G w c (cs.getD j default)) : Rep K ρ G w (.agg l) (.agg cs.toArray)
  | vec (t : DT) (n : Nat) (xs : List t.T) (cs : List Value) (hl : xs.length = n) (hs : cs.length = n * t.size)
      (h : ∀ q (hq : q < xs.length) j c, (enc t xs[q])[j]? = some c → Rep K ρ G w c (cs.getD (q * t.size + j) default)) : Rep K ρ G w (.vec t n xs) (.agg cs.toArray)
  | tup (l : List V) (cs : List Value) (hl : cs.length = l.length) (h : ∀ j c, l[j]? = some c → Rep K ρ G w c (cs.getD j default)) : Rep K ρ G w (.tup l) (.tuple cs.toArray)
  | fn (f : Fn) (l m : List V) (cs ds : List Value) (hl : cs.length = l.length) (hm : ds.length = m.length) (h : ∀ j c, l[j]? = some c → Rep K ρ G w c (cs.getD j default))
      (h' : ∀ j c, m[j]? = some c → Rep K ρ G w c (ds.getD j default)) : Rep K ρ G w (.fn f l m) (.func f cs.toArray ds.toArray)

/-- Many of them. -/
def Reps (K : Nat → Bool) (ρ : Nat → Hd) (G : Nat → Prop) (w : World) (l : List V) (cs : List Value) : Prop :=
  cs.length = l.length ∧ ∀ j c, l[j]? = some c → Rep K ρ G w c (cs.getD j default)

theorem Rep.mono {K K' : Nat → Bool} {ρ ρ' : Nat → Hd} {G G' : Nat → Prop} {w w' : World} (hK : ∀ h, K h = true → K' h = true ∧ ρ' h = ρ h) (hG : ∀ b, G b → G' b)
    (hw : ∀ b, G b → w'.heap[b]? = w.heap[b]?) {c : V} {x : Value} (r : Rep K ρ G w c x) : Rep K' ρ' G' w' c x := by
  have cell : ∀ blk o u, G blk → w.cell? ⟨blk, o, none⟩ = some u → w'.cell? ⟨blk, o, none⟩ = some u := by
    intro blk o u hb hu
    simp only [World.cell?] at hu ⊢
    rw [hw blk hb]; exact hu
  induction r with
  | any x => exact .any x
  | v x => exact .v x
  | b x => exact .b x
  | fl n h => exact .fl n h
  | cx x y hx hy => exact .cx x y hx hy
  | ptr h off hk hn => rw [← (hK h hk).2]; exact .ptr h off (hK h hk).1 (by rw [(hK h hk).2]; exact hn)
  | pe h base n s i sub hk hn => rw [← (hK h hk).2]; exact .pe h base n s i sub (hK h hk).1 (by rw [(hK h hk).2]; exact hn)
  | dp t xs i sub blk o g hGb hc _ ih => exact .dp t xs i sub blk o g (hG _ hGb) (fun q hq j c h => cell _ _ _ hGb (hc q hq j c h)) ih
  | own h base s off len c lim a hk hn hl ha hlim htot =>
    exact .own h base s off len c lim a (hK h hk).1 (by rw [(hK h hk).2]; exact hn) hl (by rw [(hK h hk).2]; exact ha) hlim (by rw [(hK h hk).2]; exact htot)
  | ownNil h base s lim hk hn => exact .ownNil h base s lim (hK h hk).1 (by rw [(hK h hk).2]; exact hn)
  | ow h hk hn => rw [← (hK h hk).2]; exact .ow h (hK h hk).1 (by rw [(hK h hk).2]; exact hn)
  | owNil h hk hn => exact .owNil h (hK h hk).1 (by rw [(hK h hk).2]; exact hn)
  | deep t xs blk o c g hl hGb hc _ ih => exact .deep t xs blk o c g hl (hG _ hGb) (fun q hq j c h => cell _ _ _ hGb (hc q hq j c h)) ih
  | deepE t a c ha => exact .deepE t a c ha
  | agg l cs hl _ ih => exact .agg l cs hl ih
  | vec t n xs cs hl hs _ ih => exact .vec t n xs cs hl hs ih
  | tup l cs hl _ ih => exact .tup l cs hl ih
  | fn f l m cs ds hl hm _ _ ih ih' => exact .fn f l m cs ds hl hm ih ih'

/-- A range of frozen cells that meets none of a row's. -/
def Clear (n : Nat) (fz : Nat × Nat) : Prop := fz.1 = fz.2 ∨ n ≤ fz.1
theorem Clear.out {n : Nat} {fz : Nat × Nat} (h : Clear n fz) (j : Nat) (hj : j < n) : ¬ (fz.1 ≤ j ∧ j < fz.2) := by
  rcases h with h | h <;> omega

/-- The elements of a list lie in cells. -/
def Elems (K : Nat → Bool) (ρ : Nat → Hd) (G : Nat → Prop) (w : World) (t : DT) (xs : List t.T) (cs : Array Value) : Prop :=
  ∀ q (hq : q < xs.length) j c, (enc t xs[q])[j]? = some c → ∃ u, cs[q * t.size + j]? = some u ∧ Rep K ρ G w c u

/-- A row of memory is what an abstract one says. -/
def RowRep (K : Nat → Bool) (ρ : Nat → Hd) (G : Nat → Prop) (w : World) (h : Nat) : Row → Prop
  | .lit e l => (ρ h).nil = false ∧ (ρ h).tot = l.length ∧ l.all cellOk = true ∧ ∃ cs fz, w.heap[(ρ h).b]? = some (.cells cs e fz) ∧ Clear cs.size fz ∧ Reps K ρ G w l cs.toList
  | .arr e t xs => (ρ h).nil = false ∧ (ρ h).tot = xs.length * t.size ∧ ∃ cs fz, w.heap[(ρ h).b]? = some (.cells cs e fz) ∧ Clear cs.size fz ∧ cs.size = xs.length * t.size ∧ Elems K ρ G w t xs cs
  | .buf e t xs => xs.length = (ρ h).n ∧ (((ρ h).nil = true ∧ xs = []) ∨ ((ρ h).nil = false ∧ (ρ h).tot = (ρ h).cap * t.size ∧ xs.length ≤ (ρ h).cap ∧
      ∃ cs fz, w.heap[(ρ h).b]? = some (.cells cs e fz) ∧ Clear cs.size fz ∧ cs.size = (ρ h).cap * t.size ∧ Elems K ρ G w t xs cs))

/-- What is known of memory. -/
structure HRel (K : Nat → Bool) (ρ : Nat → Hd) (G : Nat → Prop) (heap : Nat → Option Row) (w : World) : Prop where
  row : ∀ h r, heap h = some r → K h = true ∧ RowRep K ρ G w h r ∧ ((ρ h).nil = false → ¬ G (ρ h).b ∧ (ρ h).b < w.heap.size)
  inj : ∀ h h', (heap h).isSome = true → (heap h').isSome = true → (ρ h).nil = false → (ρ h').nil = false → (ρ h).b = (ρ h').b → h = h'
  old : ∀ b, G b → b < w.heap.size

/-- What is known of a frame and memory. -/
structure Rel (ρ : Nat → Hd) (G : Nat → Prop) (S : St) (a : Act) (w : World) : Prop where
  size : a.tmps.size = S.n
  defers : a.defers = []
  env : ∀ t, Rep S.used ρ G w (S.env t) (a.tmps.getD t undef)
  mem : HRel S.used ρ G S.heap w

/-- The blocks that rows lie in. -/
def Lives (ρ : Nat → Hd) (heap : Nat → Option Row) (b : Nat) : Prop := ∃ h, (heap h).isSome = true ∧ (ρ h).nil = false ∧ (ρ h).b = b

/-- How the world goes on: only rows that are known are written; what never changes does not. -/
structure Evo (K : Nat → Bool) (ρ : Nat → Hd) (G : Nat → Prop) (heap : Nat → Option Row) (w : World) (K' : Nat → Bool) (ρ' : Nat → Hd) (G' : Nat → Prop) (heap' : Nat → Option Row) (w' : World) : Prop where
  os : w'.os = w.os
  tape : w'.tape = w.tape
  output : w'.output = w.output
  size : w.heap.size ≤ w'.heap.size
  keep : ∀ b, b < w.heap.size → ¬ Lives ρ heap b → w'.heap[b]? = w.heap[b]?
  names : ∀ h, K h = true → K' h = true ∧ ρ' h = ρ h
  mono : ∀ b, G b → G' b
  newG : ∀ b, G' b → G b ∨ Lives ρ heap b ∨ w.heap.size ≤ b
  lives : ∀ b, Lives ρ' heap' b → Lives ρ heap b ∨ w.heap.size ≤ b

theorem Evo.refl (K : Nat → Bool) (ρ : Nat → Hd) (G : Nat → Prop) (heap : Nat → Option Row) (w : World) : Evo K ρ G heap w K ρ G heap w :=
  ⟨rfl, rfl, rfl, Nat.le_refl _, fun _ _ _ => rfl, fun _ h => ⟨h, rfl⟩, fun _ h => h, fun _ h => .inl h, fun _ h => .inl h⟩

theorem Evo.trans {K K' K'' : Nat → Bool} {ρ ρ' ρ'' : Nat → Hd} {G G' G'' : Nat → Prop} {heap heap' heap'' : Nat → Option Row} {w w' w'' : World}
    (h : Evo K ρ G heap w K' ρ' G' heap' w') (k : Evo K' ρ' G' heap' w' K'' ρ'' G'' heap'' w'') : Evo K ρ G heap w K'' ρ'' G'' heap'' w'' where
  os := k.os.trans h.os
  tape := k.tape.trans h.tape
  output := k.output.trans h.output
  size := Nat.le_trans h.size k.size
  keep b hb hn := by
    rw [k.keep b (Nat.lt_of_lt_of_le hb h.size) (fun hl => (h.lives b hl).elim hn (by omega)), h.keep b hb hn]
  names t ht := ⟨(k.names t (h.names t ht).1).1, (k.names t (h.names t ht).1).2.trans (h.names t ht).2⟩
  mono b hb := k.mono b (h.mono b hb)
  newG b hb := by
    rcases k.newG b hb with hb | hb | hb
    · exact h.newG b hb
    · exact .inr (h.lives b hb)
    · exact .inr (.inr (Nat.le_trans h.size hb))
  lives b hb := by
    rcases k.lives b hb with hb | hb
    · exact h.lives b hb
    · exact .inr (Nat.le_trans h.size hb)

/-- What stays is what it was. -/
theorem Evo.rep {K K' : Nat → Bool} {ρ ρ' : Nat → Hd} {G G' : Nat → Prop} {heap heap' : Nat → Option Row} {w w' : World}
    (e : Evo K ρ G heap w K' ρ' G' heap' w') (m : HRel K ρ G heap w) {c : V} {x : Value} (r : Rep K ρ G w c x) : Rep K' ρ' G' w' c x :=
  r.mono e.names e.mono fun b hb => e.keep b (m.old b hb) fun ⟨h, hs, hn, hb'⟩ => by
    obtain ⟨r, hr⟩ := Option.isSome_iff_exists.1 hs
    exact ((m.row h r hr).2.2 hn).1 (hb' ▸ hb)

theorem Rep.oneCell {K : Nat → Bool} {ρ : Nat → Hd} {G : Nat → Prop} {w : World} {c : V} {x : Value} (r : Rep K ρ G w c x) (h : cellOk c = true) : x.oneCell' = true := by
  cases r <;> first | rfl | (simp [cellOk] at h; done) | skip
  cases x <;> first | rfl | (simp [cellOk] at h)

theorem Rep.cells_one {K : Nat → Bool} {ρ : Nat → Hd} {G : Nat → Prop} {w : World} {c : V} {x : Value} (r : Rep K ρ G w c x) (h : cellOk c = true) : x.cells = #[x] := by
  have := r.oneCell h
  cases x <;> simp_all [Value.oneCell', Value.cells]

end Go.Proofs.Ytbkhhfekdpkhbaa.Ab

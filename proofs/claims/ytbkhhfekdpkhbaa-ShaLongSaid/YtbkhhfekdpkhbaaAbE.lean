/- The table of types, and what loads and stores do; no condition. -/
import Derived.Test.YtbkhhfekdpkhbaaAbD
namespace Go.Proofs.Ytbkhhfekdpkhbaa.Ab
open Go

def hashZ : List Value := List.replicate 32 (.int .u8 0)
def zeroOf : DT → List Value
  | .u8 => [.int .u8 0]
  | .int k => [.int k 0]
  | .comp => [.int .i64 0, .int .i64 0, .string ByteArray.empty]
  | .ua => [.int .i64 0, .int .i64 0]
  | .bytes => [.slice none 0 0]
  | .en => .slice none 0 0 :: (hashZ ++ .int .i64 0 :: .slice none 0 0 :: (hashZ ++ hashZ))
  | .sta => .int .i64 0 :: .int .i64 0 :: .string ByteArray.empty :: .slice none 0 0 :: .int .i64 0 :: hashZ
  | .stp => [.int .i64 0, .int .i64 0, .int .i64 0, .slice none 0 0]

/-- Are two cells of the machine the same? The first one tells their kind. -/
def eqVal : V → Value → Value → Option Bool
  | .v (.int k _), .int k' a, .int k'' b => if k = k' ∧ k = k'' then some (a == b) else none
  | .v (.bool _), .bool a, .bool b => some (a == b)
  | .v (.string _), .string a, .string b => some (a == b)
  | _, _, _ => none
def eqVals : List V → List Value → List Value → Option Bool
  | [], [], [] => some true
  | z :: zs, x :: l, y :: m => match eqVal z x y, eqVals zs l m with
    | some b, some c => some (b && c)
    | _, _ => none
  | _, _, _ => none
/-- Values of a type are compared cell by cell. -/
def EqOK (P : Program) (T : TypeId) (zero : List V) : Prop := ∀ (l m : List Value) (b : Bool) (w : World), eqVals zero l m = some b →
  (Op.equal T (.agg l.toArray) (.agg m.toArray)).run P w = .ok b w ∧ P.eqGuardType P.depth T = false

/-- A type is as the table says. -/
structure TOK (P : Program) (ti : TypeId → TyI) (T : TypeId) : Prop where
  info : ∃ i z, P.info? T = some i ∧ i.size = (ti T).size ∧ i.bytes = (ti T).bytes ∧ i.zero = some z ∧ z.cells.toList.map V.v = (ti T).zero ∧ z.cells.size = (ti T).size ∧ (z.cells.toList.all (·.oneCell')) = true
  und : match (ti T).k with
    | .int k => P.underlying T = some (.int k) ∧ (ti T).size = 1
    | .bool => P.underlying T = some .bool ∧ (ti T).size = 1
    | .str => P.underlying T = some .string ∧ (ti T).size = 1
    | .fl => P.underlying T = some (.float .f64) ∧ (ti T).size = 1
    | .sl e => P.underlying T = some (.slice e) ∧ (ti T).size = 1
    | .ar n e => P.underlying T = some (.array n e) ∧ known ti e = true ∧ (ti T).size = n * (ti e).size ∧ (ti T).zero = zeros ti e n
    | .st fs => ∃ F : Array Field, P.underlying T = some (.struct F) ∧ F.toList.map (fun f => (f.offset, f.type)) = fs ∧ (fs.all fun f => known ti f.2) = true
    | .sc => (∃ d, P.underlying T = some d ∧ (match d with | .struct _ | .array _ _ => true | _ => false) = false) ∧ (ti T).size = 1
  dt : ∀ t, (ti T).dt = some t → t.size = (ti T).size ∧ (ti T).zero = (zeroOf t).map V.v
  eq : (ti T).eq = true → EqOK P T (ti T).zero

def TiOK (P : Program) (ti : TypeId → TyI) : Prop := ∀ T, known ti T = true → TOK P ti T

theorem add_at (b o j : Nat) : (⟨b, o, none⟩ : Addr).add j = ⟨b, o + j, none⟩ := by
  unfold Addr.add; split <;> simp_all

theorem bif_some {α : Type} {c : Bool} {x : Option α} {y : α} (h : (bif c then x else none) = some y) : c = true ∧ x = some y := by
  cases c with
  | true => exact ⟨rfl, h⟩
  | false => cases h

section
variable {P : Program} {ti : TypeId → TyI} {K : Nat → Bool} {ρ : Nat → Hd} {G : Nat → Prop} {heap : Nat → Option Row} {w : World}

theorem TOK.sizeOf {T : TypeId} (h : TOK P ti T) (w : World) : (sizeOf T).run P w = .ok (ti T).size w := by
  obtain ⟨i, z, h1, h2, _⟩ := h.info
  simp [Go.sizeOf, typeInfo, h1, h2]
theorem TOK.zero {T : TypeId} (h : TOK P ti T) : ∃ z : Value, (∀ w, (zeroValue T).run P w = .ok z w) ∧ z.cells.toList.map V.v = (ti T).zero ∧ z.cells.size = (ti T).size ∧ (z.cells.toList.all (·.oneCell')) = true := by
  obtain ⟨i, z, h1, _, _, h4, h5, h6, h7⟩ := h.info
  exact ⟨z, fun w => by simp [zeroValue, typeInfo, h1, h4], h5, h6, h7⟩

/-- Is a value of the type many cells? -/
def aggT (ti : TypeId → TyI) (T : TypeId) : Bool := match (ti T).k with
  | .ar _ _ => true
  | .st _ => true
  | _ => false
theorem TOK.isAgg {T : TypeId} (h : TOK P ti T) (w : World) : (isAgg T).run P w = .ok (aggT ti T) w := by
  have hu := h.und
  unfold aggT Go.isAgg
  split at hu <;> rename_i hk
  · simp [run_underlying hu.1, hk]
  · simp [run_underlying hu.1, hk]
  · simp [run_underlying hu.1, hk]
  · simp [run_underlying hu.1, hk]
  · simp [run_underlying hu.1, hk]
  · simp [run_underlying hu.1, hk]
  · obtain ⟨F, h1, _⟩ := hu; simp [run_underlying h1, hk]
  · obtain ⟨⟨d, h1, h2⟩, _⟩ := hu
    cases d <;> simp_all [run_underlying h1]
theorem TOK.one {T : TypeId} (h : TOK P ti T) (ha : aggT ti T = false) : (ti T).size = 1 := by
  have hu := h.und
  unfold aggT at ha
  split at hu <;> rename_i hk <;> simp [hk] at ha
  · exact hu.2
  · exact hu.2
  · exact hu.2
  · exact hu.2
  · exact hu.2
  · exact hu.2

theorem asAgg_eq (T : TypeId) (c : List V) : Ab.asAgg ti T c = if aggT ti T = true then .agg c else one c := by
  unfold Ab.asAgg aggT
  cases (ti T).k <;> simp

/-- The cells of a type's value as that value. -/
def valOf (ti : TypeId → TyI) (T : TypeId) (us : List Value) : Value := if aggT ti T = true then .agg us.toArray else us.getD 0 default

theorem Rep.asAgg {T : TypeId} (h : TOK P ti T) {c : List V} {us : List Value} (hl : c.length = (ti T).size) (r : Reps K ρ G w c us) : Rep K ρ G w (Ab.asAgg ti T c) (valOf ti T us) := by
  rw [asAgg_eq]
  unfold valOf
  by_cases ha : aggT ti T = true
  · rw [if_pos ha, if_pos ha]; exact .agg c us r.1 r.2
  · rw [if_neg ha, if_neg ha]
    have h1 := h.one (by simpa using ha)
    match c, hl with
    | [x], _ => exact r.2 0 x rfl
    | [], hl => rw [h1] at hl; cases hl
    | _ :: _ :: _, hl => rw [h1] at hl; simp at hl

theorem run_loadAt {T : TypeId} (h : TOK P ti T) (b o : Nat) (us : List Value) (hl : us.length = (ti T).size) (hc : ∀ j u, us[j]? = some u → w.cell? ⟨b, o + j, none⟩ = some u) :
    (Instr.loadAt T (.pointer (some ⟨b, o, none⟩))).run P w = .ok (valOf ti T us) w := by
  have hl' := run_loadCells_list (P := P) w ⟨b, o, none⟩ us (fun j u hu => by rw [add_at]; exact hc j u hu)
  rw [hl] at hl'
  unfold Instr.loadAt loadVar valOf
  by_cases ha : aggT ti T = true
  · simp [Instr.sureAddr, h.isAgg, h.sizeOf, ha, hl']
  · have h1 := h.one (by simpa using ha)
    match us, hl with
    | [x], _ =>
      have := hc 0 x rfl
      simp only [Nat.add_zero] at this
      simp [Instr.sureAddr, h.isAgg, ha, this]
    | [], hl => rw [h1] at hl; cases hl
    | _ :: _ :: _, hl => rw [h1] at hl; simp at hl

/-! One of some cells. -/
theorem allB_get : ∀ (l : List V) (xs : List UInt8), allB l = some xs → xs.length = l.length ∧ ∀ (i : Nat) (c : V), l[i]? = some c → c = V.b (xs.getD i 0) := by
  intro l
  induction l with
  | nil => intro xs h; simp only [allB] at h; cases h; exact ⟨rfl, fun i c h => by simp at h⟩
  | cons a l ih =>
    intro xs h
    cases a <;> (try (simp only [allB] at h; cases h; done))
    case b x =>
      simp only [allB] at h
      cases h1 : allB l with
      | none => simp only [h1] at h; cases h
      | some ys =>
        simp only [h1] at h; cases h
        obtain ⟨h2, h3⟩ := ih ys h1
        refine ⟨by simp [h2], fun i c hc => ?_⟩
        cases i with
        | zero => simp at hc; simp [hc]
        | succ i => simpa using h3 i c (by simpa using hc)

theorem allI_get (k : IntKind) : ∀ (l : List V) (ns : List Int), allI k l = some ns → ns.length = l.length ∧ ∀ (i : Nat) (c : V), l[i]? = some c → Sub c (.v (.int k (ns.getD i 0))) := by
  intro l
  induction l with
  | nil => intro ns h; simp only [allI] at h; cases h; exact ⟨rfl, fun i c h => by simp at h⟩
  | cons a l ih =>
    intro ns h
    have step : ∀ (n : Int), Sub a (.v (.int k n)) → (match allI k l with | some xs => some (n :: xs) | none => none) = some ns →
        ns.length = (a :: l).length ∧ ∀ (i : Nat) (c : V), (a :: l)[i]? = some c → Sub c (.v (.int k (ns.getD i 0))) := by
      intro n hs h
      cases h1 : allI k l with
      | none => simp only [h1] at h; cases h
      | some ys =>
        simp only [h1] at h; cases h
        obtain ⟨h2, h3⟩ := ih ys h1
        refine ⟨by simp [h2], fun i c hc => ?_⟩
        cases i with
        | zero => simp at hc; subst hc; simpa using hs
        | succ i => simpa using h3 i c (by simpa using hc)
    cases a <;> (try (simp only [allI] at h; cases h; done))
    case v x =>
      cases x <;> (try (simp only [allI] at h; cases h; done))
      case int k' n =>
        simp only [allI] at h
        split at h
        · rename_i ek; subst ek; exact step n (Sub.refl _) h
        · cases h
    case b x =>
      simp only [allI] at h
      split at h
      · rename_i ek; subst ek
        exact step _ (fun K ρ G w u r => by cases r; exact .v _) h
      · cases h

theorem allD_get : ∀ (l : List V) (xs : List (List UInt8)), allD l = some xs → xs.length = l.length ∧ ∀ (i : Nat) (c : V), l[i]? = some c → Sub c (.deep .u8 (xs.getD i [])) := by
  intro l
  induction l with
  | nil => intro xs h; simp only [allD] at h; cases h; exact ⟨rfl, fun i c h => by simp at h⟩
  | cons a l ih =>
    intro xs h
    simp only [allD] at h
    cases h1 : decD .u8 a with
    | none => simp only [h1] at h; cases h
    | some x =>
      cases h2 : allD l with
      | none => simp only [h1, h2] at h; cases h
      | some ys =>
        simp only [h1, h2] at h; cases h
        obtain ⟨h3, h4⟩ := ih ys h2
        refine ⟨congrArg Nat.succ h3, fun i c hc => ?_⟩
        cases i with
        | zero => simp at hc; subst hc; exact decD_sub h1
        | succ i => exact h4 i c (by simpa using hc)

theorem sel_sub (l : List V) (i : Nat) (c : V) (h : l[i]? = some c) : Sub c (sel l i) := by
  unfold sel
  cases h1 : allB l with
  | some xs => simp only; rw [(allB_get l xs h1).2 i c h]; exact Sub.refl _
  | none =>
    simp only
    cases h2 : allI (kindOf l) l with
    | some ns => exact (allI_get _ l ns h2).2 i c h
    | none =>
      simp only
      cases h3 : allD l with
      | some xs => exact (allD_get l xs h3).2 i c h
      | none => simp only [List.getD_eq_getElem?_getD, h, Option.getD_some]; exact Sub.refl _

theorem Reps.get {l : List V} {cs : List Value} (r : Reps K ρ G w l cs) {j : Nat} {c : V} (h : l[j]? = some c) : ∃ u, cs[j]? = some u ∧ Rep K ρ G w c u := by
  have hj : j < l.length := (List.getElem?_eq_some_iff.1 h).1
  have hj' : j < cs.length := by rw [r.1]; exact hj
  refine ⟨cs[j], by simp [hj'], ?_⟩
  have := r.2 j c h
  rwa [List.getD_eq_getElem?_getD, List.getElem?_eq_getElem hj', Option.getD_some] at this
theorem Reps.mk {l : List V} {cs : List Value} (hl : cs.length = l.length) (h : ∀ (j : Nat) (c : V), l[j]? = some c → ∃ u, cs[j]? = some u ∧ Rep K ρ G w c u) : Reps K ρ G w l cs :=
  ⟨hl, fun j c hc => by obtain ⟨u, h1, h2⟩ := h j c hc; rw [List.getD_eq_getElem?_getD, h1, Option.getD_some]; exact h2⟩
theorem Reps.drop_take {l : List V} {cs : List Value} (r : Reps K ρ G w l cs) (o n : Nat) : Reps K ρ G w ((l.drop o).take n) ((cs.drop o).take n) := by
  refine Reps.mk (by simp [r.1]) fun j c hc => ?_
  rw [List.getElem?_take] at hc ⊢
  split at hc
  · rename_i hj
    rw [if_pos hj, List.getElem?_drop]
    rw [List.getElem?_drop] at hc
    exact r.get hc
  · cases hc

/-- Cells of memory, and what they say. -/
def CellsAt (K : Nat → Bool) (ρ : Nat → Hd) (G : Nat → Prop) (w : World) (b o : Nat) (l : List V) : Prop := ∃ us : List Value, Reps K ρ G w l us ∧ ∀ j u, us[j]? = some u → w.cell? ⟨b, o + j, none⟩ = some u

theorem CellsAt.mk {b o : Nat} {l : List V} (h : ∀ (j : Nat) (c : V), l[j]? = some c → ∃ u, w.cell? ⟨b, o + j, none⟩ = some u ∧ Rep K ρ G w c u) : CellsAt K ρ G w b o l := by
  refine ⟨(List.range l.length).map fun j => (w.cell? ⟨b, o + j, none⟩).getD default, Reps.mk (by simp) fun j c hc => ?_, fun j u hu => ?_⟩
  · obtain ⟨u, h1, h2⟩ := h j c hc
    have hj : j < l.length := (List.getElem?_eq_some_iff.1 hc).1
    exact ⟨u, by simp [List.getElem?_range hj, h1], h2⟩
  · rw [List.getElem?_map] at hu
    by_cases hj : j < l.length
    · rw [List.getElem?_range hj] at hu
      obtain ⟨v, h1, _⟩ := h j l[j] (by simp [hj])
      simp [h1] at hu
      rw [h1, hu]
    · rw [List.getElem?_eq_none (by simp; omega)] at hu
      cases hu

theorem cell_heap {w : World} {b : Nat} {cs : Array Value} {e : TypeId} {fz : Nat × Nat} (h : w.heap[b]? = some (.cells cs e fz)) (o : Nat) : w.cell? ⟨b, o, none⟩ = cs[o]? := by
  simp [World.cell?, h]

/-- What a pointer's cells are. -/
theorem loadC_at (hti : TiOK P ti) (S : St) (m : HRel K ρ G S.heap w) {T : TypeId} (hk : known ti T = true) {c : V} {x : Value} (r : Rep K ρ G w c x) {p : Prop} {l : List V} {rd : List Nat}
    (h : loadC ti S T c = some (p, l, rd)) (hp : p) : ∃ b o, x = .pointer (some ⟨b, o, none⟩) ∧ l.length = (ti T).size ∧ CellsAt K ρ G w b o l := by
  have hT := hti T hk
  cases r <;> (try (simp only [loadC] at h; cases h; done))
  case ptr hh off hK hn =>
    refine ⟨_, _, rfl, ?_⟩
    simp only [loadC] at h
    split at h
    · rename_i e l' hr
      obtain ⟨hle, h⟩ := bif_some h
      cases h
      have hle' := Nat.le_of_ble_eq_true hle
      obtain ⟨_, _, _, cs, fz, hb, _, hcs⟩ := (m.row hh _ hr).2.1
      refine ⟨by simp; omega, CellsAt.mk fun j c hc => ?_⟩
      obtain ⟨u, h1, h2⟩ := (hcs.drop_take off (ti T).size).get hc
      refine ⟨u, ?_, h2⟩
      rw [cell_heap hb]
      rw [List.getElem?_take] at h1
      split at h1
      · rw [List.getElem?_drop] at h1; simpa using h1
      · cases h1
    · rename_i e t xs hr
      obtain ⟨_, _, cs, fz, hb, _, hsz, hel⟩ := (m.row hh _ hr).2.1
      split at h
      · rename_i n e' hk'
        obtain ⟨hc, h⟩ := bif_some h
        cases h
        simp only [Bool.and_eq_true] at hc
        have h0 := Nat.eq_of_beq_eq_true hc.1
        have h1 := Nat.eq_of_beq_eq_true hc.2
        subst h0
        have hflat : ∀ (k j : Nat) (c : V), ((List.range' k (n - k)).flatMap fun i => enc t (xs.getD i t.dflt))[j]? = some c → ∃ i j', k ≤ i ∧ i < n ∧ j' < t.size ∧ i * t.size + j' = k * t.size + j ∧ (enc t (xs.getD i t.dflt))[j']? = some c := by
          intro k
          generalize hd : n - k = d
          induction d generalizing k with
          | zero => intro j c hc; simp at hc
          | succ d ih =>
            intro j c hc
            rw [List.range'_succ, List.flatMap_cons, List.getElem?_append, enc_length] at hc
            split at hc
            · rename_i hj; exact ⟨k, j, Nat.le_refl _, by omega, hj, rfl, hc⟩
            · rename_i hj
              obtain ⟨i, j', a1, a2, a3, a4, a5⟩ := ih (k + 1) (by omega) _ c hc
              refine ⟨i, j', by omega, a2, a3, ?_, a5⟩
              rw [a4, Nat.add_mul]; omega
        have hlen : ∀ (l : List Nat), (l.flatMap fun i => enc t (xs.getD i t.dflt)).length = l.length * t.size := by
          intro l
          induction l with
          | nil => simp
          | cons a l ih => simp only [List.flatMap_cons, List.length_append, enc_length, List.length_cons, ih, Nat.add_mul]; omega
        refine ⟨by rw [hlen]; simpa using h1, CellsAt.mk fun j c hc => ?_⟩
        rw [List.range_eq_range'] at hc
        obtain ⟨i, j', _, hi, hj', he, hcc⟩ := hflat 0 j c (by simpa using hc)
        have hi' : i < xs.length := by rw [hp]; exact hi
        rw [List.getD_eq_getElem?_getD, List.getElem?_eq_getElem hi', Option.getD_some] at hcc
        obtain ⟨u, h2, h3⟩ := hel i hi' j' c hcc
        refine ⟨u, ?_, h3⟩
        rw [cell_heap hb, ← h2]
        congr 1
        omega
      · obtain ⟨hc, h⟩ := bif_some h
        cases h
        simp only [Bool.and_eq_true] at hc
        have h0 := Nat.eq_of_beq_eq_true hc.1
        have h1 := Nat.eq_of_beq_eq_true hc.2
        refine ⟨by rw [enc_length, h0, h1], CellsAt.mk fun j c hc => ?_⟩
        rw [List.getD_eq_getElem?_getD, List.getElem?_eq_getElem hp, Option.getD_some] at hc
        obtain ⟨u, h2, h3⟩ := hel off hp j c hc
        refine ⟨u, ?_, h3⟩
        rw [cell_heap hb, ← h2, h0]
        congr 1
        omega
    · cases h
  case pe hh base n s i sub hK hn =>
    refine ⟨_, _, rfl, ?_⟩
    simp only [loadC] at h
    split at h
    · rename_i e l' hr
      obtain ⟨hc, h⟩ := bif_some h
      cases h
      simp only [Bool.and_eq_true] at hc
      have h0 := Nat.le_of_ble_eq_true hc.1
      have h1 := Nat.le_of_ble_eq_true hc.2
      obtain ⟨_, _, _, cs, fz, hb, _, hcs⟩ := (m.row hh _ hr).2.1
      refine ⟨by simp, CellsAt.mk fun q c hc => ?_⟩
      have hq : q < (ti T).size := by
        have := (List.getElem?_eq_some_iff.1 hc).1; simpa using this
      simp only [List.getElem?_map, List.getElem?_range hq, Option.map_some, Option.some.injEq] at hc
      subst hc
      have hin : base + i * s + sub + q < l'.length := by
        have : i * s + s ≤ n * s := by rw [← Nat.succ_mul]; exact Nat.mul_le_mul_right _ hp
        omega
      have hcell : l'[base + i * s + sub + q]? = some (l'.getD (base + i * s + sub + q) .any) := by
        rw [List.getD_eq_getElem?_getD, List.getElem?_eq_getElem hin]; rfl
      obtain ⟨u, h2, h3⟩ := hcs.get hcell
      refine ⟨u, by rw [cell_heap hb]; simpa using h2, ?_⟩
      exact sel_sub _ i _ (by simp only [List.getElem?_map, List.getElem?_range hp, Option.map_some]) _ _ _ _ _ h3
    · rename_i e t xs hr
      obtain ⟨hc, h⟩ := bif_some h
      cases h
      simp only [Bool.and_eq_true] at hc
      have h0 := Nat.eq_of_beq_eq_true hc.1.1
      have h1 := Nat.eq_of_beq_eq_true hc.1.2
      have h2 := Nat.le_of_ble_eq_true hc.2
      subst h0; subst h1
      obtain ⟨_, _, cs, fz, hb, _, hsz, hel⟩ := (m.row hh _ hr).2.1
      refine ⟨by simp [enc_length]; omega, CellsAt.mk fun j c hc => ?_⟩
      rw [List.getElem?_take] at hc
      split at hc
      · rw [List.getElem?_drop, List.getD_eq_getElem?_getD, List.getElem?_eq_getElem hp, Option.getD_some] at hc
        obtain ⟨u, h3, h4⟩ := hel i hp _ c hc
        exact ⟨u, by rw [cell_heap hb, ← h3]; congr 1; omega, h4⟩
      · cases hc
    · rename_i e t xs hr
      obtain ⟨hc, h⟩ := bif_some h
      cases h
      simp only [Bool.and_eq_true] at hc
      have h0 := Nat.eq_of_beq_eq_true hc.1.1
      have h1 := Nat.eq_of_beq_eq_true hc.1.2
      have h2 := Nat.le_of_ble_eq_true hc.2
      subst h0; subst h1
      rcases (m.row hh _ hr).2.1.2 with ⟨hnil, _⟩ | ⟨_, _, _, cs, fz, hb, _, hsz, hel⟩
      · rw [hn] at hnil; cases hnil
      refine ⟨by simp [enc_length]; omega, CellsAt.mk fun j c hc => ?_⟩
      rw [List.getElem?_take] at hc
      split at hc
      · rw [List.getElem?_drop, List.getD_eq_getElem?_getD, List.getElem?_eq_getElem hp, Option.getD_some] at hc
        obtain ⟨u, h3, h4⟩ := hel i hp _ c hc
        exact ⟨u, by rw [cell_heap hb, ← h3]; congr 1; omega, h4⟩
      · cases hc
    · cases h
  case dp t xs i sub blk o g hG hc hr =>
    refine ⟨_, _, rfl, ?_⟩
    simp only [loadC] at h
    obtain ⟨hle, h⟩ := bif_some h
    cases h
    have hle' := Nat.le_of_ble_eq_true hle
    refine ⟨by simp [enc_length]; omega, CellsAt.mk fun j c hj => ?_⟩
    rw [List.getElem?_take] at hj
    split at hj
    · rw [List.getElem?_drop, List.getD_eq_getElem?_getD, List.getElem?_eq_getElem hp, Option.getD_some] at hj
      exact ⟨_, by have := hc i hp _ c hj; rw [← this]; congr 2; omega, hr i hp _ c hj⟩
    · cases hj
end
end Go.Proofs.Ytbkhhfekdpkhbaa.Ab

/- What an operation's effect depends on; no condition. -/
import Derived.Test.YtbkhhfekdpkhbaaAbT
namespace Go.Proofs.Ytbkhhfekdpkhbaa.Ab
open Go

section
variable {ti : TypeId → TyI} {Γ : FuncId → Option Sum} {heap heap' : Nat → Option Row}

theorem immOne_rd {h : Nat} {c : V} (hc : (∃ b s o n l, c = .own h b s o n l) ∨ c = .ow h) {p : Prop} {c' : V} {a : List Nat} (e : immOne ti heap c = some (p, c', a)) : a = [h] := by
  rcases hc with ⟨b, s, o, n, l, rfl⟩ | rfl
  · simp only [immOne] at e
    split at e
    · replace e := (bif_some e).2
      cases e; rfl
    · replace e := (bif_some e).2
      split at e
      · rename_i n'
        cases hb : (Nat.beq o 0 && Nat.beq n n') <;> simp only [hb, cond_true, cond_false] at e <;> (cases e; rfl)
      · cases e; rfl
    · split at e
      · cases e
      · replace e := (bif_some e).2
        split at e
        · revert e
          generalize (Nat.beq o 0 && Nat.beq n _) = bb
          cases bb <;> (intro e; simp only [cond_true, cond_false] at e; cases e; rfl)
        · cases e
    · cases e
  · simp only [immOne] at e
    split at e
    · cases e; rfl
    · cases e

theorem immOne_frame {c : V} {p : Prop} {c' : V} {a : List Nat} (e : immOne ti heap c = some (p, c', a)) (hag : ∀ h ∈ a, heap' h = heap h) : immOne ti heap' c = some (p, c', a) := by
  cases c
  case own h b s o n l =>
    have ha := immOne_rd (.inl ⟨b, s, o, n, l, rfl⟩) e
    subst ha
    simp only [immOne] at e ⊢
    rw [hag h (by simp)]; exact e
  case ow h =>
    have ha := immOne_rd (.inr rfl) e
    subst ha
    simp only [immOne] at e ⊢
    rw [hag h (by simp)]; exact e
  all_goals exact e

theorem immAll_frame : ∀ (l : List V) {p : Prop} {l' : List V} {a : List Nat}, immAll ti heap l = some (p, l', a) → (∀ h ∈ a, heap' h = heap h) → immAll ti heap' l = some (p, l', a) := by
  intro l
  induction l with
  | nil => intro p l' a e _; exact e
  | cons c r ih =>
    intro p l' a e hag
    simp only [immAll] at e ⊢
    split at e
    · rename_i p1 x a1 q xs b h1 h2
      cases e
      rw [immOne_frame h1 fun h hm => hag h (List.mem_append_left _ hm), ih h2 fun h hm => hag h (List.mem_append_right _ hm)]
    · cases e

theorem immOne_own {h b s o n : Nat} {l : Option Nat} (hag : heap' h = heap h) : immOne ti heap' (.own h b s o n l) = immOne ti heap (.own h b s o n l) := by
  simp only [immOne]
  rw [hag]
theorem immIn_frame {h b s o n : Nat} {l : Option Nat} {p : Prop} {c' : V} {a : List Nat} (e : immIn ti heap h b s o n l = some (p, c', a)) (hag : ∀ h ∈ a, heap' h = heap h) : immIn ti heap' h b s o n l = some (p, c', a) ∧ h ∈ a := by
  unfold immIn at e ⊢
  split at e
  · rename_i el ll hr
    split at e
    · cases e
    rename_i t ht
    replace e := bif_some e; obtain ⟨hs, e⟩ := e
    split at e
    · rename_i p1 l' a1 him
      split at e
      · rename_i q1 xs hd
        have ha : a = h :: a1 := by
          revert e
          generalize (Nat.beq o 0 && Nat.beq n _) = bb
          cases bb <;> (intro e; simp only [cond_true, cond_false] at e; cases e; rfl)
        subst ha
        rw [hag h (by simp), hr]
        simp only [ht, hs, cond_true]
        rw [immAll_frame _ him fun q hq => hag q (List.mem_cons_of_mem _ hq)]
        simp only [hd]
        exact ⟨e, by simp⟩
      · cases e
    · cases e
  · cases e

theorem imm_frame {c : V} {p : Prop} {c' : V} {a : List Nat} (e : imm ti heap c = some (p, c', a)) (hag : ∀ h ∈ a, heap' h = heap h) : imm ti heap' c = some (p, c', a) := by
  cases c
  case agg l =>
    simp only [imm] at e ⊢
    split at e
    · rename_i p1 l1 a1 h1
      cases e
      rw [immAll_frame l h1 hag]
    · cases e
  case own h b s o n l =>
    simp only [imm] at e ⊢
    split at e
    · rename_i r1 h1
      cases e
      rw [immOne_frame h1 hag]
    · rename_i h1
      obtain ⟨h2, h3⟩ := immIn_frame e hag
      rw [immOne_own (hag h h3), h1]
      exact h2
  all_goals (simp only [imm] at e ⊢; exact immOne_frame e hag)

theorem listOf_own {t : DT} {h b s o n : Nat} {l : Option Nat} {p : Prop} {xs : List t.T} {a a' : List Nat} (e : listOf ti t heap (.own h b s o n l) = some (p, xs, a, a')) : a = [h] := by
  simp only [listOf] at e
  split at e
  · rename_i l'' _
    replace e := (bif_some e).2
    split at e
    · split at e
      · revert e
        cases (Nat.beq o 0 && Nat.beq n (room l b s l''.length)) <;> (intro e; simp only [cond_true, cond_false] at e; cases e; rfl)
      · cases e
    · cases e
  · split at e
    · rename_i h1
      split at e
      · cases e; exact immOne_rd (.inl ⟨_, _, _, _, _, rfl⟩) h1
      · cases e
    · cases e

theorem listOf_frame {t : DT} {c : V} {p : Prop} {xs : List t.T} {a a' : List Nat} (e : listOf ti t heap c = some (p, xs, a, a')) (hag : ∀ h ∈ a ++ a', heap' h = heap h) : listOf ti t heap' c = some (p, xs, a, a') := by
  cases c
  case v x =>
    cases x <;> exact e
  case own h b s o n l =>
    have ha := listOf_own e
    subst ha
    have hh : heap' h = heap h := hag h (by simp)
    simp only [listOf] at e ⊢
    rw [hh]
    split at e
    · rename_i el l'' hr
      obtain ⟨hc, e1⟩ := bif_some e
      rw [hc]
      simp only [cond_true]
      split at e1
      · rename_i p1 l1 a1 h1
        have haa : ∀ h ∈ a1, heap' h = heap h := by
          split at e1
          · revert e1
            cases (Nat.beq o 0 && Nat.beq n (room l b s l''.length)) <;> (intro e1; simp only [cond_true, cond_false] at e1; cases e1; exact fun h hm => hag h (by simp [hm]))
          · cases e1
        rw [immAll_frame _ h1 haa]
        exact e1
      · cases e1
    · split at e
      · rename_i p1 x1 a1 h1
        rw [immOne_frame h1 fun q hm => by rw [immOne_rd (.inl ⟨_, _, _, _, _, rfl⟩) h1] at hm; simp at hm; subst hm; exact hh]
        exact e
      · cases e
  all_goals
    simp only [listOf] at e ⊢
    split at e
    · rename_i p1 x1 a1 h1
      have haa : ∀ h ∈ a1, heap' h = heap h := by
        split at e
        · cases e; exact fun h hm => hag h (by simpa using hm)
        · cases e
      rw [immOne_frame h1 haa]
      exact e
    · cases e

theorem loadC_frame {S S' : St} {T : TypeId} {c : V} {p : Prop} {l : List V} {rd : List Nat} (e : loadC ti S T c = some (p, l, rd)) (hag : ∀ h ∈ rd, S'.heap h = S.heap h) : loadC ti S' T c = some (p, l, rd) := by
  cases c
  case ptr h o =>
    have hr : rd = [h] := by
      simp only [loadC] at e
      split at e
      · replace e := (bif_some e).2; cases e; rfl
      · split at e
        · replace e := (bif_some e).2; cases e; rfl
        · replace e := (bif_some e).2; cases e; rfl
      · cases e
    subst hr
    simp only [loadC] at e ⊢
    rw [hag h (by simp)]; exact e
  case pe h b n s i q =>
    have hr : rd = [h] := by
      simp only [loadC] at e
      split at e
      · replace e := (bif_some e).2; cases e; rfl
      · replace e := (bif_some e).2; cases e; rfl
      · replace e := (bif_some e).2; cases e; rfl
      · cases e
    subst hr
    simp only [loadC] at e ⊢
    rw [hag h (by simp)]; exact e
  all_goals exact e

theorem storeC_frame {S S' : St} {T : TypeId} {c : List V} {x : V} {p : Prop} {h : Nat} {r : Row} {k : List Nat} (e : storeC ti S T c x = some (p, h, r, k)) (hag : ∀ q ∈ k ++ [h], S'.heap q = S.heap q) : storeC ti S' T c x = some (p, h, r, k) := by
  have imm' : ∀ {p1 : Prop} {c1 : List V} {a : List Nat}, immAll ti S.heap c = some (p1, c1, a) → (∀ q ∈ a, q ∈ k) → immAll ti S'.heap c = some (p1, c1, a) := fun h1 hk => immAll_frame c h1 fun q hq => hag q (List.mem_append_left _ (hk q hq))
  cases x
  case ptr h' o =>
    have hh : h' = h := by
      simp only [storeC] at e
      split at e
      · replace e := (bif_some e).2; cases e; rfl
      · split at e
        · replace e := (bif_some e).2
          split at e
          · replace e := (bif_some e).2; cases e; rfl
          · cases e
        · replace e := (bif_some e).2
          split at e
          · cases e; rfl
          · cases e
      · cases e
    subst hh
    simp only [storeC] at e ⊢
    rw [hag h' (by simp)]; exact e
  case pe h' b n s i q =>
    have hh : h' = h := by
      simp only [storeC] at e
      split at e
      · replace e := (bif_some e).2; cases e; rfl
      · replace e := (bif_some e).2
        split at e
        · split at e
          · cases e; rfl
          · cases e
        · cases e
      · replace e := (bif_some e).2
        split at e
        · split at e
          · cases e; rfl
          · cases e
        · cases e
      · cases e
    subst hh
    simp only [storeC] at e ⊢
    rw [hag h' (by simp)]
    split at e
    · exact e
    · obtain ⟨hc, e1⟩ := bif_some e
      rw [hc]
      simp only [cond_true]
      split at e1
      · rename_i p1 c1 a h1
        have hk : a = k := by
          split at e1
          · cases e1; rfl
          · cases e1
        rw [imm' h1 fun q hq => hk ▸ hq]
        exact e1
      · cases e1
    · obtain ⟨hc, e1⟩ := bif_some e
      rw [hc]
      simp only [cond_true]
      split at e1
      · rename_i p1 c1 a h1
        have hk : a = k := by
          split at e1
          · cases e1; rfl
          · cases e1
        rw [imm' h1 fun q hq => hk ▸ hq]
        exact e1
      · cases e1
    · cases e
  all_goals (simp only [storeC] at e; cases e)

theorem loadC_ptr {S : St} {T : TypeId} {h o : Nat} {p : Prop} {l : List V} {rd : List Nat} (e : loadC ti S T (.ptr h o) = some (p, l, rd)) : rd = [h] := by
  simp only [loadC] at e
  split at e
  · replace e := (bif_some e).2; cases e; rfl
  · split at e
    · replace e := (bif_some e).2; cases e; rfl
    · replace e := (bif_some e).2; cases e; rfl
  · cases e
theorem storeC_ptr {S : St} {T : TypeId} {c : List V} {h' o : Nat} {p : Prop} {h : Nat} {r : Row} {k : List Nat} (e : storeC ti S T c (.ptr h' o) = some (p, h, r, k)) : h' = h := by
  simp only [storeC] at e
  split at e
  · replace e := (bif_some e).2; cases e; rfl
  · split at e
    · replace e := (bif_some e).2
      split at e
      · replace e := (bif_some e).2; cases e; rfl
      · cases e
    · replace e := (bif_some e).2
      split at e
      · cases e; rfl
      · cases e
  · cases e
theorem vecL_same {S S' : St} {T : TypeId} {a : V} (h : ∀ q o, a = .ptr q o → S'.heap q = S.heap q) : vecL ti S' T a = vecL ti S T a := by
  cases a <;> first | rfl | (simp only [vecL]; rw [h _ _ rfl])
theorem vecL_ptr {S : St} {T : TypeId} {q o : Nat} {e : Eff} (h : vecL ti S T (.ptr q o) = some e) : e.rd = [q] := by
  simp only [vecL] at h
  split at h
  · split at h
    · replace h := (bif_some h).2; cases h; rfl
    · cases h
  · cases h
theorem vecS_same {S S' : St} {T : TypeId} {x a : V} (h : ∀ q o, a = .ptr q o → S'.heap q = S.heap q) : vecS ti S' T x a = vecS ti S T x a := by
  cases x <;> cases a <;> first | rfl | (simp only [vecS]; rw [h _ _ rfl])
theorem vecS_ptr {S : St} {T : TypeId} {x : V} {q o : Nat} {e : Eff} (h : vecS ti S T x (.ptr q o) = some e) : q ∈ e.put.map (·.1) := by
  unfold vecS at h
  split at h
  · rename_i heq
    cases heq
    split at h
    · split at h
      · replace h := (bif_some h).2; cases h; simp
      · cases h
    · cases h
  · cases h

/-- What an effect depends on. -/
def Eff.on (e : Eff) (h : Nat) : Prop := h ∈ e.rd ∨ h ∈ e.put.map (·.1)

theorem convV_frame {S S' : St} {d : Nat} {src dst : TypeId} {x : V} {e : Eff} (h : convV ti S d src dst x = some e) (hag : ∀ q, e.on q → S'.heap q = S.heap q) : convV ti S' d src dst x = some e := by
  unfold convV at h ⊢
  split at h <;> try exact h
  · obtain ⟨hc, h1⟩ := bif_some h
    rw [hc]
    simp only [cond_true]
    split at h1
    · rename_i p xs a hl
      cases h1
      rw [listOf_frame hl fun q hq => hag q (.inl (by simpa using hq))]
    · cases h1
  · rename_i q b s o n _
    split at h
    · rename_i el l hr
      obtain ⟨hc, h1⟩ := bif_some h
      cases h1
      rw [hag q (.inr (by simp)), hr]
      simp only [hc, cond_true]
    · cases h

theorem sliceV_frame {S S' : St} {T : TypeId} {x : V} {lo hi : Option V} {e : Eff} (h : sliceV ti S T x lo hi = some e) (hag : ∀ q, e.on q → S'.heap q = S.heap q) : sliceV ti S' T x lo hi = some e := by
  unfold sliceV at h ⊢
  split at h <;> try exact h
  obtain ⟨hc, h1⟩ := bif_some h
  rw [hc]
  simp only [cond_true]
  unfold sliceS at h1 ⊢
  split at h1 <;> try exact h1
  rename_i q
  split at h1
  · rename_i el t xs hr
    split at h1
    · rename_i e1 e2
      obtain ⟨hc2, h2⟩ := bif_some h1
      cases h2
      rw [hag q (.inl (by simp)), hr]
      simp only [e1, e2, hc2, cond_true]
    · cases h1
  · cases h1

theorem indexA_frame {S S' : St} {T : TypeId} {x : V} {i : Int} {e : Eff} (h : indexA ti S T x i = some e) (hag : ∀ q, e.on q → S'.heap q = S.heap q) : indexA ti S' T x i = some e := by
  unfold indexA at h ⊢
  split at h <;> try exact h
  rename_i q _
  split at h
  · rename_i el t xs hr
    obtain ⟨hc, h2⟩ := bif_some h
    cases h2
    rw [hag q (.inl (by simp)), hr]
    simp only [hc, cond_true]
  · cases h

theorem lenV_frame {S S' : St} {T : TypeId} {x : V} {e : Eff} (h : lenV ti S T x = some e) (hag : ∀ q, e.on q → S'.heap q = S.heap q) : lenV ti S' T x = some e := by
  unfold lenV at h ⊢
  split at h <;> try exact h
  split at h <;> try exact h
  rename_i q
  split at h
  · rename_i el t xs hr
    cases h
    rw [hag q (.inl (by simp)), hr]
  · cases h

theorem headOf_frame {t : DT} {el : TypeId} {S S' : St} {x : V} {p : Prop} {xs : List t.T} {a b : List Nat} (h : headOf ti t el S x = some (p, xs, a, b)) (hag : ∀ q ∈ a ++ b, S'.heap q = S.heap q) : headOf ti t el S' x = some (p, xs, a, b) := by
  unfold headOf at h ⊢
  split at h
  · exact h
  · rename_i q
    obtain ⟨hc, h1⟩ := bif_some h
    have ha : a = [q] := by
      simp only [listOf] at h1
      split at h1
      · rename_i h2
        split at h1
        · cases h1; exact immOne_rd (.inr rfl) h2
        · cases h1
      · cases h1
    have hr : rowE S'.heap q el t.size = rowE S.heap q el t.size := by unfold rowE; rw [hag q (by simp [ha])]
    rw [hr, hc]
    simp only [cond_true]
    exact listOf_frame h1 hag
  · rename_i q bs s o n
    obtain ⟨hc, h1⟩ := bif_some h
    have ha := listOf_own h1
    have hr : rowE S'.heap q el t.size = rowE S.heap q el t.size := by unfold rowE; rw [hag q (by simp [ha])]
    rw [hr, hc]
    simp only [cond_true]
    exact listOf_frame h1 hag
  · cases h

theorem appendV_frame {S S' : St} {d : Nat} {T : TypeId} {x y : V} {e : Eff} (h : appendV ti S d T x y = some e) (hag : ∀ q, e.on q → S'.heap q = S.heap q) : appendV ti S' d T x y = some e := by
  unfold appendV at h ⊢
  split at h <;> try exact h
  split at h <;> try exact h
  obtain ⟨hc, h1⟩ := bif_some h
  rw [hc]
  simp only [cond_true]
  split at h1
  · rename_i p xs a b q ys a' b' hx hy
    obtain ⟨hd, h2⟩ := bif_some h1
    cases h2
    have hp : ∀ z, z ∈ a ++ (b ++ b') → S'.heap z = S.heap z := fun z hz => hag z (.inr (by
      simp only [List.map_map]
      exact List.mem_map.2 ⟨z, hz, rfl⟩))
    rw [headOf_frame hx fun z hz => hp z (by simp only [List.mem_append] at hz ⊢; rcases hz with h | h <;> simp [h]),
      listOf_frame hy fun z hz => by
        rcases List.mem_append.1 hz with h | h
        · exact hag z (.inl h)
        · exact hp z (by simp [h])]
    simp only [hd, cond_true]
  · cases h1

theorem copyV_frame {S S' : St} {T : TypeId} {x y : V} {e : Eff} (h : copyV ti S T x y = some e) (hag : ∀ q, e.on q → S'.heap q = S.heap q) : copyV ti S' T x y = some e := by
  unfold copyV at h ⊢
  split at h <;> try exact h
  split at h <;> try exact h
  obtain ⟨hc, h1⟩ := bif_some h
  rw [hc]
  simp only [cond_true]
  split at h1
  · rename_i t _ _ p ys a hy
    have key : e.rd = a ∧ copyInto t S' ys a p x = some e := by
      unfold copyInto at h1 ⊢
      split at h1
      · rename_i q
        split at h1
        · rename_i el t' xs hr
          split at h1
          · rename_i xs' hd
            cases h1
            refine ⟨rfl, ?_⟩
            rw [hag q (.inr (by simp)), hr]
            simp only [hd]
          · cases h1
        · cases h1
      · rename_i q bs s o n _
        obtain ⟨hb, h2⟩ := bif_some h1
        rw [hb]
        simp only [cond_true]
        split at h2
        · rename_i el t' xs hr
          split at h2
          · rename_i xs' hd
            cases h2
            refine ⟨rfl, ?_⟩
            rw [hag q (.inr (by simp)), hr]
            simp only [hd]
          · cases h2
        · rename_i el t' xs hr
          split at h2
          · rename_i xs' hd
            cases h2
            refine ⟨rfl, ?_⟩
            rw [hag q (.inr (by simp)), hr]
            simp only [hd]
          · cases h2
        · cases h2
      · cases h1
    rw [listOf_frame hy fun z hz => hag z (.inl (by rw [key.1]; simpa using hz))]
    exact key.2
  · cases h1

theorem argsOf_frame : ∀ (bs : List Bool) (xs : List V) {p : Prop} {l : List V} {a : List Nat}, argsOf ti heap bs xs = some (p, l, a) → (∀ q ∈ a, heap' q = heap q) → argsOf ti heap' bs xs = some (p, l, a) := by
  intro bs
  induction bs with
  | nil => intro xs p l a h _; cases xs <;> exact h
  | cons b bs ih =>
    intro xs p l a h hag
    cases xs with
    | nil => cases b <;> exact h
    | cons x xs =>
      cases b with
      | true =>
        simp only [argsOf] at h ⊢
        split at h
        · rename_i h1
          cases h
          rw [ih xs h1 hag]
        · cases h
      | false =>
        simp only [argsOf] at h ⊢
        split at h
        · rename_i h1 h2
          cases h
          rw [imm_frame h1 fun q hq => hag q (List.mem_append_left _ hq), ih xs h2 fun q hq => hag q (List.mem_append_right _ hq)]
        · cases h

theorem callV_frame {S S' : St} {d : Nat} {F : FuncId} {args : List V} {e : Eff} (h : callV ti Γ S d F args = some e) (hag : ∀ q, e.on q → S'.heap q = S.heap q) : callV ti Γ S' d F args = some e := by
  unfold callV at h ⊢
  split at h
  · cases h
  · rename_i s hs
    split at h
    · cases h
    · rename_i p l a hargs
      obtain ⟨hc, h1⟩ := bif_some h
      split at h1
      · cases h1
      · rename_i e0 he0
        obtain ⟨hok, h2⟩ := bif_some h1
        have key : (∀ q ∈ a, S'.heap q = S.heap q) ∧ ∀ q ∈ namesOf s.asis args, S'.heap q = S.heap q := by
          cases hb : (s.flat && flatV e0.val && e0.put.isEmpty && e0.new.isEmpty && (namesOf s.asis args).isEmpty) with
          | true =>
            rw [hb] at h2
            simp only [cond_true] at h2
            cases h2
            simp only [Bool.and_eq_true, List.isEmpty_iff] at hb
            exact ⟨fun q hq => hag q (.inl hq), fun q hq => by rw [hb.2] at hq; cases hq⟩
          | false =>
            rw [hb] at h2
            simp only [cond_false] at h2
            cases h2
            refine ⟨fun q hq => hag q (.inr ?_), fun q hq => hag q (.inl hq)⟩
            simp only [List.map_append, List.map_map, List.mem_append]
            exact .inl (List.mem_map.2 ⟨q, hq, rfl⟩)
        have hin : inH (namesOf s.asis args) S'.heap = inH (namesOf s.asis args) S.heap := by
          funext n
          unfold inH
          cases Nat.ble 1000000 n with
          | false => rfl
          | true =>
            simp only [cond_true]
            split
            · rename_i q hq; exact key.2 q (List.mem_of_getElem? hq)
            · rfl
        rw [argsOf_frame _ _ hargs key.1]
        simp only
        have hall : ((namesOf s.asis args).all fun h => !memb a h && freeRow (S'.heap h)) = ((namesOf s.asis args).all fun h => !memb a h && freeRow (S.heap h)) := by
          rw [Bool.eq_iff_iff, List.all_eq_true, List.all_eq_true]
          constructor
          · intro hx q hq
            have := hx q hq
            rwa [key.2 q hq] at this
          · intro hx q hq
            have := hx q hq
            rwa [key.2 q hq]
        rw [hall, hc, hin]
        simp only [cond_true]
        rw [he0]
        simp only [hok, cond_true]
        exact h2
end
end Go.Proofs.Ytbkhhfekdpkhbaa.Ab

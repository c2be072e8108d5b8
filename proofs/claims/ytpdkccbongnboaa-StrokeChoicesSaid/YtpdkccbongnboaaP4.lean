/-
  The costs of the letters of a board, in plain terms.
-/
import Derived.Test.YtpdkccbongnboaaP3
set_option linter.unusedSimpArgs false
set_option linter.unusedVariables false
namespace Go.Proofs.Ytpdkccbongnboaa
open Go Go.PS

/-- The least cost of a letter's templates. -/
def bestO (p : List Pt) (T : List Tpl) (k : Int) : Option Int :=
  T.foldl (fun o t => if t.key = k then some (match o with | none => cst p t.p | some v => min v (cst p t.p)) else o) none
theorem look_set {m : List Ch} {k c k' : Int} : ∀ {i : Nat} {v : Int}, lookC m k = some (i, v) → (lookC (m.set i ⟨k, c⟩) k').map (·.2) = if k = k' then some c else (lookC m k').map (·.2) := by
  induction m with
  | nil => intro i v h; cases h
  | cons a m ih =>
    intro i v h
    simp only [lookC] at h
    by_cases ha : a.k = k
    · rw [if_pos ha] at h
      simp only [Option.some.injEq, Prod.mk.injEq] at h
      obtain ⟨rfl, rfl⟩ := h
      simp only [List.set_cons_zero, lookC]
      by_cases hk : k = k'
      · rw [if_pos hk, if_pos hk]; rfl
      · rw [if_neg hk, if_neg hk, if_neg (by rw [ha]; exact hk)]
    · rw [if_neg ha] at h
      cases hl : lookC m k with
      | none => rw [hl] at h; cases h
      | some q =>
        rw [hl] at h
        simp only [Option.map_some, Option.some.injEq, Prod.mk.injEq] at h
        obtain ⟨rfl, rfl⟩ := h
        have h2 := ih (i := q.1) (v := q.2) hl
        simp only [List.set_cons_succ, lookC]
        by_cases h3 : a.k = k'
        · rw [if_pos h3, if_pos h3, if_neg (fun e => ha (by rw [h3, e]))]
        · rw [if_neg h3, if_neg h3, Option.map_map, Option.map_map]
          have e1 : ((fun x : Nat × Int => x.2) ∘ fun p : Nat × Int => (p.1 + 1, p.2)) = fun x => x.2 := rfl
          rw [e1]
          exact h2
theorem look_app {m : List Ch} {k c k' : Int} : lookC m k = none → (lookC (m ++ [⟨k, c⟩]) k').map (·.2) = if k = k' then some c else (lookC m k').map (·.2) := by
  induction m with
  | nil =>
    intro _
    simp only [List.nil_append, lookC]
    by_cases hk : k = k'
    · rw [if_pos hk, if_pos hk]; rfl
    · rw [if_neg hk, if_neg hk]; rfl
  | cons a m ih =>
    intro h
    simp only [lookC] at h
    by_cases ha : a.k = k
    · rw [if_pos ha] at h; cases h
    · rw [if_neg ha, Option.map_eq_none_iff] at h
      have h2 := ih h
      simp only [List.cons_append, lookC]
      by_cases h3 : a.k = k'
      · rw [if_pos h3, if_pos h3, if_neg (fun e => ha (by rw [h3, e]))]
      · rw [if_neg h3, if_neg h3, Option.map_map, Option.map_map]
        have e1 : ((fun x : Nat × Int => x.2) ∘ fun p : Nat × Int => (p.1 + 1, p.2)) = fun x => x.2 := rfl
        rw [e1]
        exact h2
theorem look_put (m : List Ch) (k c k' : Int) : (lookC (putC m k c) k').map (·.2) = if k = k' then some c else (lookC m k').map (·.2) := by
  unfold putC
  cases h : lookC m k with
  | none => exact look_app h
  | some q => exact look_set (i := q.1) (v := q.2) h
theorem best_fold (p : List Pt) (k : Int) : ∀ (T : List Tpl) (m : List Ch), (lookC (T.foldl (stepC p) m) k).map (·.2) = T.foldl (fun o t => if t.key = k then some (match o with | none => cst p t.p | some v => min v (cst p t.p)) else o) ((lookC m k).map (·.2))
  | [], m => rfl
  | t :: T, m => by
    rw [List.foldl_cons, List.foldl_cons, best_fold p k T]
    congr 1
    unfold stepC
    rw [look_put]
    by_cases hk : t.key = k
    · rw [if_pos hk, if_pos hk]
      subst hk
      cases h : lookC m t.key with
      | none => rfl
      | some q => rfl
    · rw [if_neg hk, if_neg hk]
theorem best_look (p : List Pt) (T : List Tpl) (k : Int) : (lookC (costsF p T) k).map (·.2) = bestO p T k := best_fold p k T []
theorem best_snoc (p : List Pt) (T : List Tpl) (t : Tpl) (k : Int) : bestO p (T ++ [t]) k = if t.key = k then some (match bestO p T k with | none => cst p t.p | some v => min v (cst p t.p)) else bestO p T k := by
  simp [bestO, List.foldl_append]
theorem dist_nonneg (a b : List Pt) : 0 ≤ dist a b := W_nonneg (gp_nonneg a b) _ _
theorem cst_nonneg (p q : List Pt) : 0 ≤ cst p q := by
  have := dist_nonneg p q
  unfold cst
  omega
theorem cst_le (p q : List Pt) : cst p q ≤ 1000 := by unfold cst; omega
theorem cst_self (p : List Pt) : cst p p = 0 := by unfold cst; rw [dist_self]; decide
theorem best_bd (p : List Pt) (T : List Tpl) (k v : Int) (h : bestO p T k = some v) : 0 ≤ v ∧ v ≤ 1000 := by
  have key : ∀ (T : List Tpl) (o : Option Int), (∀ v, o = some v → 0 ≤ v ∧ v ≤ 1000) → ∀ v, T.foldl (fun o t => if t.key = k then some (match o with | none => cst p t.p | some v => min v (cst p t.p)) else o) o = some v → 0 ≤ v ∧ v ≤ 1000 := by
    intro T
    induction T with
    | nil => exact fun o ho v hv => ho v hv
    | cons t T ih =>
      intro o ho
      rw [List.foldl_cons]
      refine ih _ fun v hv => ?_
      split at hv
      · have h1 := cst_nonneg p t.p
        have h2 := cst_le p t.p
        cases o with
        | none => simp only [Option.some.injEq] at hv; omega
        | some u => have := ho u rfl; simp only [Option.some.injEq] at hv; omega
      · exact ho v hv
  exact key T none (fun v hv => by cases hv) v h
theorem costAt_best (p : List Pt) (T : List Tpl) (k : Int) : costAt (costsF p T) k = (bestO p T k).getD 0 := by rw [← best_look]; rfl
theorem mem_best (p : List Pt) (T : List Tpl) (k : Int) : k ∈ (costsF p T).map (·.k) ↔ bestO p T k ≠ none := by
  rw [← best_look]
  have := look_none (m := costsF p T) (k := k)
  constructor
  · intro h e
    rw [Option.map_eq_none_iff] at e
    exact this.1 e h
  · intro h
    by_cases hk : k ∈ (costsF p T).map (·.k)
    · exact hk
    · exact absurd (by rw [this.2 hk]; rfl) h
theorem slot_mem {m : List Ch} {c : Ch} : c ∈ slotF m ↔ c.k ∈ m.map (·.k) ∧ c.c = costAt m c.k := by
  unfold slotF
  rw [List.mem_map]
  constructor
  · rintro ⟨k, hk, rfl⟩
    exact ⟨(sortK_perm _).mem_iff.1 hk, rfl⟩
  · rintro ⟨h1, h2⟩
    exact ⟨c.k, (sortK_perm _).mem_iff.2 h1, by cases c; simp only at h2; rw [h2]⟩
/-- The choices of a match, by the least costs. -/
theorem slot_best {p : List Pt} {T : List Tpl} {c : Ch} : c ∈ slotF (costsF p T) ↔ bestO p T c.k = some c.c := by
  rw [slot_mem, mem_best, costAt_best]
  cases bestO p T c.k with
  | none => simp
  | some v => simp only [ne_eq, reduceCtorEq, not_false_eq_true, Option.getD_some, true_and, Option.some.injEq]; exact eq_comm
theorem free_more (T : List Tpl) (t : Tpl) : (⟨t.key, 0⟩ : Ch) ∈ slotF (costsF t.p (T ++ [t])) := by
  rw [slot_best]
  show bestO t.p (T ++ [t]) t.key = some 0
  rw [best_snoc, if_pos rfl, cst_self]
  cases h : bestO t.p T t.key with
  | none => rfl
  | some v =>
    have := best_bd t.p T t.key v h
    simp only [Option.some.injEq]; omega
theorem after_more {p : List Pt} {T : List Tpl} {t : Tpl} {b c : Ch} (hb : b ∈ slotF (costsF p T)) (hc : c ∈ slotF (costsF p (T ++ [t]))) (hk : c.k = b.k) : c.c = b.c ∨ c.k = t.key ∧ c.c < b.c := by
  rw [slot_best] at hb hc
  rw [hk, best_snoc, hb] at hc
  split at hc
  · rename_i h
    simp only [Option.some.injEq] at hc
    rw [hk, h]
    omega
  · simp only [Option.some.injEq] at hc; exact .inl hc.symm
theorem after_has {p : List Pt} {T : List Tpl} {t : Tpl} {b : Ch} (hb : b ∈ slotF (costsF p T)) : b.k ∈ (slotF (costsF p (T ++ [t]))).map (·.k) := by
  rw [slot_best] at hb
  have : bestO p (T ++ [t]) b.k ≠ none := by
    rw [best_snoc, hb]
    split <;> simp
  obtain ⟨v, hv⟩ := Option.ne_none_iff_exists'.1 this
  exact List.mem_map.2 ⟨⟨b.k, v⟩, slot_best.2 hv, rfl⟩
theorem points_valid (l : List BP) (n : Nat) (m : Int) (hn : 2 ≤ n ∧ n ≤ 12) (hm : 0 ≤ m ∧ m ≤ 10) : validB (pointsF l n m) = true := by
  have h1 := points_len l n m hn.1
  have h2 := points_ok0 l n m hm
  simp only [validB, Bool.and_eq_true, decide_eq_true_eq, List.all_eq_true]
  refine ⟨⟨h1.1, by omega⟩, fun q hq => ?_⟩
  obtain ⟨a, b, c, d⟩ := h2 q hq
  exact inB_in (by omega) (by omega) (by omega) (by omega)
theorem TB.snoc {k : Int} {T : List Tpl} (h : TB k T) {t : Tpl} (ht : (97 ≤ t.key ∧ t.key < 97 + k) ∧ okL0 t.p ∧ 2 ≤ t.p.length ∧ t.p.length ≤ 6) : TB k (T ++ [t]) := fun u hu => by
  rcases List.mem_append.1 hu with hu | hu
  · exact h u hu
  · simp only [List.mem_singleton] at hu; subst hu; exact ht
theorem tb_valid {k : Int} {t : Tpl} (ht : (97 ≤ t.key ∧ t.key < 97 + k) ∧ okL0 t.p ∧ 2 ≤ t.p.length ∧ t.p.length ≤ 6) : validB t.p = true := by
  simp only [validB, Bool.and_eq_true, decide_eq_true_eq, List.all_eq_true]
  refine ⟨⟨ht.2.2.1, by omega⟩, fun q hq => ?_⟩
  obtain ⟨a, b, c, d⟩ := ht.2.1 q hq
  exact inB_in (by omega) (by omega) (by omega) (by omega)
end Go.Proofs.Ytpdkccbongnboaa

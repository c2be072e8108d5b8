/-
  A part of the walks of this seat: each theorem says what a function of the program gives. No condition beyond its own premises.
-/
import Derived.Test.YtojgjdcciojpeaaGreatD17
set_option linter.unusedSimpArgs false
set_option linter.unusedVariables false
namespace Go.Proofs.YtojgjdcciojpeaaGreat
open Go Go.PS

theorem gap_comm (p q : Pt) : gap p q = gap q p := by unfold gap; omega
theorem gap_self (p : Pt) : gap p p = 0 := by unfold gap; omega
theorem gap_nonneg (p q : Pt) : 0 ≤ gap p q := by unfold gap; omega
theorem gp_nonneg (a b : List Pt) (i j : Nat) : 0 ≤ gp a b i j := gap_nonneg _ _

/-- Two tables of gaps that are one another's mirror. -/
theorem W_flip {g h : Nat → Nat → Int} (hg : ∀ i j, g i j = h j i) : ∀ (n i j : Nat), i + j = n → W g i j = W h j i := by
  intro n
  induction n using Nat.strongRecOn with
  | _ n ih =>
  intro i j hn
  match i, j with
  | 0, 0 => rw [W, W, hg]
  | 0, j + 1 => rw [W, W, ih (0 + j) (by omega) 0 j rfl, hg]
  | i + 1, 0 => rw [W, W, ih (i + 0) (by omega) i 0 rfl, hg]
  | i + 1, j + 1 =>
    rw [W, W, ih (i + j) (by omega) i j rfl, ih (i + (j + 1)) (by omega) i (j + 1) rfl, ih (i + 1 + j) (by omega) (i + 1) j rfl, hg]
    omega
theorem dist_comm (a b : List Pt) : dist a b = dist b a := W_flip (fun i j => gap_comm _ _) _ _ _ rfl

theorem W_first {g : Nat → Nat → Int} (hg : ∀ i j, 0 ≤ g i j) : ∀ (n i j : Nat), i + j = n → g 0 0 ≤ W g i j := by
  intro n
  induction n using Nat.strongRecOn with
  | _ n ih =>
  intro i j hn
  match i, j with
  | 0, 0 => rw [W]; exact Int.le_refl _
  | 0, j + 1 =>
    rw [W]
    have := ih (0 + j) (by omega) 0 j rfl
    have := hg 0 (j + 1)
    omega
  | i + 1, 0 =>
    rw [W]
    have := ih (i + 0) (by omega) i 0 rfl
    have := hg (i + 1) 0
    omega
  | i + 1, j + 1 =>
    rw [W]
    have := ih (i + j) (by omega) i j rfl
    have := ih (i + (j + 1)) (by omega) i (j + 1) rfl
    have := ih (i + 1 + j) (by omega) (i + 1) j rfl
    have := hg (i + 1) (j + 1)
    omega
theorem W_ends {g : Nat → Nat → Int} (hg : ∀ i j, 0 ≤ g i j) : ∀ (i j : Nat), i + j ≠ 0 → g 0 0 + g i j ≤ W g i j
  | 0, 0, h => absurd rfl h
  | 0, j + 1, _ => by rw [W]; have := W_first hg _ 0 j rfl; omega
  | i + 1, 0, _ => by rw [W]; have := W_first hg _ i 0 rfl; omega
  | i + 1, j + 1, _ => by
    rw [W]
    have := W_first hg _ i j rfl
    have := W_first hg _ i (j + 1) rfl
    have := W_first hg _ (i + 1) j rfl
    omega
theorem W_nonneg {g : Nat → Nat → Int} (hg : ∀ i j, 0 ≤ g i j) (i j : Nat) : 0 ≤ W g i j := by
  have := W_first hg _ i j rfl
  have := hg 0 0
  omega
theorem W_diag {g : Nat → Nat → Int} (hg : ∀ i j, 0 ≤ g i j) (h0 : ∀ i, g i i = 0) : ∀ i, W g i i = 0
  | 0 => by rw [W, h0]
  | i + 1 => by
    have h1 := W_diag hg h0 i
    have h2 := W_nonneg hg (i + 1) (i + 1)
    have h4 : W g (i + 1) (i + 1) = min (W g i i) (min (W g i (i + 1)) (W g (i + 1) i)) + g (i + 1) (i + 1) := by rw [W]
    have h3 : W g (i + 1) (i + 1) ≤ W g i i + g (i + 1) (i + 1) := by omega
    rw [h1, h0] at h3
    omega
theorem dist_self (a : List Pt) : dist a a = 0 := W_diag (gp_nonneg a a) (fun i => gap_self _) _
theorem dist_ends (a b : List Pt) (ha : 2 ≤ a.length) : gap (a.getD 0 default) (b.getD 0 default) + gap (a.getD (a.length - 1) default) (b.getD (b.length - 1) default) ≤ dist a b :=
  W_ends (gp_nonneg a b) _ _ (by omega)

/-! Points. -/
end Go.Proofs.YtojgjdcciojpeaaGreat
set_option linter.unusedSimpArgs false
set_option linter.unusedVariables false
namespace Go.Proofs.YtojgjdcciojpeaaGreat
open Go Go.PS

/-- A board's templates. -/
def TB (k : Int) (T : List Tpl) : Prop := ∀ t ∈ T, (97 ≤ t.key ∧ t.key < 97 + k) ∧ okL0 t.p ∧ 2 ≤ t.p.length ∧ t.p.length ≤ 6
theorem TB.ok {k : Int} {T : List Tpl} (h : TB k T) (hk : k ≤ 26) : TOk T := fun t ht => by
  obtain ⟨h1, h2, h3, h4⟩ := h t ht
  exact ⟨by omega, by omega, h2, by omega, by omega⟩
theorem few : ∀ (n : Nat) (a : Int) (l : List Int), l.Nodup → (∀ x ∈ l, a ≤ x ∧ x < a + n) → l.length ≤ n
  | 0, a, l, _, h => by
    cases l with
    | nil => exact Nat.le_refl _
    | cons x l => have := h x (by simp); omega
  | n + 1, a, l, hd, h => by
    by_cases hm : (a + n) ∈ l
    · have h1 := few n a (l.erase (a + n)) (hd.erase _) fun x hx => by
        have h2 := h x (List.mem_of_mem_erase hx)
        have h3 : x ≠ a + n := fun e => by rw [hd.mem_erase_iff] at hx; exact hx.1 e
        omega
      rw [List.length_erase_of_mem hm] at h1
      omega
    · have h1 := few n a l hd fun x hx => by
        have h2 := h x hx
        have h3 : x ≠ a + n := fun e => hm (e ▸ hx)
        omega
      omega
theorem costs_nodup (p : List Pt) (T : List Tpl) : ((costsF p T).map (·.k)).Nodup := (costs_keys p (fun _ => True) T [] ⟨by simp, by simp⟩ (fun _ _ => trivial)).1
theorem costs_few (p : List Pt) {k : Nat} {T : List Tpl} (h : TB k T) : (costsF p T).length ≤ k := by
  obtain ⟨h1, h2⟩ := costs_keys p (fun x => 97 ≤ x ∧ x < 97 + (k : Int)) T [] ⟨by simp, by simp⟩ (fun t ht => (h t ht).1)
  have := few k 97 _ h1 h2
  simpa [costsF] using this
theorem put_len (m : List Ch) (k c : Int) : (putC m k c).length ≤ m.length + 1 := by
  unfold putC; split
  · simp
  · simp
theorem costs_le (p : List Pt) : ∀ (T : List Tpl) (m : List Ch), (T.foldl (stepC p) m).length ≤ m.length + T.length
  | [], m => by simp
  | t :: T, m => by
    have h1 := costs_le p T (stepC p m t)
    have h2 : (stepC p m t).length ≤ m.length + 1 := put_len _ _ _
    simp only [List.foldl_cons, List.length_cons]
    omega
theorem costs_len (p : List Pt) (T : List Tpl) : (costsF p T).length ≤ T.length := by
  have := costs_le p T []
  simpa [costsF] using this
end Go.Proofs.YtojgjdcciojpeaaGreat
set_option linter.unusedSimpArgs false
set_option linter.unusedVariables false
namespace Go.Proofs.YtojgjdcciojpeaaGreat
open Go Go.PS

/-- The least cost of a letter's templates. -/
def bestO (p : List Pt) (T : List Tpl) (k : Int) : Option Int :=
  T.foldl (fun o t => if t.key = k then some (match o with | none => cst p t.p | some v => min v (cst p t.p)) else o) none
theorem look_set {m : List Ch} {k c k' : Int} : ∀ {i : Nat} {v : Int}, lookC m k = some (i, v) → (lookC (m.set i ⟨k, c⟩) k').map (·.2) = if k = k' then some c else (lookC m k').map (·.2) := by
  induction m with
  | nil => intro i v h; cases h
  | cons a m ih =>
    intro i v h
    simp only [lookC] at h
    by_cases ha : a.k = k
    · rw [if_pos ha] at h
      simp only [Option.some.injEq, Prod.mk.injEq] at h
      obtain ⟨rfl, rfl⟩ := h
      simp only [List.set_cons_zero, lookC]
      by_cases hk : k = k'
      · rw [if_pos hk, if_pos hk]; rfl
      · rw [if_neg hk, if_neg hk, if_neg (by rw [ha]; exact hk)]
    · rw [if_neg ha] at h
      cases hl : lookC m k with
      | none => rw [hl] at h; cases h
      | some q =>
        rw [hl] at h
        simp only [Option.map_some, Option.some.injEq, Prod.mk.injEq] at h
        obtain ⟨rfl, rfl⟩ := h
        have h2 := ih (i := q.1) (v := q.2) hl
        simp only [List.set_cons_succ, lookC]
        by_cases h3 : a.k = k'
        · rw [if_pos h3, if_pos h3, if_neg (fun e => ha (by rw [h3, e]))]
        · rw [if_neg h3, if_neg h3, Option.map_map, Option.map_map]
          have e1 : ((fun x : Nat × Int => x.2) ∘ fun p : Nat × Int => (p.1 + 1, p.2)) = fun x => x.2 := rfl
          rw [e1]
          exact h2
theorem look_app {m : List Ch} {k c k' : Int} : lookC m k = none → (lookC (m ++ [⟨k, c⟩]) k').map (·.2) = if k = k' then some c else (lookC m k').map (·.2) := by
  induction m with
  | nil =>
    intro _
    simp only [List.nil_append, lookC]
    by_cases hk : k = k'
    · rw [if_pos hk, if_pos hk]; rfl
    · rw [if_neg hk, if_neg hk]; rfl
  | cons a m ih =>
    intro h
    simp only [lookC] at h
    by_cases ha : a.k = k
    · rw [if_pos ha] at h; cases h
    · rw [if_neg ha, Option.map_eq_none_iff] at h
      have h2 := ih h
      simp only [List.cons_append, lookC]
      by_cases h3 : a.k = k'
      · rw [if_pos h3, if_pos h3, if_neg (fun e => ha (by rw [h3, e]))]
      · rw [if_neg h3, if_neg h3, Option.map_map, Option.map_map]
        have e1 : ((fun x : Nat × Int => x.2) ∘ fun p : Nat × Int => (p.1 + 1, p.2)) = fun x => x.2 := rfl
        rw [e1]
        exact h2
theorem look_put (m : List Ch) (k c k' : Int) : (lookC (putC m k c) k').map (·.2) = if k = k' then some c else (lookC m k').map (·.2) := by
  unfold putC
  cases h : lookC m k with
  | none => exact look_app h
  | some q => exact look_set (i := q.1) (v := q.2) h
theorem best_fold (p : List Pt) (k : Int) : ∀ (T : List Tpl) (m : List Ch), (lookC (T.foldl (stepC p) m) k).map (·.2) = T.foldl (fun o t => if t.key = k then some (match o with | none => cst p t.p | some v => min v (cst p t.p)) else o) ((lookC m k).map (·.2))
  | [], m => rfl
  | t :: T, m => by
    rw [List.foldl_cons, List.foldl_cons, best_fold p k T]
    congr 1
    unfold stepC
    rw [look_put]
    by_cases hk : t.key = k
    · rw [if_pos hk, if_pos hk]
      subst hk
      cases h : lookC m t.key with
      | none => rfl
      | some q => rfl
    · rw [if_neg hk, if_neg hk]
theorem best_look (p : List Pt) (T : List Tpl) (k : Int) : (lookC (costsF p T) k).map (·.2) = bestO p T k := best_fold p k T []
theorem best_snoc (p : List Pt) (T : List Tpl) (t : Tpl) (k : Int) : bestO p (T ++ [t]) k = if t.key = k then some (match bestO p T k with | none => cst p t.p | some v => min v (cst p t.p)) else bestO p T k := by
  simp [bestO, List.foldl_append]
theorem dist_nonneg (a b : List Pt) : 0 ≤ dist a b := W_nonneg (gp_nonneg a b) _ _
theorem cst_nonneg (p q : List Pt) : 0 ≤ cst p q := by
  have := dist_nonneg p q
  unfold cst
  omega
theorem cst_le (p q : List Pt) : cst p q ≤ 1000 := by unfold cst; omega
theorem cst_self (p : List Pt) : cst p p = 0 := by unfold cst; rw [dist_self]; decide
theorem best_bd (p : List Pt) (T : List Tpl) (k v : Int) (h : bestO p T k = some v) : 0 ≤ v ∧ v ≤ 1000 := by
  have key : ∀ (T : List Tpl) (o : Option Int), (∀ v, o = some v → 0 ≤ v ∧ v ≤ 1000) → ∀ v, T.foldl (fun o t => if t.key = k then some (match o with | none => cst p t.p | some v => min v (cst p t.p)) else o) o = some v → 0 ≤ v ∧ v ≤ 1000 := by
    intro T
    induction T with
    | nil => exact fun o ho v hv => ho v hv
    | cons t T ih =>
      intro o ho
      rw [List.foldl_cons]
      refine ih _ fun v hv => ?_
      split at hv
      · have h1 := cst_nonneg p t.p
        have h2 := cst_le p t.p
        cases o with
        | none => simp only [Option.some.injEq] at hv; omega
        | some u => have := ho u rfl; simp only [Option.some.injEq] at hv; omega
      · exact ho v hv
  exact key T none (fun v hv => by cases hv) v h
theorem costAt_best (p : List Pt) (T : List Tpl) (k : Int) : costAt (costsF p T) k = (bestO p T k).getD 0 := by rw [← best_look]; rfl
theorem mem_best (p : List Pt) (T : List Tpl) (k : Int) : k ∈ (costsF p T).map (·.k) ↔ bestO p T k ≠ none := by
  rw [← best_look]
  have := look_none (m := costsF p T) (k := k)
  constructor
  · intro h e
    rw [Option.map_eq_none_iff] at e
    exact this.1 e h
  · intro h
    by_cases hk : k ∈ (costsF p T).map (·.k)
    · exact hk
    · exact absurd (by rw [this.2 hk]; rfl) h
theorem slot_mem {m : List Ch} {c : Ch} : c ∈ slotF m ↔ c.k ∈ m.map (·.k) ∧ c.c = costAt m c.k := by
  unfold slotF
  rw [List.mem_map]
  constructor
  · rintro ⟨k, hk, rfl⟩
    exact ⟨(sortK_perm _).mem_iff.1 hk, rfl⟩
  · rintro ⟨h1, h2⟩
    exact ⟨c.k, (sortK_perm _).mem_iff.2 h1, by cases c; simp only at h2; rw [h2]⟩
/-- The choices of a match, by the least costs. -/
theorem slot_best {p : List Pt} {T : List Tpl} {c : Ch} : c ∈ slotF (costsF p T) ↔ bestO p T c.k = some c.c := by
  rw [slot_mem, mem_best, costAt_best]
  cases bestO p T c.k with
  | none => simp
  | some v => simp only [ne_eq, reduceCtorEq, not_false_eq_true, Option.getD_some, true_and, Option.some.injEq]; exact eq_comm
theorem free_more (T : List Tpl) (t : Tpl) : (⟨t.key, 0⟩ : Ch) ∈ slotF (costsF t.p (T ++ [t])) := by
  rw [slot_best]
  show bestO t.p (T ++ [t]) t.key = some 0
  rw [best_snoc, if_pos rfl, cst_self]
  cases h : bestO t.p T t.key with
  | none => rfl
  | some v =>
    have := best_bd t.p T t.key v h
    simp only [Option.some.injEq]; omega
theorem after_more {p : List Pt} {T : List Tpl} {t : Tpl} {b c : Ch} (hb : b ∈ slotF (costsF p T)) (hc : c ∈ slotF (costsF p (T ++ [t]))) (hk : c.k = b.k) : c.c = b.c ∨ c.k = t.key ∧ c.c < b.c := by
  rw [slot_best] at hb hc
  rw [hk, best_snoc, hb] at hc
  split at hc
  · rename_i h
    simp only [Option.some.injEq] at hc
    rw [hk, h]
    omega
  · simp only [Option.some.injEq] at hc; exact .inl hc.symm
theorem after_has {p : List Pt} {T : List Tpl} {t : Tpl} {b : Ch} (hb : b ∈ slotF (costsF p T)) : b.k ∈ (slotF (costsF p (T ++ [t]))).map (·.k) := by
  rw [slot_best] at hb
  have : bestO p (T ++ [t]) b.k ≠ none := by
    rw [best_snoc, hb]
    split <;> simp
  obtain ⟨v, hv⟩ := Option.ne_none_iff_exists'.1 this
  exact List.mem_map.2 ⟨⟨b.k, v⟩, slot_best.2 hv, rfl⟩
theorem TB.snoc {k : Int} {T : List Tpl} (h : TB k T) {t : Tpl} (ht : (97 ≤ t.key ∧ t.key < 97 + k) ∧ okL0 t.p ∧ 2 ≤ t.p.length ∧ t.p.length ≤ 6) : TB k (T ++ [t]) := fun u hu => by
  rcases List.mem_append.1 hu with hu | hu
  · exact h u hu
  · simp only [List.mem_singleton] at hu; subst hu; exact ht
theorem tb_valid {k : Int} {t : Tpl} (ht : (97 ≤ t.key ∧ t.key < 97 + k) ∧ okL0 t.p ∧ 2 ≤ t.p.length ∧ t.p.length ≤ 6) : validB t.p = true := by
  simp only [validB, Bool.and_eq_true, decide_eq_true_eq, List.all_eq_true]
  refine ⟨⟨ht.2.2.1, by omega⟩, fun q hq => ?_⟩
  obtain ⟨a, b, c, d⟩ := ht.2.1 q hq
  exact inB_in (by omega) (by omega) (by omega) (by omega)
end Go.Proofs.YtojgjdcciojpeaaGreat
set_option linter.unusedSimpArgs false
set_option linter.unusedVariables false
namespace Go.Proofs.YtojgjdcciojpeaaGreat
open Go Go.PS

theorem eq_of_mem {l l' : List Ch} (h1 : l.Pairwise (fun a b => a.k < b.k)) (h2 : l'.Pairwise (fun a b => a.k < b.k)) (h : ∀ c, c ∈ l ↔ c ∈ l') : l = l' := by
  have n1 : l.Nodup := h1.imp fun {a b} hab e => by rw [e] at hab; omega
  have n2 : l'.Nodup := h2.imp fun {a b} hab e => by rw [e] at hab; omega
  exact List.Perm.eq_of_pairwise (le := fun a b : Ch => a.k < b.k) (fun a b _ _ h3 h4 => by omega) h1 h2 ((List.perm_ext_iff_of_nodup n1 n2).2 h)
theorem mem_take_key {α : Type} (key : α → Int) (c : α) : ∀ (l : List α) (n : Nat), l.Pairwise (fun a b => key a < key b) → (c ∈ l.take n ↔ c ∈ l ∧ l.countP (fun d => decide (key d < key c)) < n)
  | [], n, _ => by simp
  | x :: l, 0, _ => by simp
  | x :: l, n + 1, h => by
    obtain ⟨h1, h2⟩ := List.pairwise_cons.1 h
    have ih := mem_take_key key c l n h2
    rw [List.take_succ_cons, List.mem_cons, List.mem_cons, ih, List.countP_cons]
    constructor
    · rintro (rfl | ⟨hc, hn⟩)
      · refine ⟨.inl rfl, ?_⟩
        have h0 : l.countP (fun d => decide (key d < key c)) = 0 := List.countP_eq_zero.2 fun a ha => by
          have := h1 a ha
          simp; omega
        rw [h0]; simp
      · refine ⟨.inr hc, ?_⟩
        split <;> omega
    · rintro ⟨rfl | hc, hn⟩
      · exact .inl rfl
      · right
        have h3 := h1 c hc
        rw [if_pos (by simpa using h3)] at hn
        exact ⟨hc, by omega⟩
theorem slot_keys (m : List Ch) : (slotF m).map (·.k) = sortK (m.map (·.k)) := by
  unfold slotF
  rw [List.map_map]
  exact List.map_id _
theorem slot_sorted {m : List Ch} (h : (m.map (·.k)).Nodup) : (slotF m).Pairwise (fun a b => a.k < b.k) := by
  have h1 := sortK_sorted (m.map (·.k))
  have h2 : (sortK (m.map (·.k))).Nodup := (sortK_perm _).nodup_iff.2 h
  have h3 : (sortK (m.map (·.k))).Pairwise (fun a b => a < b) := (h1.and h2).imp fun {a b} hab => by
    have := hab.2
    have := hab.1
    omega
  rw [← slot_keys] at h3
  exact List.pairwise_map.1 h3
theorem lex_inj {a b : Ch} (ha : 0 ≤ a.k ∧ a.k ≤ 255) (hb : 0 ≤ b.k ∧ b.k ≤ 255) (h : lexK a = lexK b) : a = b := by
  unfold lexK at h
  cases a; cases b
  simp only [Ch.mk.injEq] at *
  omega
/-- What the sort by cost and letter leaves: it increases. -/
theorem lex_sorted {S : List Ch} (hp : S.Pairwise (fun a b => a.k < b.k)) (h : ∀ x ∈ S, 0 ≤ x.k ∧ x.k ≤ 255) : (isort (ltK (·.c)) S.length S 1).Pairwise (fun a b => lexK a < lexK b) := by
  rw [isort_lex hp h]
  have h1 := isort_sorted lexK S
  have hpm := isort_perm (ltK lexK) S
  have n1 : S.Nodup := hp.imp fun {a b} hab e => by rw [e] at hab; omega
  have h2 : (isort (ltK lexK) S.length S 1).Nodup := hpm.nodup_iff.2 n1
  refine (h1.and h2).imp_of_mem fun {a b} ha hb hab => ?_
  have e1 := h a (hpm.mem_iff.1 ha)
  have e2 := h b (hpm.mem_iff.1 hb)
  have h3 : lexK a ≠ lexK b := fun e => hab.2 (lex_inj e1 e2 e)
  have := hab.1
  omega
theorem best_mem {S : List Ch} (hp : S.Pairwise (fun a b => a.k < b.k)) (h : ∀ x ∈ S, 0 ≤ x.k ∧ x.k ≤ 255) (c : Ch) : c ∈ bestF S ↔ c ∈ S ∧ S.countP (fun d => decide (lexK d < lexK c)) < 8 := by
  unfold bestF
  by_cases h8 : S.length ≤ 8
  · rw [if_pos h8]
    refine ⟨fun hc => ⟨hc, ?_⟩, fun hc => hc.1⟩
    obtain ⟨a, b, rfl⟩ := List.append_of_mem hc
    rw [List.countP_append, List.countP_cons]
    have h1 := List.countP_le_length (p := fun d => decide (lexK d < lexK c)) (l := a)
    have h2 := List.countP_le_length (p := fun d => decide (lexK d < lexK c)) (l := b)
    rw [List.length_append, List.length_cons] at h8
    rw [if_neg (by simp)]
    omega
  · rw [if_neg h8]
    have hs := lex_sorted hp h
    have hpm := isort_perm (ltK (·.c)) S
    generalize isort (ltK (·.c)) S.length S 1 = Q at hs hpm
    have hq8 : (Q.take 8).length = 8 := by
      have := hpm.length_eq
      simp; omega
    have hpm2 := isort_perm (ltK (·.k)) (Q.take 8)
    rw [hq8] at hpm2
    rw [hpm2.mem_iff, mem_take_key lexK c Q 8 hs, hpm.mem_iff, hpm.countP_eq]
theorem best_sorted {S : List Ch} (hp : S.Pairwise (fun a b => a.k < b.k)) (h : ∀ x ∈ S, 0 ≤ x.k ∧ x.k ≤ 255) : (bestF S).Pairwise (fun a b => a.k < b.k) := by
  unfold bestF
  by_cases h8 : S.length ≤ 8
  · rw [if_pos h8]; exact hp
  · rw [if_neg h8]
    have hpm := isort_perm (ltK (·.c)) S
    generalize isort (ltK (·.c)) S.length S 1 = Q at hpm
    have hq8 : (Q.take 8).length = 8 := by
      have := hpm.length_eq
      simp; omega
    have h1 := isort_sorted (·.k) (Q.take 8)
    have hpm2 := isort_perm (ltK (·.k)) (Q.take 8)
    rw [hq8] at hpm2 h1
    have n1 : (S.map (·.k)).Nodup := (List.pairwise_map.2 hp).imp fun {a b} hab e => by omega
    have n2 : (Q.map (·.k)).Nodup := (hpm.map _).nodup_iff.2 n1
    have n3 : ((Q.take 8).map (·.k)).Nodup := n2.sublist ((List.take_sublist 8 Q).map _)
    have n4 : ((isort (ltK (·.k)) 8 (Q.take 8) 1).map (·.k)).Nodup := (hpm2.map _).nodup_iff.2 n3
    refine (h1.and (List.pairwise_map.1 n4)).imp fun {a b} hab => ?_
    have := hab.1
    have := hab.2
    omega
theorem best_len (S : List Ch) : (bestF S).length = min S.length 8 := by
  unfold bestF
  by_cases h8 : S.length ≤ 8
  · rw [if_pos h8]; omega
  · rw [if_neg h8]
    have hq8 : ((isort (ltK (·.c)) S.length S 1).take 8).length = 8 := by
      have := (isort_perm (ltK (·.c)) S).length_eq
      simp; omega
    have := (isort_perm (ltK (·.k)) ((isort (ltK (·.c)) S.length S 1).take 8)).length_eq
    rw [hq8] at this
    rw [this]; omega
/-- A choice that is left out is not cheaper. -/
theorem best_out {S : List Ch} (hp : S.Pairwise (fun a b => a.k < b.k)) (h : ∀ x ∈ S, 0 ≤ x.k ∧ x.k ≤ 255) {b c : Ch} (hb : b ∈ S) (hnb : b ∉ bestF S) (hc : c ∈ bestF S) : c.c ≤ b.c := by
  rw [best_mem hp h] at hnb hc
  have h1 : ¬ S.countP (fun d => decide (lexK d < lexK b)) < 8 := fun e => hnb ⟨hb, e⟩
  by_cases hl : lexK b < lexK c
  · have h2 : S.countP (fun d => decide (lexK d < lexK b)) ≤ S.countP (fun d => decide (lexK d < lexK c)) := List.countP_mono_left fun x _ hx => by
      simp only [decide_eq_true_eq] at hx ⊢; omega
    omega
  · have e1 := h b hb
    have e2 := h c hc.1
    unfold lexK at hl
    omega

/-! The reference's way. -/
def costL (p : List Pt) (T : List Tpl) : List Int := (List.range 26).map fun i : Nat => (bestO p T (97 + (i : Int))).getD (-1)
def lessB (L : List Int) (a j : Nat) : Bool := decide (0 ≤ L.getD j 0) && (decide (L.getD j 0 < L.getD a 0) || (decide (L.getD j 0 = L.getD a 0) && decide (j < a)))
def rankF (L : List Int) (a : Nat) : Nat := (List.range L.length).countP (lessB L a)
def goodB (L : List Int) (i : Nat) : Bool := decide (0 ≤ L.getD i 0) && decide (rankF L i < 8)
def mkC (L : List Int) (i : Nat) : Ch := ⟨97 + i, L.getD i 0⟩
def refM (L : List Int) : List Ch := ((List.range 26).filter (goodB L)).map (mkC L)
theorem costL_get (p : List Pt) (T : List Tpl) {i : Nat} (h : i < 26) : (costL p T).getD i 0 = (bestO p T (97 + (i : Int))).getD (-1) := by simp [costL, h]
theorem costL_len (p : List Pt) (T : List Tpl) : (costL p T).length = 26 := by simp [costL]
theorem costL_nn (p : List Pt) (T : List Tpl) {i : Nat} (h : i < 26) (v : Int) : (0 ≤ (costL p T).getD i 0 ∧ (costL p T).getD i 0 = v) ↔ bestO p T (97 + (i : Int)) = some v := by
  rw [costL_get p T h]
  cases hb : bestO p T (97 + (i : Int)) with
  | none => simp
  | some u =>
    have := best_bd p T _ u hb
    simp only [Option.getD_some, Option.some.injEq]
    omega
theorem mk_sorted (L : List Int) (q : Nat → Bool) : (((List.range 26).filter q).map (mkC L)).Pairwise (fun a b => a.k < b.k) := by
  refine List.pairwise_map.2 ((List.pairwise_lt_range.filter q).imp fun {a b} hab => ?_)
  simp only [mkC]; omega
theorem best_key {p : List Pt} {T : List Tpl} {k : Int} {v : Int} (h : bestO p T k = some v) : ∃ t ∈ T, t.key = k := by
  have h1 : k ∈ (costsF p T).map (·.k) := (mem_best p T k).2 (by rw [h]; simp)
  exact (costs_keys p (fun k => ∃ t ∈ T, t.key = k) T [] ⟨by simp, by simp⟩ (fun t ht => ⟨t, ht, rfl⟩)).2 k h1
/-- All letters with their costs. -/
theorem slot_all {p : List Pt} {k : Int} {T : List Tpl} (hT : TB k T) (hk : k ≤ 26) : slotF (costsF p T) = ((List.range 26).filter (fun i => decide (0 ≤ (costL p T).getD i 0))).map (mkC (costL p T)) := by
  refine eq_of_mem (slot_sorted (costs_nodup p T)) (mk_sorted _ _) fun c => ?_
  rw [slot_best, List.mem_map]
  constructor
  · intro h
    obtain ⟨t, ht, hkey⟩ := best_key h
    have h1 := (hT t ht).1
    rw [hkey] at h1
    have e : (97 : Int) + ((c.k - 97).toNat : Int) = c.k := by omega
    have h2 := (costL_nn p T (i := (c.k - 97).toNat) (by omega) c.c).2 (by rw [e]; exact h)
    refine ⟨(c.k - 97).toNat, ?_, ?_⟩
    · rw [List.mem_filter, List.mem_range]
      exact ⟨by omega, decide_eq_true h2.1⟩
    · cases c
      simp only [mkC, Ch.mk.injEq]
      exact ⟨e, h2.2⟩
  · rintro ⟨i, hi, rfl⟩
    rw [List.mem_filter, List.mem_range] at hi
    exact (costL_nn p T hi.1 _).1 ⟨of_decide_eq_true hi.2, rfl⟩
theorem slot_range {p : List Pt} {k : Int} {T : List Tpl} (hT : TB k T) (hk : k ≤ 26) : ∀ x ∈ slotF (costsF p T), 0 ≤ x.k ∧ x.k ≤ 255 := by
  intro x hx
  rw [slot_best] at hx
  obtain ⟨t, ht, hkey⟩ := best_key hx
  have h1 := (hT t ht).1
  omega
theorem rank_count {p : List Pt} {k : Int} {T : List Tpl} (hT : TB k T) (hk : k ≤ 26) {i : Nat} (hi : i < 26) : (slotF (costsF p T)).countP (fun d => decide (lexK d < lexK (mkC (costL p T) i))) = rankF (costL p T) i := by
  rw [slot_all hT hk, List.countP_map, List.countP_filter]
  unfold rankF
  rw [costL_len]
  refine List.countP_congr fun j hj => ?_
  rw [List.mem_range] at hj
  have e1 : lexK (mkC (costL p T) j) = (costL p T).getD j 0 * 256 + (97 + (j : Int)) := rfl
  have e2 : lexK (mkC (costL p T) i) = (costL p T).getD i 0 * 256 + (97 + (i : Int)) := rfl
  simp only [Function.comp, lessB, Bool.and_eq_true, Bool.or_eq_true, decide_eq_true_eq]
  rw [e1, e2]
  omega
/-- The reference's choices are the program's. -/
theorem ref_eq {p : List Pt} {k : Int} {T : List Tpl} (hT : TB k T) (hk : k ≤ 26) : refM (costL p T) = bestF (slotF (costsF p T)) := by
  have hp := slot_sorted (costs_nodup p T)
  have hr := slot_range (p := p) hT hk
  refine eq_of_mem (mk_sorted _ _) (best_sorted hp hr) fun c => ?_
  rw [best_mem hp hr, refM, List.mem_map]
  constructor
  · rintro ⟨i, hi, rfl⟩
    rw [List.mem_filter, List.mem_range] at hi
    obtain ⟨hi, hg⟩ := hi
    simp only [goodB, Bool.and_eq_true, decide_eq_true_eq] at hg
    refine ⟨?_, by rw [rank_count hT hk hi]; exact hg.2⟩
    rw [slot_best]
    exact (costL_nn p T hi _).1 ⟨hg.1, rfl⟩
  · rintro ⟨h1, h2⟩
    rw [slot_all hT hk, List.mem_map] at h1
    obtain ⟨i, hi, rfl⟩ := h1
    rw [List.mem_filter, List.mem_range] at hi
    rw [rank_count hT hk hi.1] at h2
    refine ⟨i, ?_, rfl⟩
    rw [List.mem_filter, List.mem_range]
    exact ⟨hi.1, by simp only [goodB, Bool.and_eq_true, decide_eq_true_eq]; exact ⟨of_decide_eq_true hi.2, h2⟩⟩
end Go.Proofs.YtojgjdcciojpeaaGreat
set_option linter.unusedSimpArgs false
set_option linter.unusedVariables false
namespace Go.Proofs.YtojgjdcciojpeaaGreat
open Go Go.RowKit Go.Sort Go.Shelf Go.Proofs Go.PS
set_option maxRecDepth 100000
set_option maxHeartbeats 4000000
theorem ltK_iff (x y : Ch) : ltOf (fun x y : Ch => cmpI x.k y.k) x y = decide (x.k < y.k) := by
  unfold ltOf
  exact decide_eq_decide.2 (cmpI_neg _ _)
theorem swoK : SWO (ltOf fun x y : Ch => cmpI x.k y.k) where
  irrefl x := by rw [ltK_iff]; simp
  trans x y z h1 h2 := by rw [ltK_iff] at *; simp at *; omega
  ntrans x y z h1 h2 := by rw [ltK_iff] at *; simp at *; omega
theorem ltL_iff (x y : Ch) : ltOf cmpL x y = decide (x.c < y.c ∨ (x.c = y.c ∧ x.k < y.k)) := by
  unfold ltOf
  refine decide_eq_decide.2 ?_
  unfold cmpL cmpI
  split <;> split <;> (try split) <;> (try split) <;> omega
theorem swoL : SWO (ltOf cmpL) where
  irrefl x := by rw [ltL_iff]; simp
  trans x y z h1 h2 := by rw [ltL_iff] at *; simp at *; omega
  ntrans x y z h1 h2 := by rw [ltL_iff] at *; simp at *; omega
/-- There is one order by letter, where the letters are distinct. -/
theorem uniqueK {l l0 : List Ch} (hp : l0.Perm l) (hs : l0.Pairwise (fun a b => a.k < b.k)) (l' : List Ch) (h' : l'.Perm l) (hs' : l'.Pairwise (fun a b => ltOf (fun x y : Ch => cmpI x.k y.k) b a = false)) : l' = l0 := by
  have hpp : l'.Perm l0 := h'.trans hp.symm
  refine eq_of_mem ?_ hs fun c => hpp.mem_iff
  have hn : (l'.map (·.k)).Nodup := by
    have h1 : (l0.map (·.k)).Nodup := by
      rw [List.Nodup, List.pairwise_map]
      exact hs.imp fun h e => by omega
    exact (hpp.map (·.k)).nodup_iff.2 h1
  have hn2 : l'.Pairwise (fun a b => a.k ≠ b.k) := by
    rw [List.Nodup, List.pairwise_map] at hn; exact hn
  refine (hs'.and hn2).imp fun {a b} h => ?_
  have h1 := h.1
  rw [ltK_iff] at h1
  have := of_decide_eq_false h1
  have := h.2
  omega
/-- There is one order by cost and letter. -/
theorem uniqueL {l l0 : List Ch} (hp : l0.Perm l) (hs : l0.Pairwise (fun a b => ltOf cmpL b a = false)) (l' : List Ch) (h' : l'.Perm l) (hs' : l'.Pairwise (fun a b => ltOf cmpL b a = false)) : l' = l0 := by
  refine List.Perm.eq_of_pairwise (le := fun a b => ltOf cmpL b a = false) (fun a b _ _ h1 h2 => ?_) hs' hs (h'.trans hp.symm)
  rw [ltL_iff] at h1 h2
  have h1 := of_decide_eq_false h1
  have h2 := of_decide_eq_false h2
  obtain ⟨k1, c1⟩ := a
  obtain ⟨k2, c2⟩ := b
  dsimp only at h1 h2
  have e1 : c1 = c2 := by omega
  have e2 : k1 = k2 := by omega
  rw [e1, e2]
end Go.Proofs.YtojgjdcciojpeaaGreat
set_option linter.unusedSimpArgs false
set_option linter.unusedVariables false
namespace Go.Proofs.YtojgjdcciojpeaaGreat
open Go Go.RowKit Go.Sort Go.Shelf Go.Proofs Go.PS
set_option maxRecDepth 100000
set_option maxHeartbeats 4000000
/-! What a touch may mean: the plain law. -/
structure Tap where
  k : Int
  x : Int
  y : Int
  n : Int
  deriving DecidableEq, Inhabited
def Tap.d (t : Tap) : D := .agg [.int .u8 t.k, .int .i64 t.x, .int .i64 t.y, .int .i64 t.n]
def Tap.ok (t : Tap) : Prop := -100000 ≤ t.x ∧ t.x ≤ 100000 ∧ -100000 ≤ t.y ∧ t.y ≤ 100000 ∧ t.n ≤ 100000
def tpOk (T : List Tap) : Prop := T.length ≤ 100000 ∧ ∀ t ∈ T, t.ok
def hitT (k : Int) (t : Tap) : Bool := decide (t.k = k) && decide (4 ≤ t.n)
def shiftF (T : List Tap) (k : Int) : Pt := match T.find? (hitT k) with
  | some t => ⟨divT t.x t.n, divT t.y t.n⟩
  | none => ⟨0, 0⟩
theorem divT_in {a b B : Int} (h1 : -B ≤ a) (h2 : a ≤ B) (hb : 1 ≤ b) : -B ≤ divT a b ∧ divT a b ≤ B := by
  unfold divT
  split
  · have := Int.ediv_nonneg (a := a) (b := b) (by omega) (by omega)
    have := Int.ediv_le_self (a := a) b (by omega)
    omega
  · have := Int.ediv_nonneg (a := -a) (b := b) (by omega) (by omega)
    have := Int.ediv_le_self (a := -a) b (by omega)
    omega
theorem shift_in {T : List Tap} (hT : tpOk T) (k : Int) : -100000 ≤ (shiftF T k).x ∧ (shiftF T k).x ≤ 100000 ∧ -100000 ≤ (shiftF T k).y ∧ (shiftF T k).y ≤ 100000 := by
  unfold shiftF
  cases h : T.find? (hitT k) with
  | none => simp
  | some t =>
    obtain ⟨h1, h2, h3, h4, h5⟩ := hT.2 t (List.mem_of_find?_eq_some h)
    have hp := List.find?_some h
    simp only [hitT, Bool.and_eq_true, decide_eq_true_eq] at hp
    have q1 := divT_in h1 h2 (b := t.n) (by omega)
    have q2 := divT_in h3 h4 (b := t.n) (by omega)
    exact ⟨q1.1, q1.2, q2.1, q2.2⟩
def bynF (v lo hi : Int) : Int := max (max (lo - v) (v - hi)) 0
def Ar.ok (a : Ar) : Prop := 0 ≤ a.k ∧ a.k ≤ 255 ∧ -10000 ≤ a.x0 ∧ a.x0 ≤ 10000 ∧ -10000 ≤ a.y0 ∧ a.y0 ≤ 10000 ∧ -10000 ≤ a.x1 ∧ a.x1 ≤ 10000 ∧ -10000 ≤ a.y1 ∧ a.y1 ≤ 10000
def arOk (A : List Ar) : Prop := A.length ≤ 100 ∧ (∀ a ∈ A, a.ok) ∧ A.Pairwise (fun a b => a.k < b.k)
def priceF (a : Ar) (s p : Pt) : Int := (bynF (p.x - s.x) a.x0 a.x1 * bynF (p.x - s.x) a.x0 a.x1 + bynF (p.y - s.y) a.y0 a.y1 * bynF (p.y - s.y) a.y0 a.y1) / 16
theorem byn_in {v lo hi : Int} (h : -200000 ≤ v ∧ v ≤ 200000 ∧ -10000 ≤ lo ∧ lo ≤ 10000 ∧ -10000 ≤ hi ∧ hi ≤ 10000) : 0 ≤ bynF v lo hi ∧ bynF v lo hi ≤ 210000 := by
  unfold bynF; omega
theorem sq_in {a B : Int} (h : 0 ≤ a ∧ a ≤ B) : 0 ≤ a * a ∧ a * a ≤ B * B :=
  ⟨Int.mul_nonneg h.1 h.1, Int.mul_le_mul h.2 h.2 h.1 (by omega)⟩
def touchC (T : List Tap) (p : Pt) (a : Ar) : Option Ch := if priceF a (shiftF T a.k) p ≤ 1000 then some ⟨a.k, priceF a (shiftF T a.k) p⟩ else none
def nearF (A : List Ar) (T : List Tap) (p : Pt) : List Ch := A.filterMap (touchC T p)
def touchF (A : List Ar) (T : List Tap) (p : Pt) : List Ch × Int := if p.inB = false then ([], 1) else if nearF A T p = [] then ([], 210) else (bestF (nearF A T p), 0)
theorem touch_key {T : List Tap} {p : Pt} {a : Ar} {c : Ch} (h : touchC T p a = some c) : c.k = a.k ∧ 0 ≤ c.c ∧ c.c ≤ 1000 := by
  unfold touchC at h
  split at h
  · cases h
    refine ⟨rfl, ?_, by assumption⟩
    unfold priceF
    have h1 : ∀ v lo hi : Int, 0 ≤ bynF v lo hi * bynF v lo hi := fun v lo hi => by
      have : 0 ≤ bynF v lo hi := by unfold bynF; omega
      exact Int.mul_nonneg this this
    exact Int.ediv_nonneg (Int.add_nonneg (h1 _ _ _) (h1 _ _ _)) (by omega)
  · cases h
theorem near_sorted {A : List Ar} (hA : arOk A) (T : List Tap) (p : Pt) : (nearF A T p).Pairwise (fun a b => a.k < b.k) := by
  unfold nearF
  rw [List.pairwise_filterMap]
  refine hA.2.2.imp fun {a b} h c hc d hd => ?_
  rw [(touch_key hc).1, (touch_key hd).1]; exact h
theorem near_range {A : List Ar} (hA : arOk A) (T : List Tap) (p : Pt) : ∀ c ∈ nearF A T p, 0 ≤ c.k ∧ c.k ≤ 255 := by
  intro c hc
  obtain ⟨a, ha, h⟩ := List.mem_filterMap.1 hc
  have := hA.2.1 a ha
  rw [(touch_key h).1]
  exact ⟨this.1, this.2.1⟩
theorem near_cost {A : List Ar} (T : List Tap) (p : Pt) : ∀ c ∈ nearF A T p, 0 ≤ c.c ∧ c.c ≤ 1000 := by
  intro c hc
  obtain ⟨a, ha, h⟩ := List.mem_filterMap.1 hc
  exact (touch_key h).2
theorem near_len (A : List Ar) (T : List Tap) (p : Pt) : (nearF A T p).length ≤ A.length := by
  unfold nearF; exact List.length_filterMap_le ..
theorem near_snoc (A : List Ar) (T : List Tap) (p : Pt) {i : Nat} (h : i < A.length) : nearF (A.take (i + 1)) T p = nearF (A.take i) T p ++ (touchC T p (A.getD i default)).toList := by
  have e : A.getD i default = A[i] := by simp [h]
  unfold nearF
  rw [List.take_succ_eq_append_getElem h, List.filterMap_append, e]
  congr 1
/-- The letters that are not behind 8 others. -/
def fewRank (l : List Ch) (c : Ch) : Nat := l.countP fun d => decide (d.c < c.c) || (decide (d.c = c.c) && decide (d.k < c.k))
def fewF (l : List Ch) : List Ch := l.filter fun c => decide (fewRank l c < 8)
theorem few_best {l : List Ch} (hp : l.Pairwise (fun a b => a.k < b.k)) (hr : ∀ x ∈ l, 0 ≤ x.k ∧ x.k ≤ 255) : fewF l = bestF l := by
  refine eq_of_mem (hp.filter _) (best_sorted hp hr) fun c => ?_
  rw [best_mem hp hr, fewF, List.mem_filter]
  refine and_congr_right fun hc => ?_
  have e : fewRank l c = l.countP (fun d => decide (lexK d < lexK c)) := by
    unfold fewRank
    refine List.countP_congr fun d hd => ?_
    have h1 := hr c hc
    have h2 := hr d hd
    unfold lexK
    simp only [Bool.or_eq_true, Bool.and_eq_true, decide_eq_true_eq]
    omega
  rw [e, decide_eq_true_eq]
/-- What the two sorts leave. -/
def lexS (l : List Ch) : List Ch := isort (ltK (·.c)) l.length l 1
theorem lexS_perm (l : List Ch) : (lexS l).Perm l := isort_perm _ _
theorem lexS_order {l : List Ch} (hp : l.Pairwise (fun a b => a.k < b.k)) (hr : ∀ x ∈ l, 0 ≤ x.k ∧ x.k ≤ 255) : (lexS l).Pairwise (fun a b => ltOf cmpL b a = false) := by
  refine (lex_sorted hp hr).imp_of_mem fun {a b} ha hb hab => ?_
  have h1 := hr a ((lexS_perm l).mem_iff.1 ha)
  have h2 := hr b ((lexS_perm l).mem_iff.1 hb)
  rw [ltL_iff]
  refine decide_eq_false ?_
  unfold lexK at hab
  omega
theorem best_perm8 {l : List Ch} (h8 : ¬ l.length ≤ 8) : (bestF l).Perm ((lexS l).take 8) := by
  unfold bestF
  rw [if_neg h8]
  have hl : ((lexS l).take 8).length = 8 := by
    have := (lexS_perm l).length_eq
    rw [List.length_take]; omega
  have := isort_perm (ltK (·.k)) ((lexS l).take 8)
  rw [hl] at this
  exact this
end Go.Proofs.YtojgjdcciojpeaaGreat
set_option linter.unusedSimpArgs false
set_option linter.unusedVariables false
namespace Go.Proofs.YtojgjdcciojpeaaGreat
open Go Go.PS
set_option maxRecDepth 100000
set_option maxHeartbeats 4000000
theorem find_at {α : Type} [Inhabited α] (q : α → Bool) {l : List α} {i : Nat} (hi : i < l.length) (h0 : (l.take i).find? q = none) (h1 : q (l.getD i default) = true) : l.find? q = some (l.getD i default) := by
  have e : l.getD i default = l[i] := by simp [hi]
  have hl : l = l.take i ++ l[i] :: l.drop (i + 1) := by rw [← List.drop_eq_getElem_cons hi, List.take_append_drop]
  have h2 : (l.take i ++ l[i] :: l.drop (i + 1)).find? q = some l[i] := by
    rw [List.find?_append, h0, List.find?_cons_of_pos (by rw [← e]; exact h1)]; rfl
  rw [← hl] at h2
  rw [e]; exact h2
theorem find_step {α : Type} [Inhabited α] (q : α → Bool) {l : List α} {i : Nat} (hi : i < l.length) (h0 : (l.take i).find? q = none) (h1 : q (l.getD i default) = false) : (l.take (i + 1)).find? q = none := by
  have e : l.getD i default = l[i] := by simp [hi]
  rw [List.take_succ_eq_append_getElem hi, List.find?_append, h0, List.find?_cons_of_neg (by rw [← e, h1]; simp)]; rfl
theorem tap_get {T : List Tap} {i : Nat} (h : i < T.length) : (List.map Tap.d T).getD i .nilp = .agg [.int .u8 (T.getD i default).k, .int .i64 (T.getD i default).x, .int .i64 (T.getD i default).y, .int .i64 (T.getD i default).n] := by simp [h, Tap.d]
theorem tap_at {T : List Tap} (hT : tpOk T) {i : Nat} (h : i < T.length) : (T.getD i default).ok := by
  have e : T.getD i default = T[i] := by simp [h]
  rw [e]; exact hT.2 _ (List.getElem_mem h)
theorem shift125 (tz : Nat) (T : List Tap) (k : Int) (hT : tpOk T) (hz : T ≠ [] → tz = 4) : PCall Tryz.prog 125 [.sl tz (T.map Tap.d), .int .u8 k] (shiftF T k).d := by
  have hTl := hT.1
  refine enterP tabOk Tryz.func125 35 [0, 1, 4, 6, 7, 8, 9, 10, 21] [.cell 4 70] rfl (r := [_]) rfl (h := ?_); intro E hK; simp only [go_sem]
  refine wgo ?_
  refine wlp (Run.loopC (ι := { i : Nat // i ≤ T.length ∧ (T.take i).find? (hitT k) = none }) (U := fun i => [(9, .d (.int .i64 i.1))]) (O := fun i => []) (K := fun _ => []) (μ := fun i => T.length - i.1) (i0 := ⟨0, by omega, by simp⟩)) ?_
  rintro ⟨i, hi, hp⟩ ih
  by_cases hlt : i < T.length
  · have h1 : (i : Int) < T.length := by omega
    have hz4 := hz (fun e => by rw [e] at hlt; simp at hlt)
    subst hz4
    have hget := tap_get hlt
    obtain ⟨b1, b2, b3, b4, b5⟩ := tap_at hT hlt
    cases hb : hitT k (T.getD i default) with
    | true =>
      have hr : shiftF T k = ⟨divT (T.getD i default).x (T.getD i default).n, divT (T.getD i default).y (T.getD i default).n⟩ := by
        unfold shiftF; rw [find_at _ hlt hp hb]
      have hb1 := hb
      simp only [hitT, Bool.and_eq_true, decide_eq_true_eq] at hb1
      obtain ⟨c1, c2⟩ := hb1
      generalize T.getD i default = t at hget hr b1 b2 b3 b4 b5 c1 c2
      simp only [go_sem]
      refine wgoF (And.intro (@h1) (And.intro (@hget) (And.intro (@c1) (@c2)))) ?_
      exact wretF (And.intro (@hr) (@Pt.d.eq_1))
    | false =>
      have hn := find_step _ hlt hp hb
      have c : (decide ((T.getD i default).k = k) && decide (4 ≤ (T.getD i default).n)) = false := hb
      generalize T.getD i default = t at hget b1 b2 b3 b4 b5 c
      simp only [go_sem]
      refine wgoF (And.intro (@h1) (And.intro (@hget) (@c))) ?_
      exact wnxt (ih ⟨i + 1, by omega, hn⟩)
  · have h1 : ¬ (i : Int) < T.length := by omega
    have hr : shiftF T k = ⟨0, 0⟩ := by
      rw [List.take_of_length_le (by omega)] at hp
      unfold shiftF; rw [hp]
    simp only [go_sem]
    refine wgoF (@h1) ?_
    exact wretF (And.intro (@hr) (@Pt.d.eq_1))
theorem shift95 (tz : Nat) (T : List Tap) (k : Int) (hT : tpOk T) (hz : T ≠ [] → tz = 4) : PCall Tryz.prog 95 [.sl tz (T.map Tap.d), .int .u8 k] (shiftF T k).d := by
  have hTl := hT.1
  refine enterP tabOk Tryz.func95 51 [0, 1, 4, 5, 9, 26] [.cell 4 70] rfl (r := [_]) rfl (h := ?_); intro E hK; simp only [go_sem]
  refine wgo ?_
  refine wlp (Run.loopC (ι := { i : Nat // i ≤ T.length ∧ (T.take i).find? (hitT k) = none }) (U := fun i => [(5, .d (.int .i64 i.1))]) (O := fun i => []) (K := fun _ => []) (μ := fun i => T.length - i.1) (i0 := ⟨0, by omega, by simp⟩)) ?_
  rintro ⟨i, hi, hp⟩ ih
  by_cases hlt : i < T.length
  · have h1 : (i : Int) < T.length := by omega
    have hz4 := hz (fun e => by rw [e] at hlt; simp at hlt)
    subst hz4
    have hget := tap_get hlt
    obtain ⟨b1, b2, b3, b4, b5⟩ := tap_at hT hlt
    cases hb : hitT k (T.getD i default) with
    | true =>
      have hr : shiftF T k = ⟨divT (T.getD i default).x (T.getD i default).n, divT (T.getD i default).y (T.getD i default).n⟩ := by
        unfold shiftF; rw [find_at _ hlt hp hb]
      have hb1 := hb
      simp only [hitT, Bool.and_eq_true, decide_eq_true_eq] at hb1
      obtain ⟨c1, c2⟩ := hb1
      generalize T.getD i default = t at hget hr b1 b2 b3 b4 b5 c1 c2
      simp only [go_sem]
      refine wgoF (And.intro (@h1) (And.intro (@hget) (And.intro (@c1) (@c2)))) ?_
      exact wretF (And.intro (@hr) (@Pt.d.eq_1))
    | false =>
      have hn := find_step _ hlt hp hb
      have c : (decide ((T.getD i default).k = k) && decide (4 ≤ (T.getD i default).n)) = false := hb
      generalize T.getD i default = t at hget b1 b2 b3 b4 b5 c
      simp only [go_sem]
      refine wgoF (And.intro (@h1) (And.intro (@hget) (@c))) ?_
      exact wnxt (ih ⟨i + 1, by omega, hn⟩)
  · have h1 : ¬ (i : Int) < T.length := by omega
    have hr : shiftF T k = ⟨0, 0⟩ := by
      rw [List.take_of_length_le (by omega)] at hp
      unfold shiftF; rw [hp]
    simp only [go_sem]
    refine wgoF (@h1) ?_
    exact wretF (And.intro (@hr) (@Pt.d.eq_1))
theorem byn147 (v lo hi : Int) (hv : -200000 ≤ v ∧ v ≤ 200000 ∧ -10000 ≤ lo ∧ lo ≤ 10000 ∧ -10000 ≤ hi ∧ hi ≤ 10000) : PCall Tryz.prog 147 [.int .i64 v, .int .i64 lo, .int .i64 hi] (.int .i64 (bynF v lo hi)) := by
  obtain ⟨h1, h2, h3, h4, h5, h6⟩ := hv
  refine enterP tabOk Tryz.func147 14 [0, 1, 2, 6] [.tmp 6] rfl (r := [_]) rfl (h := ?_); intro E hK; simp only [go_sem]
  refine wgo ?_
  exact wretF (@bynF.eq_1)
theorem away96 (v lo hi : Int) (hv : -200000 ≤ v ∧ v ≤ 200000 ∧ -10000 ≤ lo ∧ lo ≤ 10000 ∧ -10000 ≤ hi ∧ hi ≤ 10000) : PCall Tryz.prog 96 [.int .i64 v, .int .i64 lo, .int .i64 hi] (.int .i64 (bynF v lo hi)) := by
  obtain ⟨h1, h2, h3, h4, h5, h6⟩ := hv
  refine enterP tabOk Tryz.func96 14 [0, 1, 2, 6] [.tmp 6] rfl (r := [_]) rfl (h := ?_); intro E hK; simp only [go_sem]
  refine wgo ?_
  exact wretF (@bynF.eq_1)
theorem pt_in {p : Pt} (h : p.inB = true) : 0 ≤ p.x ∧ p.x ≤ 1000 ∧ 0 ≤ p.y ∧ p.y ≤ 1000 := by
  simp only [Pt.inB, Bool.and_eq_true, decide_eq_true_eq] at h
  omega
theorem price124 (a : Ar) (s p : Pt) (ha : a.ok) (hs : -100000 ≤ s.x ∧ s.x ≤ 100000 ∧ -100000 ≤ s.y ∧ s.y ≤ 100000) (hp : p.inB = true) : PCall Tryz.prog 124 [a.d, s.d, p.d] (.int .i64 (priceF a s p)) := by
  obtain ⟨a1, a2, a3, a4, a5, a6, a7, a8, a9, a10⟩ := ha
  obtain ⟨s1, s2, s3, s4⟩ := hs
  obtain ⟨p1, p2, p3, p4⟩ := pt_in hp
  have c1 := byn147 (p.x - s.x) a.x0 a.x1 (by omega)
  have c2 := byn147 (p.y - s.y) a.y0 a.y1 (by omega)
  have q1 := byn_in (v := p.x - s.x) (lo := a.x0) (hi := a.x1) (by omega)
  have q2 := byn_in (v := p.y - s.y) (lo := a.y0) (hi := a.y1) (by omega)
  obtain ⟨r1, r2⟩ := sq_in q1
  obtain ⟨r3, r4⟩ := sq_in q2
  have hd : divT (bynF (p.x - s.x) a.x0 a.x1 * bynF (p.x - s.x) a.x0 a.x1 + bynF (p.y - s.y) a.y0 a.y1 * bynF (p.y - s.y) a.y0 a.y1) 16 = priceF a s p := divT_nn (by omega)
  refine enterP tabOk Tryz.func124 37 [0, 1, 2, 3, 4, 5, 6, 7, 8] [.tmp 6] rfl (r := [_]) rfl (h := ?_); intro E hK; simp only [go_sem]
  refine wgoF (And.intro (@Ar.d.eq_1) (@Pt.d.eq_1)) ?_
  refine wcall (c1) ?_
  refine wgo ?_
  refine wcall (c2) ?_
  generalize bynF (p.x - s.x) a.x0 a.x1 = u at r1 r2 hd
  generalize bynF (p.y - s.y) a.y0 a.y1 = v at r3 r4 hd
  generalize priceF a s p = w at hd
  refine wgo ?_
  exact wretF (@hd)
theorem cost67 (a : Ar) (tz : Nat) (T : List Tap) (p : Pt) (ha : a.ok) (hT : tpOk T) (hz : T ≠ [] → tz = 4) (hp : p.inB = true) : PCall Tryz.prog 67 [a.d, .sl tz (T.map Tap.d), p.d] (.int .i64 (priceF a (shiftF T a.k) p)) := by
  have hsh := shift95 tz T a.k hT hz
  have hs := shift_in hT a.k
  generalize shiftF T a.k = s at hsh hs
  obtain ⟨a1, a2, a3, a4, a5, a6, a7, a8, a9, a10⟩ := ha
  obtain ⟨s1, s2, s3, s4⟩ := hs
  obtain ⟨p1, p2, p3, p4⟩ := pt_in hp
  have c1 := away96 (p.x - s.x) a.x0 a.x1 (by omega)
  have c2 := away96 (p.y - s.y) a.y0 a.y1 (by omega)
  have q1 := byn_in (v := p.x - s.x) (lo := a.x0) (hi := a.x1) (by omega)
  have q2 := byn_in (v := p.y - s.y) (lo := a.y0) (hi := a.y1) (by omega)
  obtain ⟨r1, r2⟩ := sq_in q1
  obtain ⟨r3, r4⟩ := sq_in q2
  have hd : divT (bynF (p.x - s.x) a.x0 a.x1 * bynF (p.x - s.x) a.x0 a.x1 + bynF (p.y - s.y) a.y0 a.y1 * bynF (p.y - s.y) a.y0 a.y1) 16 = priceF a s p := divT_nn (by omega)
  refine enterP tabOk Tryz.func67 42 [0, 1, 2, 3, 5, 6, 7, 8, 9] [.tmp 6] rfl (r := [_]) rfl (h := ?_); intro E hK; simp only [go_sem]
  refine wgoF (And.intro (@Ar.d.eq_1) (@Pt.d.eq_1)) ?_
  refine wcall (hsh) ?_
  refine wgoF (@Pt.d.eq_1) ?_
  refine wcall (c1) ?_
  refine wgo ?_
  refine wcall (c2) ?_
  generalize bynF (p.x - s.x) a.x0 a.x1 = u at r1 r2 hd
  generalize bynF (p.y - s.y) a.y0 a.y1 = v at r3 r4 hd
  generalize priceF a s p = w at hd
  refine wgo ?_
  exact wretF (@hd)
theorem inside66 (p : Pt) : PCall Tryz.prog 66 [p.d] (.bool p.inB) := by
  have hr : (decide (0 ≤ p.x) && decide (p.x ≤ 1000) && decide (0 ≤ p.y) && decide (p.y ≤ 1000)) = p.inB := rfl
  refine enterP tabOk Tryz.func66 21 [0, 1, 2] [.tmp 2] rfl (r := [_]) rfl (h := ?_); intro E hK; simp only [go_sem]
  refine wgoF (@Pt.d.eq_1) ?_
  exact wretF (@hr)
end Go.Proofs.YtojgjdcciojpeaaGreat
set_option linter.unusedSimpArgs false
set_option linter.unusedVariables false
namespace Go.Proofs.YtojgjdcciojpeaaGreat
open Go Go.PS
set_option maxRecDepth 100000
set_option maxHeartbeats 4000000
def behB (c d : Ch) : Bool := decide (d.c < c.c) || (decide (d.c = c.c) && decide (d.k < c.k))
def cntTo (l : List Ch) (c : Ch) (k : Nat) : Nat := (l.take k).countP (behB c)
theorem cnt_le (l : List Ch) (c : Ch) (k : Nat) : cntTo l c k ≤ k := by
  have := List.countP_le_length (p := behB c) (l := l.take k)
  unfold cntTo
  rw [List.length_take] at this
  omega
theorem cnt_step {l : List Ch} {k : Nat} (h : k < l.length) (c : Ch) : cntTo l c (k + 1) = cntTo l c k + (if behB c (l.getD k default) = true then 1 else 0) := by
  have e : l.getD k default = l[k] := by simp [h]
  unfold cntTo
  rw [List.take_succ_eq_append_getElem h, List.countP_append, e]
  simp
theorem cnt_all (l : List Ch) (c : Ch) : cntTo l c l.length = fewRank l c := by unfold cntTo; rw [List.take_length]; rfl
def fewTo (l : List Ch) (i : Nat) : List Ch := (l.take i).filter fun c => decide (fewRank l c < 8)
theorem few_in {l : List Ch} {i : Nat} (h : i < l.length) (hb : fewRank l (l.getD i default) < 8) : fewTo l (i + 1) = fewTo l i ++ [l.getD i default] := by
  have e : l.getD i default = l[i] := by simp [h]
  unfold fewTo
  rw [List.take_succ_eq_append_getElem h, List.filter_append, ← e]
  generalize l.getD i default = c at hb
  simp [hb]
theorem few_out {l : List Ch} {i : Nat} (h : i < l.length) (hb : ¬ fewRank l (l.getD i default) < 8) : fewTo l (i + 1) = fewTo l i := by
  have e : l.getD i default = l[i] := by simp [h]
  unfold fewTo
  rw [List.take_succ_eq_append_getElem h, List.filter_append, ← e]
  generalize l.getD i default = c at hb
  simp [hb]
theorem few_len (l : List Ch) (i : Nat) : (fewTo l i).length ≤ l.length := by
  have := List.length_filter_le (fun c => decide (fewRank l c < 8)) (l.take i)
  unfold fewTo
  rw [List.length_take] at this
  omega
theorem ch_at {l : List Ch} {i : Nat} (h : i < l.length) : (List.map Ch.d l).getD i .nilp = .agg [.int .u8 (l.getD i default).k, .int .i64 (l.getD i default).c] := by simp [h, Ch.d]
theorem map_snocC (l : List Ch) (c : Ch) : List.map Ch.d l ++ [.agg [.int .u8 c.k, .int .i64 c.c]] = List.map Ch.d (l ++ [c]) := by simp [Ch.d]
theorem few68 (l : List Ch) (hl : l.length ≤ 1000) : PCall Tryz.prog 68 [.sl 2 (l.map Ch.d)] (.sl 2 ((fewF l).map Ch.d)) := by
  have z0 : fewTo l 0 = [] := rfl
  refine enterP tabOk Tryz.func68 69 [0, 2, 3, 4, 5, 6, 11, 17, 56, 60] [.tmp 2] rfl (r := [_]) rfl (h := ?_); intro E hK; simp only [go_sem]
  refine wgo ?_
  (apply Run.full 3 1003 62 2; (case hi => simp only [go_sem]; rfl); (case ht => simp only [go_sem]); (case hmn => first | exact Or.inl (by decide) | exact Or.inr rfl); (case hs => simp only [go_sem]; rfl))
  refine wlpF (Run.loopC (ι := { i : Nat // i ≤ l.length }) (U := fun i => [(3, .own 2 ((fewTo l i.1).map Ch.d) (.tok 1003)), (4, .d (.int .i64 i.1))]) (O := fun i => []) (K := fun _ => [(1003, .live 62 2)]) (μ := fun i => l.length - i.1) (i0 := ⟨0, by omega⟩)) (@z0) ?_
  rintro ⟨i, hi⟩ ih0
  by_cases hlt : i < l.length
  · have h1 : (i : Int) < l.length := by omega
    have hgi := ch_at hlt
    have hfl := few_len l i
    have hin := few_in hlt
    have hout := few_out hlt
    generalize l.getD i default = c at hgi hin hout
    have z1 : cntTo l c 0 = 0 := rfl
    simp only [go_sem]
    refine wgoF (@h1) ?_
    refine wlpF (Run.loopC (ι := { k : Nat // k ≤ l.length }) (U := fun k => [(5, .d (.int .i64 (cntTo l c k.1))), (6, .d (.int .i64 k.1))]) (O := fun _ => []) (K := fun _ => [(1003, .live 62 2)]) (μ := fun k => l.length - k.1) (i0 := ⟨0, by omega⟩)) (@z1) ?_
    rintro ⟨k, hk⟩ ih
    have hcl := cnt_le l c k
    by_cases hkt : k < l.length
    · have h2 : (k : Int) < l.length := by omega
      have hgk := ch_at hkt
      have hst := cnt_step hkt c
      have fin : ∀ b : Bool, behB c (l.getD k default) = b → cntTo l c (k + 1) = cntTo l c k + (if b = true then 1 else 0) := fun b hb => by rw [hst, hb]
      unfold behB at fin
      clear hst
      generalize l.getD k default = d at hgk fin
      by_cases c2 : d.c < c.c
      · have hf := fin true (by rw [decide_eq_true c2]; rfl)
        simp only [go_sem]
        refine wgoF (And.intro (@h1) (And.intro (@h2) (And.intro (@hgk) (And.intro (@hgi) (@c2))))) ?_
        exact wnxtF (ih ⟨k + 1, by omega⟩) (@hf)
      · by_cases c3 : d.c = c.c
        · have r3 : decide (d.c = c.c) = true := decide_eq_true c3
          by_cases c4 : d.k < c.k
          · have hf := fin true (by rw [decide_eq_false c2, r3, decide_eq_true c4]; rfl)
            simp only [go_sem]
            refine wgoF (And.intro (@h1) (And.intro (@h2) (And.intro (@hgk) (And.intro (@hgi) (And.intro (@c2) (And.intro (@r3) (@c4))))))) ?_
            exact wnxtF (ih ⟨k + 1, by omega⟩) (@hf)
          · have hf := fin false (by rw [decide_eq_false c2, r3, decide_eq_false c4]; rfl)
            simp only [go_sem]
            refine wgoF (And.intro (@h1) (And.intro (@h2) (And.intro (@hgk) (And.intro (@hgi) (And.intro (@c2) (And.intro (@r3) (@c4))))))) ?_
            exact wnxtF (ih ⟨k + 1, by omega⟩) (@hf)
        · have r3 : decide (d.c = c.c) = false := decide_eq_false c3
          have hf := fin false (by rw [decide_eq_false c2, r3]; rfl)
          simp only [go_sem]
          refine wgoF (And.intro (@h1) (And.intro (@h2) (And.intro (@hgk) (And.intro (@hgi) (And.intro (@c2) (@r3)))))) ?_
          exact wnxtF (ih ⟨k + 1, by omega⟩) (@hf)
    · have h2 : ¬ (k : Int) < l.length := by omega
      have hka : cntTo l c k = fewRank l c := by rw [show k = l.length by omega]; exact cnt_all l c
      by_cases h8 : fewRank l c < 8
      · have h3 : (fewRank l c : Int) < 8 := by omega
        have hst := hin h8
        simp only [go_sem, hka]
        refine wgoF (And.intro (@h1) (And.intro (@h2) (And.intro (@h3) (@hgi)))) ?_
        (apply Run.retok 67 1003; (case hk => simp only [go_sem]; rfl); (case ht => simp only [go_sem]; rfl); (case ht' => simp only [go_sem]); (case hs => simp only [go_sem]; rfl))
        exact wnxtF (ih0 ⟨i + 1, by omega⟩) (And.intro (@hst) (@Ch.d.eq_1))
      · have h3 : ¬ (fewRank l c : Int) < 8 := by omega
        have hst := hout h8
        simp only [go_sem, hka]
        refine wgoF (And.intro (@h2) (@h3)) ?_
        exact wnxtF (ih0 ⟨i + 1, by omega⟩) (@hst)
  · have h1 : ¬ (i : Int) < l.length := by omega
    have hf : fewTo l i = fewF l := by unfold fewTo fewF; rw [List.take_of_length_le (by omega)]
    simp only [go_sem, hf]
    refine wgoF (@h1) ?_
    exact wret
theorem ar_get {A : List Ar} {i : Nat} (h : i < A.length) : (List.map Ar.d A).getD i .nilp = .agg [.int .u8 (A.getD i default).k, .int .i64 (A.getD i default).x0, .int .i64 (A.getD i default).y0, .int .i64 (A.getD i default).x1, .int .i64 (A.getD i default).y1] := by simp [h, Ar.d]
theorem ar_at {A : List Ar} (hA : arOk A) {i : Nat} (h : i < A.length) : (A.getD i default).ok := by
  have e : A.getD i default = A[i] := by simp [h]
  rw [e]; exact hA.2.1 _ (List.getElem_mem h)
theorem touch31 (b : Brd) (A : List Ar) (hbA : b.A = A.map Ar.d) (hza : A ≠ [] → b.za = 5) (tz : Nat) (T : List Tap) (p : Pt) (hA : arOk A) (hT : tpOk T) (hz : T ≠ [] → tz = 4) :
    PCall Tryz.prog 31 [b.d, .sl tz (T.map Tap.d), p.d] (.tup [slD (touchF A T p).1, .int .i64 (touchF A T p).2]) := by
  obtain ⟨za, bA, zt, bT, cs⟩ := b
  dsimp only at hbA hza
  subst hbA
  have hAl := hA.1
  have hin := inside66 p
  cases hp : p.inB with
  | false =>
    have hr : touchF A T p = ([], 1) := by unfold touchF; rw [if_pos hp]
    rw [hp] at hin
    refine enterP tabOk Tryz.func31 48 [0, 1, 2, 3, 5, 6, 7, 8, 9, 10, 13, 19, 31, 45] [.tmp 6, .tmp 7] rfl (r := [_, _]) rfl (h := ?_); intro E hK; simp only [go_sem]
    refine wgoF (And.intro (@Brd.d.eq_1) (@Pt.d.eq_1)) ?_
    refine wcallF (hin) (@Pt.d.eq_1) ?_
    refine wgo ?_
    exact wretF (And.intro (@hr) (@slD.eq_1))
  | true =>
    rw [hp] at hin
    have z0 : nearF [] T p = [] := rfl
    refine enterP tabOk Tryz.func31 48 [0, 1, 2, 3, 5, 6, 7, 8, 9, 10, 13, 19, 31, 45] [.tmp 6, .tmp 7] rfl (r := [_, _]) rfl (h := ?_); intro E hK; simp only [go_sem]
    refine wgoF (And.intro (@Brd.d.eq_1) (@Pt.d.eq_1)) ?_
    refine wcallF (hin) (@Pt.d.eq_1) ?_
    refine wgo ?_
    (apply Run.full 8 1008 62 2; (case hi => simp only [go_sem]; rfl); (case ht => simp only [go_sem]); (case hmn => first | exact Or.inl (by decide) | exact Or.inr rfl); (case hs => simp only [go_sem]; rfl))
    refine wlpF (Run.loopC (ι := { i : Nat // i ≤ A.length }) (U := fun i => [(8, .own 2 ((nearF (A.take i.1) T p).map Ch.d) (.tok 1008)), (9, .d (.int .i64 i.1))]) (O := fun i => []) (K := fun _ => [(1008, .live 62 2)]) (μ := fun i => A.length - i.1) (i0 := ⟨0, by omega⟩)) (@z0) ?_
    rintro ⟨i, hi⟩ ih
    by_cases hlt : i < A.length
    · have h1 : (i : Int) < A.length := by omega
      have hz5 := hza (fun e => by rw [e] at hlt; simp at hlt)
      subst hz5
      have hget := ar_get hlt
      have hnl := near_len (A.take i) T p
      rw [List.length_take] at hnl
      have hc := cost67 (A.getD i default) tz T p (ar_at hA hlt) hT hz hp
      have hst := near_snoc A T p hlt
      unfold touchC at hst
      generalize A.getD i default = a at hget hc hst
      by_cases hle : priceF a (shiftF T a.k) p ≤ 1000
      · rw [if_pos hle] at hst
        have hst2 : nearF (A.take (i + 1)) T p = nearF (A.take i) T p ++ [⟨a.k, priceF a (shiftF T a.k) p⟩] := hst
        simp only [go_sem]
        refine wgoF (And.intro (@h1) (@hget)) ?_
        refine wcallF (hc) (And.intro (@Ar.d.eq_1) (@Pt.d.eq_1)) ?_
        generalize priceF a (shiftF T a.k) p = w at hle hst2
        refine wgoF (And.intro (@hle) (@hget)) ?_
        (apply Run.retok 42 1008; (case hk => simp only [go_sem]; rfl); (case ht => simp only [go_sem]; rfl); (case ht' => simp only [go_sem]); (case hs => simp only [go_sem]; rfl))
        exact wnxtF (ih ⟨i + 1, by omega⟩) (And.intro (@hst2) (@Ch.d.eq_1))
      · rw [if_neg hle] at hst
        have hst2 : nearF (A.take (i + 1)) T p = nearF (A.take i) T p := by rw [hst]; simp
        simp only [go_sem]
        refine wgoF (And.intro (@h1) (@hget)) ?_
        refine wcallF (hc) (And.intro (@Ar.d.eq_1) (@Pt.d.eq_1)) ?_
        generalize priceF a (shiftF T a.k) p = w at hle hst2
        refine wgoF (@hle) ?_
        exact wnxtF (ih ⟨i + 1, by omega⟩) (@hst2)
    · have h1 : ¬ (i : Int) < A.length := by omega
      have hti : A.take i = A := List.take_of_length_le (by omega)
      have hnl := near_len A T p
      have hfb := few_best (near_sorted hA T p) (near_range hA T p)
      have hfw := few68 (nearF A T p) (by omega)
      rw [hfb] at hfw
      by_cases h0 : nearF A T p = []
      · have hr : touchF A T p = ([], 210) := by unfold touchF; rw [if_neg (by rw [hp]; simp), if_pos h0]
        have z1 : ((List.map Ch.d ([] : List Ch)).length : Int) = 0 := rfl
        simp only [go_sem, hti, h0]
        refine wgoF (And.intro (@h1) (@z1)) ?_
        exact wretF (And.intro (@hr) (@slD.eq_1))
      · have hr : touchF A T p = (bestF (nearF A T p), 0) := by unfold touchF; rw [if_neg (by rw [hp]; simp), if_neg h0]
        have h2 : ¬ ((nearF A T p).length : Int) = 0 := by
          have := List.length_pos_iff.2 h0
          omega
        simp only [go_sem, hti]
        generalize nearF A T p = S at hfw hr h2
        refine wgoF (And.intro (@h1) (@h2)) ?_
        refine wcall (hfw) ?_
        refine wgo ?_
        exact wretF (And.intro (@hr) (@slD.eq_1))
end Go.Proofs.YtojgjdcciojpeaaGreat
set_option linter.unusedSimpArgs false
set_option linter.unusedVariables false
namespace Go.Proofs.YtojgjdcciojpeaaGreat
open Go Go.RowKit Go.Sort Go.Shelf Go.Proofs Go.PS
set_option maxRecDepth 100000
set_option maxHeartbeats 4000000
def bySl1 : D := .sl 1 [.fn (.func 126) [] []]
def bySl2 : D := .sl 1 [.fn (.func 128) [] [], .fn (.func 126) [] []]
theorem order1 (l l0 : List Ch) (hl : l.length ≤ 100000) (hU : ∀ l' : List Ch, l'.Perm l → l'.Pairwise (fun a b => ltOf (fun x y : Ch => cmpI x.k y.k) b a = false) → l' = l0) :
    MCall Tryz.prog 130 [cPO l] [.hrow 5000 2 0 l.length l.length, .d bySl1] (.tup []) [cPO l0] := by
  have hs := sortM caps1 rfl (fun x y : Ch => cmpI x.k y.k) swoK (fun K w hK pv h blk hf off size => lays1 hK h hf off size) l l0 hl hU
  refine enterM tabOk Tryz.func130 7 [0, 1, 3] [] rfl (r := []) rfl (cPO_el l) (ids_one rfl) (h := ?_); intro E hK; simp only [go_sem]
  simp only [go_sem, cPO]
  refine woneF (@bySl1.eq_1) ?_
  (apply Run.freeze 3; (case ho => simp only [go_sem]; rfl); (case hes => simp only [go_sem]; rfl); (case hds => simp only [go_sem]); (case hsz => simp [D.cells]); (case hit => rfl); (case hs => simp only [go_sem]; rfl))
  refine wgo ?_
  refine wmcallF ([(5000, 5000)]) (cPO_el _) (hs) (And.intro (@fnD.eq_1) (And.intro (@caps1.eq_1) (And.intro (@cO.eq_1) (@cPO.eq_1)))) ?_
  refine wgo ?_
  exact wretF (@cPO.eq_1)
theorem order2 (l l0 : List Ch) (hl : l.length ≤ 100000) (hU : ∀ l' : List Ch, l'.Perm l → l'.Pairwise (fun a b => ltOf cmpL b a = false) → l' = l0) :
    MCall Tryz.prog 130 [cPO l] [.hrow 5000 2 0 l.length l.length, .d bySl2] (.tup []) [cPO l0] := by
  have hs := sortM caps2 rfl cmpL swoL (fun K w hK pv h blk hf off size => lays2 hK h hf off size) l l0 hl hU
  refine enterM tabOk Tryz.func130 7 [0, 1, 3] [] rfl (r := []) rfl (cPO_el l) (ids_one rfl) (h := ?_); intro E hK; simp only [go_sem]
  simp only [go_sem, cPO]
  refine woneF (@bySl2.eq_1) ?_
  (apply Run.freeze 3; (case ho => simp only [go_sem]; rfl); (case hes => simp only [go_sem]; rfl); (case hds => simp only [go_sem]); (case hsz => simp [D.cells]); (case hit => rfl); (case hs => simp only [go_sem]; rfl))
  refine wgo ?_
  refine wmcallF ([(5000, 5000)]) (cPO_el _) (hs) (And.intro (@fnD.eq_1) (And.intro (@caps2.eq_1) (And.intro (@cO.eq_1) (@cPO.eq_1)))) ?_
  refine wgo ?_
  exact wretF (@cPO.eq_1)
def shB (p : Pt) : Bool := [p.x, p.y].all sideB
theorem sh_in (p : Pt) : shB p = p.inB := by
  simp only [shB, List.all_cons, List.all_nil, sideB, Pt.inB, Bool.and_true]
  rw [← Bool.and_assoc]
theorem touch113 (b : Brd) (A : List Ar) (hbA : b.A = A.map Ar.d) (hza : A ≠ [] → b.za = 5) (tz : Nat) (T : List Tap) (p : Pt) (hA : arOk A) (hT : tpOk T) (hz : T ≠ [] → tz = 4) :
    PCall Tryz.prog 113 [b.d, .sl tz (T.map Tap.d), p.d] (.tup [slD (touchF A T p).1, .int .i64 (touchF A T p).2]) := by
  obtain ⟨za, bA, zt, bT, cs⟩ := b
  dsimp only at hbA hza
  subst hbA
  have hAl := hA.1
  have hin := coord123 [p.x, p.y] (by simp)
  have hin2 : [p.x, p.y].all sideB = p.inB := sh_in p
  rw [hin2] at hin
  cases hp : p.inB with
  | false =>
    have hr : touchF A T p = ([], 1) := by unfold touchF; rw [if_pos hp]
    rw [hp] at hin
    refine enterP tabOk Tryz.func113 63 [0, 1, 2, 3, 5, 6, 7, 8, 10, 11, 12, 13, 20, 22, 23, 24, 25, 36, 47, 50] [.tmp 6, .tmp 7] rfl (r := [_, _]) rfl (h := ?_); intro E hK; simp only [go_sem]
    refine wgoF (And.intro (@Brd.d.eq_1) (@Pt.d.eq_1)) ?_
    refine wcallF (hin) (@iD.eq_1) ?_
    refine wgo ?_
    exact wretF (And.intro (@hr) (@slD.eq_1))
  | true =>
    rw [hp] at hin
    have z0 : nearF [] T p = [] := rfl
    refine enterP tabOk Tryz.func113 63 [0, 1, 2, 3, 5, 6, 7, 8, 10, 11, 12, 13, 20, 22, 23, 24, 25, 36, 47, 50] [.tmp 6, .tmp 7] rfl (r := [_, _]) rfl (h := ?_); intro E hK; simp only [go_sem]
    refine wgoF (And.intro (@Brd.d.eq_1) (@Pt.d.eq_1)) ?_
    refine wcallF (hin) (@iD.eq_1) ?_
    refine wgo ?_
    (apply Run.full 8 1008 62 1000002; (case hi => simp only [go_sem]; rfl); (case ht => simp only [go_sem]); (case hmn => first | exact Or.inl (by decide) | exact Or.inr rfl); (case hs => simp only [go_sem]; rfl))
    refine wlpF (Run.loopC (ι := { i : Nat // i ≤ A.length }) (U := fun i => [(8, .own 2 ((nearF (A.take i.1) T p).map Ch.d) (.tok 1008)), (24, .d (.int .i64 i.1))]) (O := fun i => []) (K := fun _ => [(1008, .live 62 1000002)]) (μ := fun i => A.length - i.1) (i0 := ⟨0, by omega⟩)) (@z0) ?_
    rintro ⟨i, hi⟩ ih
    by_cases hlt : i < A.length
    · have h1 : (i : Int) < A.length := by omega
      have hz5 := hza (fun e => by rw [e] at hlt; simp at hlt)
      subst hz5
      have hget := ar_get hlt
      have hnl := near_len (A.take i) T p
      rw [List.length_take] at hnl
      have hsh := shift125 tz T (A.getD i default).k hT hz
      have hc := price124 (A.getD i default) (shiftF T (A.getD i default).k) p (ar_at hA hlt) (shift_in hT _) hp
      have hst := near_snoc A T p hlt
      unfold touchC at hst
      generalize A.getD i default = a at hget hc hst hsh
      by_cases hle : priceF a (shiftF T a.k) p ≤ 1000
      · rw [if_pos hle] at hst
        have hst2 : nearF (A.take (i + 1)) T p = nearF (A.take i) T p ++ [⟨a.k, priceF a (shiftF T a.k) p⟩] := hst
        generalize priceF a (shiftF T a.k) p = w at hle hst2 hc
        generalize shiftF T a.k = s at hsh hc
        simp only [go_sem]
        refine wgoF (And.intro (@h1) (@hget)) ?_
        refine wcall (hsh) ?_
        refine wgoF (@Pt.d.eq_1) ?_
        refine wcallF (hc) (And.intro (@Ar.d.eq_1) (@Pt.d.eq_1)) ?_
        refine wgoF (And.intro (@hle) (@hget)) ?_
        (apply Run.retok 43 1008; (case hk => simp only [go_sem]; rfl); (case ht => simp only [go_sem]; rfl); (case ht' => simp only [go_sem]); (case hs => simp only [go_sem]; rfl))
        exact wnxtF (ih ⟨i + 1, by omega⟩) (And.intro (@hst2) (@Ch.d.eq_1))
      · rw [if_neg hle] at hst
        have hst2 : nearF (A.take (i + 1)) T p = nearF (A.take i) T p := by rw [hst]; simp
        generalize priceF a (shiftF T a.k) p = w at hle hst2 hc
        generalize shiftF T a.k = s at hsh hc
        simp only [go_sem]
        refine wgoF (And.intro (@h1) (@hget)) ?_
        refine wcall (hsh) ?_
        refine wgoF (@Pt.d.eq_1) ?_
        refine wcallF (hc) (And.intro (@Ar.d.eq_1) (@Pt.d.eq_1)) ?_
        refine wgoF (@hle) ?_
        exact wnxtF (ih ⟨i + 1, by omega⟩) (@hst2)
    · have h1 : ¬ (i : Int) < A.length := by omega
      have hti : A.take i = A := List.take_of_length_le (by omega)
      have hnl := near_len A T p
      have hns := near_sorted hA T p
      have hnr := near_range hA T p
      by_cases h0 : nearF A T p = []
      · have hr : touchF A T p = ([], 210) := by unfold touchF; rw [if_neg (by rw [hp]; simp), if_pos h0]
        have z1 : ((List.map Ch.d ([] : List Ch)).length : Int) = 0 := rfl
        simp only [go_sem, hti, h0]
        refine wgoF (And.intro (@h1) (@z1)) ?_
        exact wretF (And.intro (@hr) (@slD.eq_1))
      · have hr : touchF A T p = (bestF (nearF A T p), 0) := by unfold touchF; rw [if_neg (by rw [hp]; simp), if_neg h0]
        have h2 : ¬ ((nearF A T p).length : Int) = 0 := by
          have := List.length_pos_iff.2 h0
          omega
        simp only [go_sem, hti]
        generalize nearF A T p = S at h0 hr h2 hnl hns hnr
        have hxs : S.map Ch.d ≠ [] := fun h => h0 (by simpa using h)
        have hdry : ∀ x ∈ S.map Ch.d, x.cells.all D.dry = true := fun x hx => by
          obtain ⟨c, _, rfl⟩ := List.mem_map.1 hx
          rfl
        by_cases h8 : S.length ≤ 8
        · have h3 : ¬ (8 : Int) < (S.length : Int) := by omega
          have hb : bestF S = S := by unfold bestF; rw [if_pos h8]
          have m1 := order1 S S (by omega) (fun l' hp' hs' => uniqueK (List.Perm.refl _) hns l' hp' hs')
          rw [hb] at hr
          (apply Run.thaw 8 1008 200 (hxs := hxs) (hdry := hdry); (case hi => simp only [go_sem]; rfl); (case ht => simp only [go_sem]; rfl); (case hls => decide); (case hsz => rfl); (case hid => decide); (case hob => simp only [go_sem]); (case he => rfl); (case hs => simp only [go_sem]; rfl))
          refine wgoF (And.intro (@h1) (And.intro (@h2) (@h3))) ?_
          refine wmcallF ([(5000, 200)]) (cPO_el _) (m1) (And.intro (@bySl1.eq_1) (And.intro (@cO.eq_1) (@cPO.eq_1))) ?_
          (refine ROps.nil ?_; simp only [go_sem, cO, cPO, chE_len])
          (apply Run.freezeRow 200; (case ho => simp only [go_sem]; rfl); (case hsz => intro e he; obtain ⟨x, _, rfl⟩ := List.mem_map.1 he; rfl); (case hit => rfl); (case hs => simp only [go_sem]; rfl))
          have he0 : S.length ≤ S.length := Nat.le_refl _
          have he2 : List.take S.length (List.map Ch.d S) = List.map Ch.d S := List.take_of_length_le (by simp)
          refine wgoF (And.intro (@he0) (@he2)) ?_
          exact wretF (And.intro (@hr) (@slD.eq_1))
        · have h3 : (8 : Int) < (S.length : Int) := by omega
          have m2 := order2 S (lexS S) (by omega) (fun l' hp' hs' => uniqueL (lexS_perm S) (lexS_order hns hnr) l' hp' hs')
          have hil := (lexS_perm S).length_eq
          have hbp := best_perm8 h8
          generalize lexS S = q at m2 hil hbp
          have hq8 : (q.take 8).length = 8 := by simp; omega
          have m1 := order1 (q.take 8) (bestF S) (by omega) (fun l' hp' hs' => uniqueK hbp (best_sorted hns hnr) l' hp' hs')
          rw [hq8] at m1
          have hl9 := hbp.length_eq
          rw [hq8] at hl9
          have he1 : 8 ≤ (bestF S).length := by omega
          have htk : List.take 8 (List.map PV.ofD.PV.ofD1 (List.map Ch.d q)) = List.map PV.ofD.PV.ofD1 (List.map Ch.d (q.take 8)) := by rw [← List.map_take, ← List.map_take]
          have he2 : List.take 8 (List.map Ch.d (bestF S)) = List.map Ch.d (bestF S) := List.take_of_length_le (by simp; omega)
          (apply Run.thaw 8 1008 200 (hxs := hxs) (hdry := hdry); (case hi => simp only [go_sem]; rfl); (case ht => simp only [go_sem]; rfl); (case hls => decide); (case hsz => rfl); (case hid => decide); (case hob => simp only [go_sem]); (case he => rfl); (case hs => simp only [go_sem]; rfl))
          refine wgoF (And.intro (@h1) (And.intro (@h2) (@h3))) ?_
          refine wmcallF ([(5000, 200)]) (cPO_el _) (m2) (And.intro (@bySl2.eq_1) (And.intro (@cO.eq_1) (@cPO.eq_1))) ?_
          (refine ROps.nil ?_; simp only [go_sem, cO, cPO, chE_len])
          refine wone ?_
          (apply Run.trunc 200 8; (case ho => simp only [go_sem]; rfl); (case hty => rfl); (case hs => simp only [go_sem]; rfl))
          simp only [go_sem, htk]
          refine wgo ?_
          refine wmcallF ([(5000, 200)]) (cPO_el _) (m1) (And.intro (@bySl1.eq_1) (And.intro (@cO.eq_1) (@cPO.eq_1))) ?_
          (refine ROps.nil ?_; simp only [go_sem, cO, cPO, chE_len])
          (apply Run.freezeRow 200; (case ho => simp only [go_sem]; rfl); (case hsz => intro e he; obtain ⟨x, _, rfl⟩ := List.mem_map.1 he; rfl); (case hit => rfl); (case hs => simp only [go_sem]; rfl))
          refine wgoF (And.intro (@he1) (@he2)) ?_
          exact wretF (And.intro (@hr) (@slD.eq_1))
end Go.Proofs.YtojgjdcciojpeaaGreat

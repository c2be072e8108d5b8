/-
  The eight cheapest choices are those that are cheaper, or earlier, than all but seven: in plain terms.
-/
import Derived.Test.YtpdkccbongnboaaP4
import Derived.Test.YtpdkccbongnboaaP5
set_option linter.unusedSimpArgs false
set_option linter.unusedVariables false
namespace Go.Proofs.Ytpdkccbongnboaa
open Go Go.PS

theorem eq_of_mem {l l' : List Ch} (h1 : l.Pairwise (fun a b => a.k < b.k)) (h2 : l'.Pairwise (fun a b => a.k < b.k)) (h : ∀ c, c ∈ l ↔ c ∈ l') : l = l' := by
  have n1 : l.Nodup := h1.imp fun {a b} hab e => by rw [e] at hab; omega
  have n2 : l'.Nodup := h2.imp fun {a b} hab e => by rw [e] at hab; omega
  exact List.Perm.eq_of_pairwise (le := fun a b : Ch => a.k < b.k) (fun a b _ _ h3 h4 => by omega) h1 h2 ((List.perm_ext_iff_of_nodup n1 n2).2 h)
theorem mem_take_key {α : Type} (key : α → Int) (c : α) : ∀ (l : List α) (n : Nat), l.Pairwise (fun a b => key a < key b) → (c ∈ l.take n ↔ c ∈ l ∧ l.countP (fun d => decide (key d < key c)) < n)
  | [], n, _ => by simp
  | x :: l, 0, _ => by simp
  | x :: l, n + 1, h => by
    obtain ⟨h1, h2⟩ := List.pairwise_cons.1 h
    have ih := mem_take_key key c l n h2
    rw [List.take_succ_cons, List.mem_cons, List.mem_cons, ih, List.countP_cons]
    constructor
    · rintro (rfl | ⟨hc, hn⟩)
      · refine ⟨.inl rfl, ?_⟩
        have h0 : l.countP (fun d => decide (key d < key c)) = 0 := List.countP_eq_zero.2 fun a ha => by
          have := h1 a ha
          simp; omega
        rw [h0]; simp
      · refine ⟨.inr hc, ?_⟩
        split <;> omega
    · rintro ⟨rfl | hc, hn⟩
      · exact .inl rfl
      · right
        have h3 := h1 c hc
        rw [if_pos (by simpa using h3)] at hn
        exact ⟨hc, by omega⟩
theorem slot_keys (m : List Ch) : (slotF m).map (·.k) = sortK (m.map (·.k)) := by
  unfold slotF
  rw [List.map_map]
  exact List.map_id _
theorem slot_sorted {m : List Ch} (h : (m.map (·.k)).Nodup) : (slotF m).Pairwise (fun a b => a.k < b.k) := by
  have h1 := sortK_sorted (m.map (·.k))
  have h2 : (sortK (m.map (·.k))).Nodup := (sortK_perm _).nodup_iff.2 h
  have h3 : (sortK (m.map (·.k))).Pairwise (fun a b => a < b) := (h1.and h2).imp fun {a b} hab => by
    have := hab.2
    have := hab.1
    omega
  rw [← slot_keys] at h3
  exact List.pairwise_map.1 h3
theorem lex_inj {a b : Ch} (ha : 0 ≤ a.k ∧ a.k ≤ 255) (hb : 0 ≤ b.k ∧ b.k ≤ 255) (h : lexK a = lexK b) : a = b := by
  unfold lexK at h
  cases a; cases b
  simp only [Ch.mk.injEq] at *
  omega
/-- What the sort by cost and letter leaves: it increases. -/
theorem lex_sorted {S : List Ch} (hp : S.Pairwise (fun a b => a.k < b.k)) (h : ∀ x ∈ S, 0 ≤ x.k ∧ x.k ≤ 255) : (isort (ltK (·.c)) S.length S 1).Pairwise (fun a b => lexK a < lexK b) := by
  rw [isort_lex hp h]
  have h1 := isort_sorted lexK S
  have hpm := isort_perm (ltK lexK) S
  have n1 : S.Nodup := hp.imp fun {a b} hab e => by rw [e] at hab; omega
  have h2 : (isort (ltK lexK) S.length S 1).Nodup := hpm.nodup_iff.2 n1
  refine (h1.and h2).imp_of_mem fun {a b} ha hb hab => ?_
  have e1 := h a (hpm.mem_iff.1 ha)
  have e2 := h b (hpm.mem_iff.1 hb)
  have h3 : lexK a ≠ lexK b := fun e => hab.2 (lex_inj e1 e2 e)
  have := hab.1
  omega
theorem best_mem {S : List Ch} (hp : S.Pairwise (fun a b => a.k < b.k)) (h : ∀ x ∈ S, 0 ≤ x.k ∧ x.k ≤ 255) (c : Ch) : c ∈ bestF S ↔ c ∈ S ∧ S.countP (fun d => decide (lexK d < lexK c)) < 8 := by
  unfold bestF
  by_cases h8 : S.length ≤ 8
  · rw [if_pos h8]
    refine ⟨fun hc => ⟨hc, ?_⟩, fun hc => hc.1⟩
    obtain ⟨a, b, rfl⟩ := List.append_of_mem hc
    rw [List.countP_append, List.countP_cons]
    have h1 := List.countP_le_length (p := fun d => decide (lexK d < lexK c)) (l := a)
    have h2 := List.countP_le_length (p := fun d => decide (lexK d < lexK c)) (l := b)
    rw [List.length_append, List.length_cons] at h8
    rw [if_neg (by simp)]
    omega
  · rw [if_neg h8]
    have hs := lex_sorted hp h
    have hpm := isort_perm (ltK (·.c)) S
    generalize isort (ltK (·.c)) S.length S 1 = Q at hs hpm
    have hq8 : (Q.take 8).length = 8 := by
      have := hpm.length_eq
      simp; omega
    have hpm2 := isort_perm (ltK (·.k)) (Q.take 8)
    rw [hq8] at hpm2
    rw [hpm2.mem_iff, mem_take_key lexK c Q 8 hs, hpm.mem_iff, hpm.countP_eq]
theorem best_sorted {S : List Ch} (hp : S.Pairwise (fun a b => a.k < b.k)) (h : ∀ x ∈ S, 0 ≤ x.k ∧ x.k ≤ 255) : (bestF S).Pairwise (fun a b => a.k < b.k) := by
  unfold bestF
  by_cases h8 : S.length ≤ 8
  · rw [if_pos h8]; exact hp
  · rw [if_neg h8]
    have hpm := isort_perm (ltK (·.c)) S
    generalize isort (ltK (·.c)) S.length S 1 = Q at hpm
    have hq8 : (Q.take 8).length = 8 := by
      have := hpm.length_eq
      simp; omega
    have h1 := isort_sorted (·.k) (Q.take 8)
    have hpm2 := isort_perm (ltK (·.k)) (Q.take 8)
    rw [hq8] at hpm2 h1
    have n1 : (S.map (·.k)).Nodup := (List.pairwise_map.2 hp).imp fun {a b} hab e => by omega
    have n2 : (Q.map (·.k)).Nodup := (hpm.map _).nodup_iff.2 n1
    have n3 : ((Q.take 8).map (·.k)).Nodup := n2.sublist ((List.take_sublist 8 Q).map _)
    have n4 : ((isort (ltK (·.k)) 8 (Q.take 8) 1).map (·.k)).Nodup := (hpm2.map _).nodup_iff.2 n3
    refine (h1.and (List.pairwise_map.1 n4)).imp fun {a b} hab => ?_
    have := hab.1
    have := hab.2
    omega
theorem best_len (S : List Ch) : (bestF S).length = min S.length 8 := by
  unfold bestF
  by_cases h8 : S.length ≤ 8
  · rw [if_pos h8]; omega
  · rw [if_neg h8]
    have hq8 : ((isort (ltK (·.c)) S.length S 1).take 8).length = 8 := by
      have := (isort_perm (ltK (·.c)) S).length_eq
      simp; omega
    have := (isort_perm (ltK (·.k)) ((isort (ltK (·.c)) S.length S 1).take 8)).length_eq
    rw [hq8] at this
    rw [this]; omega
/-- A choice that is left out is not cheaper. -/
theorem best_out {S : List Ch} (hp : S.Pairwise (fun a b => a.k < b.k)) (h : ∀ x ∈ S, 0 ≤ x.k ∧ x.k ≤ 255) {b c : Ch} (hb : b ∈ S) (hnb : b ∉ bestF S) (hc : c ∈ bestF S) : c.c ≤ b.c := by
  rw [best_mem hp h] at hnb hc
  have h1 : ¬ S.countP (fun d => decide (lexK d < lexK b)) < 8 := fun e => hnb ⟨hb, e⟩
  by_cases hl : lexK b < lexK c
  · have h2 : S.countP (fun d => decide (lexK d < lexK b)) ≤ S.countP (fun d => decide (lexK d < lexK c)) := List.countP_mono_left fun x _ hx => by
      simp only [decide_eq_true_eq] at hx ⊢; omega
    omega
  · have e1 := h b hb
    have e2 := h c hc.1
    unfold lexK at hl
    omega

/-! The reference's way. -/
def costL (p : List Pt) (T : List Tpl) : List Int := (List.range 26).map fun i : Nat => (bestO p T (97 + (i : Int))).getD (-1)
def lessB (L : List Int) (a j : Nat) : Bool := decide (0 ≤ L.getD j 0) && (decide (L.getD j 0 < L.getD a 0) || (decide (L.getD j 0 = L.getD a 0) && decide (j < a)))
def rankF (L : List Int) (a : Nat) : Nat := (List.range L.length).countP (lessB L a)
def goodB (L : List Int) (i : Nat) : Bool := decide (0 ≤ L.getD i 0) && decide (rankF L i < 8)
def mkC (L : List Int) (i : Nat) : Ch := ⟨97 + i, L.getD i 0⟩
def refM (L : List Int) : List Ch := ((List.range 26).filter (goodB L)).map (mkC L)
theorem costL_get (p : List Pt) (T : List Tpl) {i : Nat} (h : i < 26) : (costL p T).getD i 0 = (bestO p T (97 + (i : Int))).getD (-1) := by simp [costL, h]
theorem costL_len (p : List Pt) (T : List Tpl) : (costL p T).length = 26 := by simp [costL]
theorem costL_nn (p : List Pt) (T : List Tpl) {i : Nat} (h : i < 26) (v : Int) : (0 ≤ (costL p T).getD i 0 ∧ (costL p T).getD i 0 = v) ↔ bestO p T (97 + (i : Int)) = some v := by
  rw [costL_get p T h]
  cases hb : bestO p T (97 + (i : Int)) with
  | none => simp
  | some u =>
    have := best_bd p T _ u hb
    simp only [Option.getD_some, Option.some.injEq]
    omega
theorem mk_sorted (L : List Int) (q : Nat → Bool) : (((List.range 26).filter q).map (mkC L)).Pairwise (fun a b => a.k < b.k) := by
  refine List.pairwise_map.2 ((List.pairwise_lt_range.filter q).imp fun {a b} hab => ?_)
  simp only [mkC]; omega
theorem best_key {p : List Pt} {T : List Tpl} {k : Int} {v : Int} (h : bestO p T k = some v) : ∃ t ∈ T, t.key = k := by
  have h1 : k ∈ (costsF p T).map (·.k) := (mem_best p T k).2 (by rw [h]; simp)
  exact (costs_keys p (fun k => ∃ t ∈ T, t.key = k) T [] ⟨by simp, by simp⟩ (fun t ht => ⟨t, ht, rfl⟩)).2 k h1
/-- All letters with their costs. -/
theorem slot_all {p : List Pt} {k : Int} {T : List Tpl} (hT : TB k T) (hk : k ≤ 26) : slotF (costsF p T) = ((List.range 26).filter (fun i => decide (0 ≤ (costL p T).getD i 0))).map (mkC (costL p T)) := by
  refine eq_of_mem (slot_sorted (costs_nodup p T)) (mk_sorted _ _) fun c => ?_
  rw [slot_best, List.mem_map]
  constructor
  · intro h
    obtain ⟨t, ht, hkey⟩ := best_key h
    have h1 := (hT t ht).1
    rw [hkey] at h1
    have e : (97 : Int) + ((c.k - 97).toNat : Int) = c.k := by omega
    have h2 := (costL_nn p T (i := (c.k - 97).toNat) (by omega) c.c).2 (by rw [e]; exact h)
    refine ⟨(c.k - 97).toNat, ?_, ?_⟩
    · rw [List.mem_filter, List.mem_range]
      exact ⟨by omega, decide_eq_true h2.1⟩
    · cases c
      simp only [mkC, Ch.mk.injEq]
      exact ⟨e, h2.2⟩
  · rintro ⟨i, hi, rfl⟩
    rw [List.mem_filter, List.mem_range] at hi
    exact (costL_nn p T hi.1 _).1 ⟨of_decide_eq_true hi.2, rfl⟩
theorem slot_range {p : List Pt} {k : Int} {T : List Tpl} (hT : TB k T) (hk : k ≤ 26) : ∀ x ∈ slotF (costsF p T), 0 ≤ x.k ∧ x.k ≤ 255 := by
  intro x hx
  rw [slot_best] at hx
  obtain ⟨t, ht, hkey⟩ := best_key hx
  have h1 := (hT t ht).1
  omega
theorem rank_count {p : List Pt} {k : Int} {T : List Tpl} (hT : TB k T) (hk : k ≤ 26) {i : Nat} (hi : i < 26) : (slotF (costsF p T)).countP (fun d => decide (lexK d < lexK (mkC (costL p T) i))) = rankF (costL p T) i := by
  rw [slot_all hT hk, List.countP_map, List.countP_filter]
  unfold rankF
  rw [costL_len]
  refine List.countP_congr fun j hj => ?_
  rw [List.mem_range] at hj
  have e1 : lexK (mkC (costL p T) j) = (costL p T).getD j 0 * 256 + (97 + (j : Int)) := rfl
  have e2 : lexK (mkC (costL p T) i) = (costL p T).getD i 0 * 256 + (97 + (i : Int)) := rfl
  simp only [Function.comp, lessB, Bool.and_eq_true, Bool.or_eq_true, decide_eq_true_eq]
  rw [e1, e2]
  omega
/-- The reference's choices are the program's. -/
theorem ref_eq {p : List Pt} {k : Int} {T : List Tpl} (hT : TB k T) (hk : k ≤ 26) : refM (costL p T) = bestF (slotF (costsF p T)) := by
  have hp := slot_sorted (costs_nodup p T)
  have hr := slot_range (p := p) hT hk
  refine eq_of_mem (mk_sorted _ _) (best_sorted hp hr) fun c => ?_
  rw [best_mem hp hr, refM, List.mem_map]
  constructor
  · rintro ⟨i, hi, rfl⟩
    rw [List.mem_filter, List.mem_range] at hi
    obtain ⟨hi, hg⟩ := hi
    simp only [goodB, Bool.and_eq_true, decide_eq_true_eq] at hg
    refine ⟨?_, by rw [rank_count hT hk hi]; exact hg.2⟩
    rw [slot_best]
    exact (costL_nn p T hi _).1 ⟨hg.1, rfl⟩
  · rintro ⟨h1, h2⟩
    rw [slot_all hT hk, List.mem_map] at h1
    obtain ⟨i, hi, rfl⟩ := h1
    rw [List.mem_filter, List.mem_range] at hi
    rw [rank_count hT hk hi.1] at h2
    refine ⟨i, ?_, rfl⟩
    rw [List.mem_filter, List.mem_range]
    exact ⟨hi.1, by simp only [goodB, Bool.and_eq_true, decide_eq_true_eq]; exact ⟨of_decide_eq_true hi.2, h2⟩⟩
end Go.Proofs.Ytpdkccbongnboaa

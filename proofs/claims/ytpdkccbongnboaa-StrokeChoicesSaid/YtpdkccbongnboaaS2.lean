/-
  A part of the walks of this seat: each theorem says what a function of the program gives. No condition beyond its own premises.
-/
import Derived.Test.YtpdkccbongnboaaS1
set_option linter.unusedSimpArgs false
set_option linter.unusedVariables false
namespace Go.Proofs.Ytpdkccbongnboaa
open Go Go.PS
set_option maxRecDepth 100000
/-- The least sum of a walk to i and j. -/
def W (g : Nat → Nat → Int) : Nat → Nat → Int
  | 0, 0 => g 0 0
  | 0, j + 1 => W g 0 j + g 0 (j + 1)
  | i + 1, 0 => W g i 0 + g (i + 1) 0
  | i + 1, j + 1 => min (W g i j) (min (W g i (j + 1)) (W g (i + 1) j)) + g (i + 1) (j + 1)
termination_by i j => i + j
def gp (a b : List Pt) (i j : Nat) : Int := gap (a.getD i default) (b.getD j default)
def dist (a b : List Pt) : Int := W (gp a b) (a.length - 1) (b.length - 1)

theorem W_bound {g : Nat → Nat → Int} {B : Int} (h : ∀ i j, 0 ≤ g i j ∧ g i j ≤ B) : ∀ (n i j : Nat), i + j = n → 0 ≤ W g i j ∧ W g i j ≤ (n + 1) * B := by
  intro n
  induction n using Nat.strongRecOn with
  | _ n ih =>
  intro i j hn
  have hg := h i j
  have step : ∀ (m : Nat) (x : Int), m + 1 = n → 0 ≤ x → x ≤ ((m : Int) + 1) * B → 0 ≤ x + g i j ∧ x + g i j ≤ ((n : Int) + 1) * B := by
    intro m x hm h1 h2
    have : ((n : Int) + 1) * B = ((m : Int) + 1) * B + B := by
      rw [← hm]; push_cast; rw [Int.add_mul ((m : Int) + 1) 1 B]; omega
    omega
  match i, j with
  | 0, 0 =>
    subst hn
    rw [W]; simp; omega
  | 0, j + 1 =>
    rw [W]
    obtain ⟨h1, h2⟩ := ih (0 + j) (by omega) 0 j rfl
    exact step (0 + j) _ (by omega) h1 h2
  | i + 1, 0 =>
    rw [W]
    obtain ⟨h1, h2⟩ := ih (i + 0) (by omega) i 0 rfl
    exact step (i + 0) _ (by omega) h1 h2
  | i + 1, j + 1 =>
    rw [W]
    obtain ⟨h1, h2⟩ := ih (i + (j + 1)) (by omega) i (j + 1) rfl
    obtain ⟨h3, h4⟩ := ih (i + 1 + j) (by omega) (i + 1) j rfl
    obtain ⟨h5, h6⟩ := ih (i + j) (by omega) i j rfl
    refine step (i + (j + 1)) _ (by omega) ?_ ?_
    · omega
    · exact Int.le_trans (Int.min_le_right _ _) (Int.le_trans (Int.min_le_left _ _) h2)

def okL (l : List Pt) : Prop := ∀ p ∈ l, p.ok
theorem ok_default : (default : Pt).ok := by unfold Pt.ok; decide
theorem okL_getD {l : List Pt} (h : okL l) (i : Nat) : (l.getD i default).ok := by
  by_cases hi : i < l.length
  · have e : l.getD i default = l[i] := by simp [hi]
    rw [e]; exact h _ (List.getElem_mem hi)
  · have e : l.getD i default = default := by simp [hi]
    rw [e]; exact ok_default
theorem gap_bound {p q : Pt} (hp : p.ok) (hq : q.ok) : 0 ≤ gap p q ∧ gap p q ≤ 400000 := by
  obtain ⟨p1, p2, p3, p4⟩ := hp
  obtain ⟨q1, q2, q3, q4⟩ := hq
  unfold gap; omega
theorem Wg_bound {a b : List Pt} (ha : okL a) (hb : okL b) {i j : Nat} (hi : i ≤ 2000) (hj : j ≤ 2000) : 0 ≤ W (gp a b) i j ∧ W (gp a b) i j ≤ 10000000000 := by
  obtain ⟨h1, h2⟩ := W_bound (g := gp a b) (B := 400000) (fun i j => gap_bound (okL_getD ha i) (okL_getD hb j)) (i + j) i j rfl
  refine ⟨h1, Int.le_trans h2 ?_⟩
  omega

def rO (l : List Int) : OB := ⟨3, 1, rI l⟩
def pO (p : Pt) : OB := ⟨46, 2, [.agg [.d (.int .i64 p.x), .d (.int .i64 p.y)]]⟩
def pL (l : List Pt) : PV := .d (.sl 2 (l.map Pt.d))
theorem pt_get {l : List Pt} {i : Nat} (h : i < l.length) : (List.map Pt.d l).getD i .nilp = .agg [.int .i64 (l.getD i default).x, .int .i64 (l.getD i default).y] := by simp [h, Pt.d]

def RowAt (g : Nat → Nat → Int) (i m : Nat) (r : List Int) : Prop := r.length = m ∧ ∀ k, k < m → r.getD k 0 = W g i k
def outerH (a b : List Pt) (i : Nat) (r z : List Int) : SL :=
  SL.mk [(1, pL b), (5, .hrow 22 1 0 b.length b.length), (6, .hrow 25 1 0 b.length b.length), (26, pL a), (27, .d (.int .i64 a.length)), (28, .d (.int .i64 i))] [(22, some (rO r)), (25, some (rO z))] []
def innerH (a b : List Pt) (i : Nat) (r z : List Int) (j : Nat) : SL :=
  SL.mk [(1, pL b), (5, .hrow 22 1 0 b.length b.length), (6, .hrow 25 1 0 b.length b.length), (7, .d (.int .i64 i)), (8, .hp 8 0 0), (26, pL a), (27, .d (.int .i64 a.length)), (28, .d (.int .i64 i)), (33, pL b), (34, .d (.int .i64 b.length)), (35, .d (.int .i64 j))]
    [(8, some (pO (a.getD i default))), (22, some (rO r)), (25, some (rO z))] []
theorem least3 (x y z : Int) : leastI x [y, z] = min x (min y z) := by
  simp only [leastI]; split <;> split <;> omega

theorem setI {z : List Int} {j : Nat} (v : Int) (k : Nat) (h : j < z.length) : (z.set j v).getD k 0 = if k = j then v else z.getD k 0 := by
  simp only [List.getD, List.getElem?_set]
  by_cases hk : j = k
  · subst hk; simp [h]
  · rw [if_neg hk, if_neg (Ne.symm hk)]

set_option maxHeartbeats 2000000 in
theorem dist15 (a b : List Pt) (ha : okL a) (hb : okL b) (la : a.length ≤ 1000) (lb : b.length ≤ 1000) (na : 0 < a.length) (nb : 0 < b.length) :
    PCall Try.prog 15 [.sl 2 (a.map Pt.d), .sl 2 (b.map Pt.d)] (.int .i64 (dist a b)) := by
  have hna : ¬ ((a.length : Int) = 0) := by omega
  have hnb : ¬ ((b.length : Int) = 0) := by omega
  refine pcall_run (f := 15) (r := [_]) Try.func15 rfl rfl (by first | decide | simp [Try.f15]) (by first | decide | simp [Try.f15]) fun E hE hP => ?_; replace hE : E.n = 96 := hE; simp only [go_sem, hE, Pt.d, outerH, innerH, rO, pO, pL, hE]
  repeat (first | refine run_seq ?_ | refine run_block ?_ | refine run_skip ?_ | refine run_inBlock ?_ | refine run_exit rfl ?_ | refine run_region' [0, 1, 4, 5, 6, 7, 8, 9, 10, 11, 19, 26, 27, 28, 29, 33, 34, 35, 36, 40, 63, 70] tabOk rfl ?_ | refine run_region_draw' [0, 1, 4, 5, 6, 7, 8, 9, 10, 11, 19, 26, 27, 28, 29, 33, 34, 35, 36, 40, 63, 70] tabOk rfl rfl (by kernel_rfl) (by simp only [go_sem, hE, Pt.d, outerH, innerH, rO, pO, pL, hna, hnb]) ?_ | (refine ROps.nil ?_; simp only [go_sem, hE, Pt.d, outerH, innerH, rO, pO, pL, hna, hnb]) | (apply rops_ev; (case hg => simp only [go_sem, hE, Pt.d, outerH, innerH, rO, pO, pL, hna, hnb]); (case he => simp only [go_sem, hE, Pt.d, outerH, innerH, rO, pO, pL, hna, hnb]; first | exact ⟨rfl, rfl⟩ | rfl); (case hc => (first | (simp only [go_sem, hE, Pt.d, outerH, innerH, rO, pO, pL, hna, hnb, decide_eq_true_eq]; done) | (simp only [go_sem, hE, Pt.d, outerH, innerH, rO, pO, pL, hna, hnb, inR_i64, inR_u8, inR_i32, Bool.and_eq_true, decide_eq_true_eq]; first | omega | (simp only [decide_eq_true_eq]; omega))))) | (apply rops_skip'; (case hg => simp only [go_sem, hE, Pt.d, outerH, innerH, rO, pO, pL, hna, hnb]); (case hd => simp only [go_sem, hE, Pt.d, outerH, innerH, rO, pO, pL, hna, hnb]); (case hs => simp only [go_sem, hE, Pt.d, outerH, innerH, rO, pO, pL, hna, hnb]; rfl)) | refine run_cond (t := true) (by first | rfl | (simp only [go_sem, hE, Pt.d, outerH, innerH, rO, pO, pL, hna, hnb]; rfl)) (fun _ => ?_) (fun h => by cases h) | refine run_cond (t := false) (by first | rfl | (simp only [go_sem, hE, Pt.d, outerH, innerH, rO, pO, pL, hna, hnb]; rfl)) (fun h => by cases h) (fun _ => ?_))
  apply Run.loop (ι := { x : Nat × List Int × List Int // x.1 ≤ a.length ∧ x.2.1.length = b.length ∧ x.2.2.length = b.length ∧ ∀ i', x.1 = i' + 1 → RowAt (gp a b) i' b.length x.2.1 })
    (H := fun i => outerH a b i.1.1 i.1.2.1 i.1.2.2) (μ := fun i => a.length - i.1.1) (i0 := ⟨(0, List.replicate b.length 0, List.replicate b.length 0), by omega, by simp, by simp, by omega⟩)
  (case htk => simp only [go_sem, hE, Pt.d, outerH, innerH, rO, pO, pL]); (case hob => simp only [go_sem, hE, Pt.d, outerH, innerH, rO, pO, pL]); (case htm => ((try (simp only [go_sem, hE, Pt.d, outerH, innerH, rO, pO, pL])); (try ((repeat' apply And.intro) <;> first | rfl | omega | skip))))
  rintro ⟨⟨i, r, z⟩, hi, hr, hz, hrow⟩ ih0
  dsimp only at hi hr hz hrow
  by_cases hlt : i < a.length
  · have h1 : (i : Int) < a.length := by omega
    have hga := pt_get hlt
    simp only [go_sem, hE, Pt.d, outerH, innerH, rO, pO, pL]
    repeat (first | refine run_seq ?_ | refine run_block ?_ | refine run_skip ?_ | refine run_inBlock ?_ | refine run_exit rfl ?_ | refine run_region' [0, 1, 4, 5, 6, 7, 8, 9, 10, 11, 19, 26, 27, 28, 29, 33, 34, 35, 36, 40, 63, 70] tabOk rfl ?_ | refine run_region_draw' [0, 1, 4, 5, 6, 7, 8, 9, 10, 11, 19, 26, 27, 28, 29, 33, 34, 35, 36, 40, 63, 70] tabOk rfl rfl (by kernel_rfl) (by simp only [go_sem, hE, Pt.d, outerH, innerH, rO, pO, pL, h1, hga]) ?_ | (refine ROps.nil ?_; simp only [go_sem, hE, Pt.d, outerH, innerH, rO, pO, pL, h1, hga]) | (apply rops_ev; (case hg => simp only [go_sem, hE, Pt.d, outerH, innerH, rO, pO, pL, h1, hga]); (case he => simp only [go_sem, hE, Pt.d, outerH, innerH, rO, pO, pL, h1, hga]; first | exact ⟨rfl, rfl⟩ | rfl); (case hc => (first | (simp only [go_sem, hE, Pt.d, outerH, innerH, rO, pO, pL, h1, hga, decide_eq_true_eq]; done) | (simp only [go_sem, hE, Pt.d, outerH, innerH, rO, pO, pL, h1, hga, inR_i64, inR_u8, inR_i32, Bool.and_eq_true, decide_eq_true_eq]; first | omega | (simp only [decide_eq_true_eq]; omega))))) | (apply rops_skip'; (case hg => simp only [go_sem, hE, Pt.d, outerH, innerH, rO, pO, pL, h1, hga]); (case hd => simp only [go_sem, hE, Pt.d, outerH, innerH, rO, pO, pL, h1, hga]); (case hs => simp only [go_sem, hE, Pt.d, outerH, innerH, rO, pO, pL, h1, hga]; rfl)) | refine run_cond (t := true) (by first | rfl | (simp only [go_sem, hE, Pt.d, outerH, innerH, rO, pO, pL, h1, hga]; rfl)) (fun _ => ?_) (fun h => by cases h) | refine run_cond (t := false) (by first | rfl | (simp only [go_sem, hE, Pt.d, outerH, innerH, rO, pO, pL, h1, hga]; rfl)) (fun h => by cases h) (fun _ => ?_))
    apply Run.loop (ι := { x : Nat × List Int // x.1 ≤ b.length ∧ x.2.length = b.length ∧ ∀ k, k < x.1 → x.2.getD k 0 = W (gp a b) i k })
      (H := fun j => innerH a b i r j.1.2 j.1.1) (μ := fun j => b.length - j.1.1) (i0 := ⟨(0, z), by omega, hz, by omega⟩)
    (case htk => simp only [go_sem, hE, Pt.d, outerH, innerH, rO, pO, pL]); (case hob => simp only [go_sem, hE, Pt.d, outerH, innerH, rO, pO, pL]); (case htm => ((try (simp only [go_sem, hE, Pt.d, outerH, innerH, rO, pO, pL])); (try ((repeat' apply And.intro) <;> first | rfl | omega | skip))))
    rintro ⟨⟨j, z⟩, hj, hz, hzk⟩ ih
    dsimp only at hj hz hzk
    by_cases hjt : j < b.length
    · have h2 : (j : Int) < b.length := by omega
      have hgb := pt_get hjt
      have hgap := gap33 (a.getD i default) (b.getD j default) (okL_getD ha i) (okL_getD hb j)
      have hgb0 := gap_bound (okL_getD ha i) (okL_getD hb j)
      have hsz : j < z.length := by omega
      have key : ∀ k, k < j + 1 → (z.set j (W (gp a b) i j)).getD k 0 = W (gp a b) i k := by
        intro k hk
        rw [setI _ _ hsz]
        split
        · rename_i e; subst e; rfl
        · exact hzk k (by omega)
      have hW0 := Wg_bound ha hb (i := i) (j := j) (by omega) (by omega)
      have e0 : (rI z).getD j .any = .d (.int .i64 (z.getD j 0)) := rI_get hsz
      have hg0 : gap (a.getD i default) (b.getD j default) = gp a b i j := rfl
      by_cases hi0 : i = 0
      · have p1 : ¬ (0 : Int) < (i : Int) := by omega
        by_cases hj0 : j = 0
        · have p2 : ¬ (0 : Int) < (j : Int) := by omega
          have hW : 0 + gap (a.getD i default) (b.getD j default) = W (gp a b) i j := by
            have : W (gp a b) i j = gap (a.getD i default) (b.getD j default) := by subst hi0; subst hj0; rw [W]; rfl
            omega
          simp only [go_sem, hE, Pt.d, outerH, innerH, rO, pO, pL]
          repeat (first | refine run_seq ?_ | refine run_block ?_ | refine run_skip ?_ | refine run_inBlock ?_ | refine run_exit rfl ?_ | refine run_region' [0, 1, 4, 5, 6, 7, 8, 9, 10, 11, 19, 26, 27, 28, 29, 33, 34, 35, 36, 40, 63, 70] tabOk rfl ?_ | refine run_region_draw' [0, 1, 4, 5, 6, 7, 8, 9, 10, 11, 19, 26, 27, 28, 29, 33, 34, 35, 36, 40, 63, 70] tabOk rfl rfl (by kernel_rfl) (by simp only [go_sem, hE, Pt.d, outerH, innerH, rO, pO, pL, h2, hgb, p1, p2]) ?_ | (refine ROps.nil ?_; simp only [go_sem, hE, Pt.d, outerH, innerH, rO, pO, pL, h2, hgb, p1, p2]) | (apply rops_ev; (case hg => simp only [go_sem, hE, Pt.d, outerH, innerH, rO, pO, pL, h2, hgb, p1, p2]); (case he => simp only [go_sem, hE, Pt.d, outerH, innerH, rO, pO, pL, h2, hgb, p1, p2]; first | exact ⟨rfl, rfl⟩ | rfl); (case hc => (first | (simp only [go_sem, hE, Pt.d, outerH, innerH, rO, pO, pL, h2, hgb, p1, p2, decide_eq_true_eq]; done) | (simp only [go_sem, hE, Pt.d, outerH, innerH, rO, pO, pL, h2, hgb, p1, p2, inR_i64, inR_u8, inR_i32, Bool.and_eq_true, decide_eq_true_eq]; first | omega | (simp only [decide_eq_true_eq]; omega))))) | (apply rops_skip'; (case hg => simp only [go_sem, hE, Pt.d, outerH, innerH, rO, pO, pL, h2, hgb, p1, p2]); (case hd => simp only [go_sem, hE, Pt.d, outerH, innerH, rO, pO, pL, h2, hgb, p1, p2]); (case hs => simp only [go_sem, hE, Pt.d, outerH, innerH, rO, pO, pL, h2, hgb, p1, p2]; rfl)) | refine run_cond (t := true) (by first | rfl | (simp only [go_sem, hE, Pt.d, outerH, innerH, rO, pO, pL, h2, hgb, p1, p2]; rfl)) (fun _ => ?_) (fun h => by cases h) | refine run_cond (t := false) (by first | rfl | (simp only [go_sem, hE, Pt.d, outerH, innerH, rO, pO, pL, h2, hgb, p1, p2]; rfl)) (fun h => by cases h) (fun _ => ?_))
          (apply rops_call' (hcall := (hgap)); (case hg => simp only [go_sem, hE, Pt.d, outerH, innerH, rO, pO, pL]); (case he => simp only [go_sem, hE, Pt.d, outerH, innerH, rO, pO, pL]; first | exact ⟨rfl, rfl⟩ | rfl); (case hd => simp only [go_sem, hE, Pt.d, outerH, innerH, rO, pO, pL]); (case hle => first | exact DLeL.refl _ | (refine dleL_leL ?_; simp only [go_sem, hE, Pt.d, outerH, innerH, rO, pO, pL])); (case hs => simp only [go_sem, hE, Pt.d, outerH, innerH, rO, pO, pL]; rfl))
          repeat (first | refine run_seq ?_ | refine run_block ?_ | refine run_skip ?_ | refine run_inBlock ?_ | refine run_exit rfl ?_ | refine run_region' [0, 1, 4, 5, 6, 7, 8, 9, 10, 11, 19, 26, 27, 28, 29, 33, 34, 35, 36, 40, 63, 70] tabOk rfl ?_ | refine run_region_draw' [0, 1, 4, 5, 6, 7, 8, 9, 10, 11, 19, 26, 27, 28, 29, 33, 34, 35, 36, 40, 63, 70] tabOk rfl rfl (by kernel_rfl) (by simp only [go_sem, hE, Pt.d, outerH, innerH, rO, pO, pL, hW, e0]) ?_ | (refine ROps.nil ?_; simp only [go_sem, hE, Pt.d, outerH, innerH, rO, pO, pL, hW, e0]) | (apply rops_ev; (case hg => simp only [go_sem, hE, Pt.d, outerH, innerH, rO, pO, pL, hW, e0]); (case he => simp only [go_sem, hE, Pt.d, outerH, innerH, rO, pO, pL, hW, e0]; first | exact ⟨rfl, rfl⟩ | rfl); (case hc => (first | (simp only [go_sem, hE, Pt.d, outerH, innerH, rO, pO, pL, hW, e0, decide_eq_true_eq]; done) | (simp only [go_sem, hE, Pt.d, outerH, innerH, rO, pO, pL, hW, e0, inR_i64, inR_u8, inR_i32, Bool.and_eq_true, decide_eq_true_eq]; first | omega | (simp only [decide_eq_true_eq]; omega))))) | (apply rops_skip'; (case hg => simp only [go_sem, hE, Pt.d, outerH, innerH, rO, pO, pL, hW, e0]); (case hd => simp only [go_sem, hE, Pt.d, outerH, innerH, rO, pO, pL, hW, e0]); (case hs => simp only [go_sem, hE, Pt.d, outerH, innerH, rO, pO, pL, hW, e0]; rfl)) | refine run_cond (t := true) (by first | rfl | (simp only [go_sem, hE, Pt.d, outerH, innerH, rO, pO, pL, hW, e0]; rfl)) (fun _ => ?_) (fun h => by cases h) | refine run_cond (t := false) (by first | rfl | (simp only [go_sem, hE, Pt.d, outerH, innerH, rO, pO, pL, hW, e0]; rfl)) (fun h => by cases h) (fun _ => ?_))
          exact ih ⟨(j + 1, z.set j (W (gp a b) i j)), by omega, by simpa using hz, key⟩ _ (by (try (simp only [go_sem, hE, Pt.d, outerH, innerH, rO, pO, pL])); (try ((repeat' apply And.intro) <;> first | rfl | omega | skip))) (by simp only [go_sem, hE, Pt.d, outerH, innerH, rO, pO, pL]) (by simp only [go_sem, hE, Pt.d, outerH, innerH, rO, pO, pL]) (by dsimp only; first | omega | (simp only [List.length_append, List.length_cons, List.length_nil]; omega))
        · have p2 : (0 : Int) < (j : Int) := by omega
          have m1 : ((j : Int) - 1).toNat = j - 1 := by omega
          have e1 : (rI z).getD (j - 1) .any = .d (.int .i64 (W (gp a b) i (j - 1))) := by rw [rI_get (by omega), hzk _ (by omega)]
          have hW : W (gp a b) i (j - 1) + gap (a.getD i default) (b.getD j default) = W (gp a b) i j := by
            obtain ⟨j', rfl⟩ : ∃ j', j = j' + 1 := ⟨j - 1, by omega⟩
            subst hi0
            rw [hg0, W]; rfl
          simp only [go_sem, hE, Pt.d, outerH, innerH, rO, pO, pL]
          repeat (first | refine run_seq ?_ | refine run_block ?_ | refine run_skip ?_ | refine run_inBlock ?_ | refine run_exit rfl ?_ | refine run_region' [0, 1, 4, 5, 6, 7, 8, 9, 10, 11, 19, 26, 27, 28, 29, 33, 34, 35, 36, 40, 63, 70] tabOk rfl ?_ | refine run_region_draw' [0, 1, 4, 5, 6, 7, 8, 9, 10, 11, 19, 26, 27, 28, 29, 33, 34, 35, 36, 40, 63, 70] tabOk rfl rfl (by kernel_rfl) (by simp only [go_sem, hE, Pt.d, outerH, innerH, rO, pO, pL, h2, hgb, p1, p2, m1, e1]) ?_ | (refine ROps.nil ?_; simp only [go_sem, hE, Pt.d, outerH, innerH, rO, pO, pL, h2, hgb, p1, p2, m1, e1]) | (apply rops_ev; (case hg => simp only [go_sem, hE, Pt.d, outerH, innerH, rO, pO, pL, h2, hgb, p1, p2, m1, e1]); (case he => simp only [go_sem, hE, Pt.d, outerH, innerH, rO, pO, pL, h2, hgb, p1, p2, m1, e1]; first | exact ⟨rfl, rfl⟩ | rfl); (case hc => (first | (simp only [go_sem, hE, Pt.d, outerH, innerH, rO, pO, pL, h2, hgb, p1, p2, m1, e1, decide_eq_true_eq]; done) | (simp only [go_sem, hE, Pt.d, outerH, innerH, rO, pO, pL, h2, hgb, p1, p2, m1, e1, inR_i64, inR_u8, inR_i32, Bool.and_eq_true, decide_eq_true_eq]; first | omega | (simp only [decide_eq_true_eq]; omega))))) | (apply rops_skip'; (case hg => simp only [go_sem, hE, Pt.d, outerH, innerH, rO, pO, pL, h2, hgb, p1, p2, m1, e1]); (case hd => simp only [go_sem, hE, Pt.d, outerH, innerH, rO, pO, pL, h2, hgb, p1, p2, m1, e1]); (case hs => simp only [go_sem, hE, Pt.d, outerH, innerH, rO, pO, pL, h2, hgb, p1, p2, m1, e1]; rfl)) | refine run_cond (t := true) (by first | rfl | (simp only [go_sem, hE, Pt.d, outerH, innerH, rO, pO, pL, h2, hgb, p1, p2, m1, e1]; rfl)) (fun _ => ?_) (fun h => by cases h) | refine run_cond (t := false) (by first | rfl | (simp only [go_sem, hE, Pt.d, outerH, innerH, rO, pO, pL, h2, hgb, p1, p2, m1, e1]; rfl)) (fun h => by cases h) (fun _ => ?_))
          (apply rops_call' (hcall := (hgap)); (case hg => simp only [go_sem, hE, Pt.d, outerH, innerH, rO, pO, pL]); (case he => simp only [go_sem, hE, Pt.d, outerH, innerH, rO, pO, pL]; first | exact ⟨rfl, rfl⟩ | rfl); (case hd => simp only [go_sem, hE, Pt.d, outerH, innerH, rO, pO, pL]); (case hle => first | exact DLeL.refl _ | (refine dleL_leL ?_; simp only [go_sem, hE, Pt.d, outerH, innerH, rO, pO, pL])); (case hs => simp only [go_sem, hE, Pt.d, outerH, innerH, rO, pO, pL]; rfl))
          repeat (first | refine run_seq ?_ | refine run_block ?_ | refine run_skip ?_ | refine run_inBlock ?_ | refine run_exit rfl ?_ | refine run_region' [0, 1, 4, 5, 6, 7, 8, 9, 10, 11, 19, 26, 27, 28, 29, 33, 34, 35, 36, 40, 63, 70] tabOk rfl ?_ | refine run_region_draw' [0, 1, 4, 5, 6, 7, 8, 9, 10, 11, 19, 26, 27, 28, 29, 33, 34, 35, 36, 40, 63, 70] tabOk rfl rfl (by kernel_rfl) (by simp only [go_sem, hE, Pt.d, outerH, innerH, rO, pO, pL, hW, e0]) ?_ | (refine ROps.nil ?_; simp only [go_sem, hE, Pt.d, outerH, innerH, rO, pO, pL, hW, e0]) | (apply rops_ev; (case hg => simp only [go_sem, hE, Pt.d, outerH, innerH, rO, pO, pL, hW, e0]); (case he => simp only [go_sem, hE, Pt.d, outerH, innerH, rO, pO, pL, hW, e0]; first | exact ⟨rfl, rfl⟩ | rfl); (case hc => (first | (simp only [go_sem, hE, Pt.d, outerH, innerH, rO, pO, pL, hW, e0, decide_eq_true_eq]; done) | (simp only [go_sem, hE, Pt.d, outerH, innerH, rO, pO, pL, hW, e0, inR_i64, inR_u8, inR_i32, Bool.and_eq_true, decide_eq_true_eq]; first | omega | (simp only [decide_eq_true_eq]; omega))))) | (apply rops_skip'; (case hg => simp only [go_sem, hE, Pt.d, outerH, innerH, rO, pO, pL, hW, e0]); (case hd => simp only [go_sem, hE, Pt.d, outerH, innerH, rO, pO, pL, hW, e0]); (case hs => simp only [go_sem, hE, Pt.d, outerH, innerH, rO, pO, pL, hW, e0]; rfl)) | refine run_cond (t := true) (by first | rfl | (simp only [go_sem, hE, Pt.d, outerH, innerH, rO, pO, pL, hW, e0]; rfl)) (fun _ => ?_) (fun h => by cases h) | refine run_cond (t := false) (by first | rfl | (simp only [go_sem, hE, Pt.d, outerH, innerH, rO, pO, pL, hW, e0]; rfl)) (fun h => by cases h) (fun _ => ?_))
          exact ih ⟨(j + 1, z.set j (W (gp a b) i j)), by omega, by simpa using hz, key⟩ _ (by (try (simp only [go_sem, hE, Pt.d, outerH, innerH, rO, pO, pL])); (try ((repeat' apply And.intro) <;> first | rfl | omega | skip))) (by simp only [go_sem, hE, Pt.d, outerH, innerH, rO, pO, pL]) (by simp only [go_sem, hE, Pt.d, outerH, innerH, rO, pO, pL]) (by dsimp only; first | omega | (simp only [List.length_append, List.length_cons, List.length_nil]; omega))
      · have p1 : (0 : Int) < (i : Int) := by omega
        obtain ⟨hrl, hrk⟩ := hrow (i - 1) (by omega)
        have hrj : (rI r).getD j .any = .d (.int .i64 (W (gp a b) (i - 1) j)) := by rw [rI_get (by omega), hrk _ (by omega)]
        by_cases hj0 : j = 0
        · have p2 : ¬ (0 : Int) < (j : Int) := by omega
          have hW : W (gp a b) (i - 1) j + gap (a.getD i default) (b.getD j default) = W (gp a b) i j := by
            obtain ⟨i', rfl⟩ : ∃ i', i = i' + 1 := ⟨i - 1, by omega⟩
            subst hj0
            rw [hg0, W]; rfl
          simp only [go_sem, hE, Pt.d, outerH, innerH, rO, pO, pL]
          repeat (first | refine run_seq ?_ | refine run_block ?_ | refine run_skip ?_ | refine run_inBlock ?_ | refine run_exit rfl ?_ | refine run_region' [0, 1, 4, 5, 6, 7, 8, 9, 10, 11, 19, 26, 27, 28, 29, 33, 34, 35, 36, 40, 63, 70] tabOk rfl ?_ | refine run_region_draw' [0, 1, 4, 5, 6, 7, 8, 9, 10, 11, 19, 26, 27, 28, 29, 33, 34, 35, 36, 40, 63, 70] tabOk rfl rfl (by kernel_rfl) (by simp only [go_sem, hE, Pt.d, outerH, innerH, rO, pO, pL, h2, hgb, p1, p2, hrj]) ?_ | (refine ROps.nil ?_; simp only [go_sem, hE, Pt.d, outerH, innerH, rO, pO, pL, h2, hgb, p1, p2, hrj]) | (apply rops_ev; (case hg => simp only [go_sem, hE, Pt.d, outerH, innerH, rO, pO, pL, h2, hgb, p1, p2, hrj]); (case he => simp only [go_sem, hE, Pt.d, outerH, innerH, rO, pO, pL, h2, hgb, p1, p2, hrj]; first | exact ⟨rfl, rfl⟩ | rfl); (case hc => (first | (simp only [go_sem, hE, Pt.d, outerH, innerH, rO, pO, pL, h2, hgb, p1, p2, hrj, decide_eq_true_eq]; done) | (simp only [go_sem, hE, Pt.d, outerH, innerH, rO, pO, pL, h2, hgb, p1, p2, hrj, inR_i64, inR_u8, inR_i32, Bool.and_eq_true, decide_eq_true_eq]; first | omega | (simp only [decide_eq_true_eq]; omega))))) | (apply rops_skip'; (case hg => simp only [go_sem, hE, Pt.d, outerH, innerH, rO, pO, pL, h2, hgb, p1, p2, hrj]); (case hd => simp only [go_sem, hE, Pt.d, outerH, innerH, rO, pO, pL, h2, hgb, p1, p2, hrj]); (case hs => simp only [go_sem, hE, Pt.d, outerH, innerH, rO, pO, pL, h2, hgb, p1, p2, hrj]; rfl)) | refine run_cond (t := true) (by first | rfl | (simp only [go_sem, hE, Pt.d, outerH, innerH, rO, pO, pL, h2, hgb, p1, p2, hrj]; rfl)) (fun _ => ?_) (fun h => by cases h) | refine run_cond (t := false) (by first | rfl | (simp only [go_sem, hE, Pt.d, outerH, innerH, rO, pO, pL, h2, hgb, p1, p2, hrj]; rfl)) (fun h => by cases h) (fun _ => ?_))
          (apply rops_call' (hcall := (hgap)); (case hg => simp only [go_sem, hE, Pt.d, outerH, innerH, rO, pO, pL]); (case he => simp only [go_sem, hE, Pt.d, outerH, innerH, rO, pO, pL]; first | exact ⟨rfl, rfl⟩ | rfl); (case hd => simp only [go_sem, hE, Pt.d, outerH, innerH, rO, pO, pL]); (case hle => first | exact DLeL.refl _ | (refine dleL_leL ?_; simp only [go_sem, hE, Pt.d, outerH, innerH, rO, pO, pL])); (case hs => simp only [go_sem, hE, Pt.d, outerH, innerH, rO, pO, pL]; rfl))
          repeat (first | refine run_seq ?_ | refine run_block ?_ | refine run_skip ?_ | refine run_inBlock ?_ | refine run_exit rfl ?_ | refine run_region' [0, 1, 4, 5, 6, 7, 8, 9, 10, 11, 19, 26, 27, 28, 29, 33, 34, 35, 36, 40, 63, 70] tabOk rfl ?_ | refine run_region_draw' [0, 1, 4, 5, 6, 7, 8, 9, 10, 11, 19, 26, 27, 28, 29, 33, 34, 35, 36, 40, 63, 70] tabOk rfl rfl (by kernel_rfl) (by simp only [go_sem, hE, Pt.d, outerH, innerH, rO, pO, pL, hW, e0]) ?_ | (refine ROps.nil ?_; simp only [go_sem, hE, Pt.d, outerH, innerH, rO, pO, pL, hW, e0]) | (apply rops_ev; (case hg => simp only [go_sem, hE, Pt.d, outerH, innerH, rO, pO, pL, hW, e0]); (case he => simp only [go_sem, hE, Pt.d, outerH, innerH, rO, pO, pL, hW, e0]; first | exact ⟨rfl, rfl⟩ | rfl); (case hc => (first | (simp only [go_sem, hE, Pt.d, outerH, innerH, rO, pO, pL, hW, e0, decide_eq_true_eq]; done) | (simp only [go_sem, hE, Pt.d, outerH, innerH, rO, pO, pL, hW, e0, inR_i64, inR_u8, inR_i32, Bool.and_eq_true, decide_eq_true_eq]; first | omega | (simp only [decide_eq_true_eq]; omega))))) | (apply rops_skip'; (case hg => simp only [go_sem, hE, Pt.d, outerH, innerH, rO, pO, pL, hW, e0]); (case hd => simp only [go_sem, hE, Pt.d, outerH, innerH, rO, pO, pL, hW, e0]); (case hs => simp only [go_sem, hE, Pt.d, outerH, innerH, rO, pO, pL, hW, e0]; rfl)) | refine run_cond (t := true) (by first | rfl | (simp only [go_sem, hE, Pt.d, outerH, innerH, rO, pO, pL, hW, e0]; rfl)) (fun _ => ?_) (fun h => by cases h) | refine run_cond (t := false) (by first | rfl | (simp only [go_sem, hE, Pt.d, outerH, innerH, rO, pO, pL, hW, e0]; rfl)) (fun h => by cases h) (fun _ => ?_))
          exact ih ⟨(j + 1, z.set j (W (gp a b) i j)), by omega, by simpa using hz, key⟩ _ (by (try (simp only [go_sem, hE, Pt.d, outerH, innerH, rO, pO, pL])); (try ((repeat' apply And.intro) <;> first | rfl | omega | skip))) (by simp only [go_sem, hE, Pt.d, outerH, innerH, rO, pO, pL]) (by simp only [go_sem, hE, Pt.d, outerH, innerH, rO, pO, pL]) (by dsimp only; first | omega | (simp only [List.length_append, List.length_cons, List.length_nil]; omega))
        · have p2 : (0 : Int) < (j : Int) := by omega
          have m1 : ((j : Int) - 1).toNat = j - 1 := by omega
          have e1 : (rI z).getD (j - 1) .any = .d (.int .i64 (W (gp a b) i (j - 1))) := by rw [rI_get (by omega), hzk _ (by omega)]
          have e2 : (rI r).getD (j - 1) .any = .d (.int .i64 (W (gp a b) (i - 1) (j - 1))) := by rw [rI_get (by omega), hrk _ (by omega)]
          have hW : leastI (W (gp a b) (i - 1) (j - 1)) [W (gp a b) (i - 1) j, W (gp a b) i (j - 1)] + gap (a.getD i default) (b.getD j default) = W (gp a b) i j := by
            obtain ⟨i', rfl⟩ : ∃ i', i = i' + 1 := ⟨i - 1, by omega⟩
            obtain ⟨j', rfl⟩ : ∃ j', j = j' + 1 := ⟨j - 1, by omega⟩
            rw [hg0, least3, W]; rfl
          simp only [go_sem, hE, Pt.d, outerH, innerH, rO, pO, pL]
          repeat (first | refine run_seq ?_ | refine run_block ?_ | refine run_skip ?_ | refine run_inBlock ?_ | refine run_exit rfl ?_ | refine run_region' [0, 1, 4, 5, 6, 7, 8, 9, 10, 11, 19, 26, 27, 28, 29, 33, 34, 35, 36, 40, 63, 70] tabOk rfl ?_ | refine run_region_draw' [0, 1, 4, 5, 6, 7, 8, 9, 10, 11, 19, 26, 27, 28, 29, 33, 34, 35, 36, 40, 63, 70] tabOk rfl rfl (by kernel_rfl) (by simp only [go_sem, hE, Pt.d, outerH, innerH, rO, pO, pL, h2, hgb, p1, p2, m1, e1, e2, hrj]) ?_ | (refine ROps.nil ?_; simp only [go_sem, hE, Pt.d, outerH, innerH, rO, pO, pL, h2, hgb, p1, p2, m1, e1, e2, hrj]) | (apply rops_ev; (case hg => simp only [go_sem, hE, Pt.d, outerH, innerH, rO, pO, pL, h2, hgb, p1, p2, m1, e1, e2, hrj]); (case he => simp only [go_sem, hE, Pt.d, outerH, innerH, rO, pO, pL, h2, hgb, p1, p2, m1, e1, e2, hrj]; first | exact ⟨rfl, rfl⟩ | rfl); (case hc => (first | (simp only [go_sem, hE, Pt.d, outerH, innerH, rO, pO, pL, h2, hgb, p1, p2, m1, e1, e2, hrj, decide_eq_true_eq]; done) | (simp only [go_sem, hE, Pt.d, outerH, innerH, rO, pO, pL, h2, hgb, p1, p2, m1, e1, e2, hrj, inR_i64, inR_u8, inR_i32, Bool.and_eq_true, decide_eq_true_eq]; first | omega | (simp only [decide_eq_true_eq]; omega))))) | (apply rops_skip'; (case hg => simp only [go_sem, hE, Pt.d, outerH, innerH, rO, pO, pL, h2, hgb, p1, p2, m1, e1, e2, hrj]); (case hd => simp only [go_sem, hE, Pt.d, outerH, innerH, rO, pO, pL, h2, hgb, p1, p2, m1, e1, e2, hrj]); (case hs => simp only [go_sem, hE, Pt.d, outerH, innerH, rO, pO, pL, h2, hgb, p1, p2, m1, e1, e2, hrj]; rfl)) | refine run_cond (t := true) (by first | rfl | (simp only [go_sem, hE, Pt.d, outerH, innerH, rO, pO, pL, h2, hgb, p1, p2, m1, e1, e2, hrj]; rfl)) (fun _ => ?_) (fun h => by cases h) | refine run_cond (t := false) (by first | rfl | (simp only [go_sem, hE, Pt.d, outerH, innerH, rO, pO, pL, h2, hgb, p1, p2, m1, e1, e2, hrj]; rfl)) (fun h => by cases h) (fun _ => ?_))
          (apply rops_call' (hcall := (smallest (W (gp a b) (i - 1) (j - 1)) [W (gp a b) (i - 1) j, W (gp a b) i (j - 1)] (by simp))); (case hg => simp only [go_sem, hE, Pt.d, outerH, innerH, rO, pO, pL]); (case he => simp only [go_sem, hE, Pt.d, outerH, innerH, rO, pO, pL]; first | exact ⟨rfl, rfl⟩ | rfl); (case hd => simp only [go_sem, hE, Pt.d, outerH, innerH, rO, pO, pL]); (case hle => first | exact DLeL.refl _ | (refine dleL_leL ?_; simp only [go_sem, hE, Pt.d, outerH, innerH, rO, pO, pL])); (case hs => simp only [go_sem, hE, Pt.d, outerH, innerH, rO, pO, pL]; rfl))
          repeat (first | refine run_seq ?_ | refine run_block ?_ | refine run_skip ?_ | refine run_inBlock ?_ | refine run_exit rfl ?_ | refine run_region' [0, 1, 4, 5, 6, 7, 8, 9, 10, 11, 19, 26, 27, 28, 29, 33, 34, 35, 36, 40, 63, 70] tabOk rfl ?_ | refine run_region_draw' [0, 1, 4, 5, 6, 7, 8, 9, 10, 11, 19, 26, 27, 28, 29, 33, 34, 35, 36, 40, 63, 70] tabOk rfl rfl (by kernel_rfl) (by simp only [go_sem, hE, Pt.d, outerH, innerH, rO, pO, pL]) ?_ | (refine ROps.nil ?_; simp only [go_sem, hE, Pt.d, outerH, innerH, rO, pO, pL]) | (apply rops_ev; (case hg => simp only [go_sem, hE, Pt.d, outerH, innerH, rO, pO, pL]); (case he => simp only [go_sem, hE, Pt.d, outerH, innerH, rO, pO, pL]; first | exact ⟨rfl, rfl⟩ | rfl); (case hc => (first | (simp only [go_sem, hE, Pt.d, outerH, innerH, rO, pO, pL, decide_eq_true_eq]; done) | (simp only [go_sem, hE, Pt.d, outerH, innerH, rO, pO, pL, inR_i64, inR_u8, inR_i32, Bool.and_eq_true, decide_eq_true_eq]; first | omega | (simp only [decide_eq_true_eq]; omega))))) | (apply rops_skip'; (case hg => simp only [go_sem, hE, Pt.d, outerH, innerH, rO, pO, pL]); (case hd => simp only [go_sem, hE, Pt.d, outerH, innerH, rO, pO, pL]); (case hs => simp only [go_sem, hE, Pt.d, outerH, innerH, rO, pO, pL]; rfl)) | refine run_cond (t := true) (by first | rfl | (simp only [go_sem, hE, Pt.d, outerH, innerH, rO, pO, pL]; rfl)) (fun _ => ?_) (fun h => by cases h) | refine run_cond (t := false) (by first | rfl | (simp only [go_sem, hE, Pt.d, outerH, innerH, rO, pO, pL]; rfl)) (fun h => by cases h) (fun _ => ?_))
          (apply rops_call' (hcall := (hgap)); (case hg => simp only [go_sem, hE, Pt.d, outerH, innerH, rO, pO, pL]); (case he => simp only [go_sem, hE, Pt.d, outerH, innerH, rO, pO, pL]; first | exact ⟨rfl, rfl⟩ | rfl); (case hd => simp only [go_sem, hE, Pt.d, outerH, innerH, rO, pO, pL]); (case hle => first | exact DLeL.refl _ | (refine dleL_leL ?_; simp only [go_sem, hE, Pt.d, outerH, innerH, rO, pO, pL])); (case hs => simp only [go_sem, hE, Pt.d, outerH, innerH, rO, pO, pL]; rfl))
          repeat (first | refine run_seq ?_ | refine run_block ?_ | refine run_skip ?_ | refine run_inBlock ?_ | refine run_exit rfl ?_ | refine run_region' [0, 1, 4, 5, 6, 7, 8, 9, 10, 11, 19, 26, 27, 28, 29, 33, 34, 35, 36, 40, 63, 70] tabOk rfl ?_ | refine run_region_draw' [0, 1, 4, 5, 6, 7, 8, 9, 10, 11, 19, 26, 27, 28, 29, 33, 34, 35, 36, 40, 63, 70] tabOk rfl rfl (by kernel_rfl) (by simp only [go_sem, hE, Pt.d, outerH, innerH, rO, pO, pL, hW, e0]) ?_ | (refine ROps.nil ?_; simp only [go_sem, hE, Pt.d, outerH, innerH, rO, pO, pL, hW, e0]) | (apply rops_ev; (case hg => simp only [go_sem, hE, Pt.d, outerH, innerH, rO, pO, pL, hW, e0]); (case he => simp only [go_sem, hE, Pt.d, outerH, innerH, rO, pO, pL, hW, e0]; first | exact ⟨rfl, rfl⟩ | rfl); (case hc => (first | (simp only [go_sem, hE, Pt.d, outerH, innerH, rO, pO, pL, hW, e0, decide_eq_true_eq]; done) | (simp only [go_sem, hE, Pt.d, outerH, innerH, rO, pO, pL, hW, e0, inR_i64, inR_u8, inR_i32, Bool.and_eq_true, decide_eq_true_eq]; first | omega | (simp only [decide_eq_true_eq]; omega))))) | (apply rops_skip'; (case hg => simp only [go_sem, hE, Pt.d, outerH, innerH, rO, pO, pL, hW, e0]); (case hd => simp only [go_sem, hE, Pt.d, outerH, innerH, rO, pO, pL, hW, e0]); (case hs => simp only [go_sem, hE, Pt.d, outerH, innerH, rO, pO, pL, hW, e0]; rfl)) | refine run_cond (t := true) (by first | rfl | (simp only [go_sem, hE, Pt.d, outerH, innerH, rO, pO, pL, hW, e0]; rfl)) (fun _ => ?_) (fun h => by cases h) | refine run_cond (t := false) (by first | rfl | (simp only [go_sem, hE, Pt.d, outerH, innerH, rO, pO, pL, hW, e0]; rfl)) (fun h => by cases h) (fun _ => ?_))
          exact ih ⟨(j + 1, z.set j (W (gp a b) i j)), by omega, by simpa using hz, key⟩ _ (by (try (simp only [go_sem, hE, Pt.d, outerH, innerH, rO, pO, pL])); (try ((repeat' apply And.intro) <;> first | rfl | omega | skip))) (by simp only [go_sem, hE, Pt.d, outerH, innerH, rO, pO, pL]) (by simp only [go_sem, hE, Pt.d, outerH, innerH, rO, pO, pL]) (by dsimp only; first | omega | (simp only [List.length_append, List.length_cons, List.length_nil]; omega))
    · have h2 : ¬ (j : Int) < b.length := by omega
      have hjm : j = b.length := by omega
      simp only [go_sem, hE, Pt.d, outerH, innerH, rO, pO, pL]
      repeat (first | refine run_seq ?_ | refine run_block ?_ | refine run_skip ?_ | refine run_inBlock ?_ | refine run_exit rfl ?_ | refine run_region' [0, 1, 4, 5, 6, 7, 8, 9, 10, 11, 19, 26, 27, 28, 29, 33, 34, 35, 36, 40, 63, 70] tabOk rfl ?_ | refine run_region_draw' [0, 1, 4, 5, 6, 7, 8, 9, 10, 11, 19, 26, 27, 28, 29, 33, 34, 35, 36, 40, 63, 70] tabOk rfl rfl (by kernel_rfl) (by simp only [go_sem, hE, Pt.d, outerH, innerH, rO, pO, pL, h2]) ?_ | (refine ROps.nil ?_; simp only [go_sem, hE, Pt.d, outerH, innerH, rO, pO, pL, h2]) | (apply rops_ev; (case hg => simp only [go_sem, hE, Pt.d, outerH, innerH, rO, pO, pL, h2]); (case he => simp only [go_sem, hE, Pt.d, outerH, innerH, rO, pO, pL, h2]; first | exact ⟨rfl, rfl⟩ | rfl); (case hc => (first | (simp only [go_sem, hE, Pt.d, outerH, innerH, rO, pO, pL, h2, decide_eq_true_eq]; done) | (simp only [go_sem, hE, Pt.d, outerH, innerH, rO, pO, pL, h2, inR_i64, inR_u8, inR_i32, Bool.and_eq_true, decide_eq_true_eq]; first | omega | (simp only [decide_eq_true_eq]; omega))))) | (apply rops_skip'; (case hg => simp only [go_sem, hE, Pt.d, outerH, innerH, rO, pO, pL, h2]); (case hd => simp only [go_sem, hE, Pt.d, outerH, innerH, rO, pO, pL, h2]); (case hs => simp only [go_sem, hE, Pt.d, outerH, innerH, rO, pO, pL, h2]; rfl)) | refine run_cond (t := true) (by first | rfl | (simp only [go_sem, hE, Pt.d, outerH, innerH, rO, pO, pL, h2]; rfl)) (fun _ => ?_) (fun h => by cases h) | refine run_cond (t := false) (by first | rfl | (simp only [go_sem, hE, Pt.d, outerH, innerH, rO, pO, pL, h2]; rfl)) (fun h => by cases h) (fun _ => ?_))
      (apply Run.swap 22 25 (by omega) (by omega); (case hs => simp only [go_sem, hE, Pt.d, outerH, innerH, rO, pO, pL]; rfl))
      exact ih0 ⟨(i + 1, z, r), by omega, hz, hr, fun i' hi' => ⟨hz, fun k hk => by rw [hzk k (by omega)]; congr 1; simpa using hi'⟩⟩ _ (by (try (simp only [go_sem, hE, Pt.d, outerH, innerH, rO, pO, pL])); (try ((repeat' apply And.intro) <;> first | rfl | omega | skip))) (by simp only [go_sem, hE, Pt.d, outerH, innerH, rO, pO, pL]) (by simp only [go_sem, hE, Pt.d, outerH, innerH, rO, pO, pL]) (by dsimp only; first | omega | (simp only [List.length_append, List.length_cons, List.length_nil]; omega))
  · have h1 : ¬ (i : Int) < a.length := by omega
    obtain ⟨hrl, hrk⟩ := hrow (a.length - 1) (by omega)
    have m1 : ((b.length : Int) - 1).toNat = b.length - 1 := by omega
    have e1 : (rI r).getD (b.length - 1) .any = .d (.int .i64 (dist a b)) := by rw [rI_get (by omega), hrk _ (by omega)]; rfl
    simp only [go_sem, hE, Pt.d, outerH, innerH, rO, pO, pL]
    repeat (first | refine run_seq ?_ | refine run_block ?_ | refine run_skip ?_ | refine run_inBlock ?_ | refine run_exit rfl ?_ | refine run_region' [0, 1, 4, 5, 6, 7, 8, 9, 10, 11, 19, 26, 27, 28, 29, 33, 34, 35, 36, 40, 63, 70] tabOk rfl ?_ | refine run_region_draw' [0, 1, 4, 5, 6, 7, 8, 9, 10, 11, 19, 26, 27, 28, 29, 33, 34, 35, 36, 40, 63, 70] tabOk rfl rfl (by kernel_rfl) (by simp only [go_sem, hE, Pt.d, outerH, innerH, rO, pO, pL, h1, m1, e1]) ?_ | (refine ROps.nil ?_; simp only [go_sem, hE, Pt.d, outerH, innerH, rO, pO, pL, h1, m1, e1]) | (apply rops_ev; (case hg => simp only [go_sem, hE, Pt.d, outerH, innerH, rO, pO, pL, h1, m1, e1]); (case he => simp only [go_sem, hE, Pt.d, outerH, innerH, rO, pO, pL, h1, m1, e1]; first | exact ⟨rfl, rfl⟩ | rfl); (case hc => (first | (simp only [go_sem, hE, Pt.d, outerH, innerH, rO, pO, pL, h1, m1, e1, decide_eq_true_eq]; done) | (simp only [go_sem, hE, Pt.d, outerH, innerH, rO, pO, pL, h1, m1, e1, inR_i64, inR_u8, inR_i32, Bool.and_eq_true, decide_eq_true_eq]; first | omega | (simp only [decide_eq_true_eq]; omega))))) | (apply rops_skip'; (case hg => simp only [go_sem, hE, Pt.d, outerH, innerH, rO, pO, pL, h1, m1, e1]); (case hd => simp only [go_sem, hE, Pt.d, outerH, innerH, rO, pO, pL, h1, m1, e1]); (case hs => simp only [go_sem, hE, Pt.d, outerH, innerH, rO, pO, pL, h1, m1, e1]; rfl)) | refine run_cond (t := true) (by first | rfl | (simp only [go_sem, hE, Pt.d, outerH, innerH, rO, pO, pL, h1, m1, e1]; rfl)) (fun _ => ?_) (fun h => by cases h) | refine run_cond (t := false) (by first | rfl | (simp only [go_sem, hE, Pt.d, outerH, innerH, rO, pO, pL, h1, m1, e1]; rfl)) (fun h => by cases h) (fun _ => ?_))
    (first | apply run_ret tabOk Try.func15 rfl | apply run_ret0 tabOk Try.func15 rfl); (case he => simp only [go_sem, hE, Pt.d, outerH, innerH, rO, pO, pL, Try.f15, List.toList_toArray]; first | exact ⟨rfl, rfl⟩ | rfl); (case hc => (first | (simp only [go_sem, hE, Pt.d, outerH, innerH, rO, pO, pL, decide_eq_true_eq]; done) | (simp only [go_sem, hE, Pt.d, outerH, innerH, rO, pO, pL, inR_i64, inR_u8, inR_i32, Bool.and_eq_true, decide_eq_true_eq]; first | omega | (simp only [decide_eq_true_eq]; omega)))); (case hp => rw [hP]; first | exact trivial | (exact ⟨⟨Nat.le_of_ble_eq_true rfl, _, _, rfl, rfl, toDs_ofD1 _, DLeL.refl _⟩, trivial⟩)); (case hle => simp only [go_sem, hE, Pt.d, outerH, innerH, rO, pO, pL])
end Go.Proofs.Ytpdkccbongnboaa

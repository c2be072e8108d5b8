/-
  A part of the walks of this seat: each theorem says what a function of the program gives. No condition beyond its own premises.
-/
import Derived.Test.YtojgjdcciojpeaaM9
set_option linter.unusedSimpArgs false
set_option linter.unusedVariables false
namespace Go.Proofs.Ytojgjdcciojpeaa
open Go Go.PS
set_option maxRecDepth 100000
set_option maxHeartbeats 4000000
def sideB (v : Int) : Bool := decide (0 ≤ v) && decide (v ≤ 1000)
theorem coord123 (l : List Int) (hl : l.length ≤ 100000) : PCall Try.prog 31 [.sl 1 (l.map iD)] (.bool (l.all sideB)) := by
  refine enterP tabOk Try.func31 18 [0, 2, 4, 5, 6, 7, 8, 16] [.tmp 2] rfl (r := [_]) rfl (h := ?_); intro E hK; simp only [go_sem]
  refine wgo ?_
  refine wlp (Run.loopC (ι := { i : Nat // i ≤ l.length ∧ (l.take i).all sideB = true }) (U := fun i => [(7, .d (.int .i64 i.1))]) (O := fun i => []) (K := fun _ => []) (μ := fun i => l.length - i.1) (i0 := ⟨0, by omega, by simp⟩)) ?_
  rintro ⟨i, hi, hp⟩ ih
  by_cases hlt : i < l.length
  · have h1 : (i : Int) < l.length := by omega
    have hget : (List.map iD l).getD i .nilp = .int .i64 (l.getD i 0) := by simp [hlt, iD]
    have e : l.getD i 0 = l[i] := by simp [hlt]
    cases hb : sideB (l.getD i 0) with
    | true =>
      have hb1 := hb
      simp only [sideB, Bool.and_eq_true, decide_eq_true_eq] at hb1
      have c1 : ¬ l.getD i 0 < 0 := by omega
      have c2 : ¬ 1000 < l.getD i 0 := by omega
      simp only [go_sem]
      refine wgoF (And.intro (@h1) (And.intro (@hget) (And.intro (@c1) (@c2)))) ?_
      exact wnxt (ih ⟨i + 1, by omega, by rw [List.take_succ_eq_append_getElem hlt, List.all_append, hp, ← e]; simp only [List.all_cons, List.all_nil, hb]; rfl⟩)
    | false =>
      have c1 : (decide (l.getD i 0 < 0) || decide (1000 < l.getD i 0)) = true := by
        have : ¬ sideB (l.getD i 0) = true := by rw [hb]; simp
        simp only [sideB, Bool.and_eq_true, decide_eq_true_eq] at this
        simp only [Bool.or_eq_true, decide_eq_true_eq]; omega
      have hf : l.all sideB = false := by
        rw [Bool.eq_false_iff]; intro ht
        have := List.all_eq_true.1 ht l[i] (List.getElem_mem hlt)
        rw [← e, hb] at this; cases this
      simp only [go_sem]
      refine wgoF (And.intro (@h1) (And.intro (@hget) (@c1))) ?_
      exact wretF (@hf)
  · have h1 : ¬ (i : Int) < l.length := by omega
    rw [List.take_of_length_le (by omega)] at hp
    simp only [go_sem]
    refine wgoF (@h1) ?_
    exact wretF (@hp)
/-- A touch where there is no area. -/
theorem touchNone (b : Brd) (hA : b.A = []) (tz : Nat) (tp : List D) (p : Pt) (hp : p.inB = true) : PCall Try.prog 29 [b.d, .sl tz tp, p.d] (.tup [slD [], .int .i64 210]) := by
  obtain ⟨za, A, zt, T, cs⟩ := b
  dsimp only at hA
  subst hA
  have hc := coord123 [p.x, p.y] (by simp)
  have hr : [p.x, p.y].all sideB = true := by
    simp only [Pt.inB, Bool.and_eq_true, decide_eq_true_eq] at hp
    simp [sideB]; omega
  rw [hr] at hc
  refine enterP tabOk Try.func29 63 [0, 1, 2, 3, 5, 6, 7, 8, 10, 11, 12, 13, 20, 22, 23, 24, 25, 36, 47, 50] [.tmp 6, .tmp 7] rfl (r := [_, _]) rfl (h := ?_); intro E hK; simp only [go_sem]
  refine wgoF (And.intro (@Brd.d.eq_1) (@Pt.d.eq_1)) ?_
  refine wcallF (hc) (@iD.eq_1) ?_
  refine wgo ?_
  refine run_loop ?_
  refine wgo ?_
  exact wretF (@slD.eq_1)
def bd0 : Brd := ⟨0, [], 0, [], [⟨[97, 98], 99⟩]⟩
theorem ck0 : ckOk bd0.cs := ⟨by simp [bd0], by intro c hc; simp [bd0] at hc; subst hc; simp⟩
/-- An event of a list of examples: no stroke, touches where there is no area. -/
theorem slotEx (b : Brd) (hA : b.A = []) (hc : ckOk b.cs) (tz : Nat) (tp : List D) (e : Ev) (hl : e.lok) (h4 : e.kind ≠ 4) : PCall Try.prog 11 [b.d, .sl tz tp, e.d] (rD (slotE b.cs ([], 210) ([], 0) e)) :=
  slot19 b tz tp e hl hc ([], 210) ([], 0) (fun hv h3 => by
    obtain ⟨h1, h2⟩ := valid_one hv h3
    refine touchNone b hA tz tp _ ?_
    have : e.p.getD 0 default = e.p[0] := by simp [h1]
    rw [this]
    exact List.all_eq_true.1 h2 _ (List.getElem_mem _)) (fun _ h => absurd h h4)
theorem lok_small (k : Int) (keys : List UInt8) (p : List Pt) (text : List UInt8) (n l : Int) (h1 : keys.length ≤ 100) (h2 : p.length ≤ 100) (h3 : text.length ≤ 100) : (⟨k, keys, p, text, n, l⟩ : Ev).lok := ⟨by show keys.length ≤ _; omega, by show p.length ≤ _; omega, by show text.length ≤ _; omega⟩
def E1 : Ev := ⟨1, [97], [], [], 0, 0⟩
def E2 : Ev := ⟨2, [97, 98], [], [], 0, 0⟩
def E3 : Ev := ⟨5, [], [], [98, 97], 0, 0⟩
def E4 : Ev := ⟨2, [97, 99], [], [], 0, 0⟩
def E5 : Ev := ⟨6, [], [], [], 0, 0⟩
def E6 : Ev := ⟨3, [], [⟨0, 0⟩], [], 0, 0⟩
theorem sanity15 : PCall Try.prog 5 [] (.bool true) := by
  have k (e : Ev) (hl : e.lok) (h4 : e.kind ≠ 4) := slotEx bd0 rfl ck0 0 [] e hl h4
  have s1 := k E1 (lok_small _ _ _ _ _ _ (by decide) (by decide) (by decide)) (by decide)
  have s2 := k E2 (lok_small _ _ _ _ _ _ (by decide) (by decide) (by decide)) (by decide)
  have s3 := k E3 (lok_small _ _ _ _ _ _ (by decide) (by decide) (by decide)) (by decide)
  have s4 := k E4 (lok_small _ _ _ _ _ _ (by decide) (by decide) (by decide)) (by decide)
  have s5 := k E5 (lok_small _ _ _ _ _ _ (by decide) (by decide) (by decide)) (by decide)
  have s6 := k E6 (lok_small _ _ _ _ _ _ (by decide) (by decide) (by decide)) (by decide)
  have r1 : slotE bd0.cs ([], 210) ([], 0) E1 = ([[⟨97, 0⟩]], 0) := by decide
  have r2 : slotE bd0.cs ([], 210) ([], 0) E2 = ([[⟨99, 0⟩]], 0) := by decide
  have r3 : slotE bd0.cs ([], 210) ([], 0) E3 = ([[⟨98, 0⟩], [⟨97, 0⟩]], 0) := by decide
  have r4 : slotE bd0.cs ([], 210) ([], 0) E4 = ([], 10) := by decide
  have r5 : slotE bd0.cs ([], 210) ([], 0) E5 = ([], 10) := by decide
  have r6 : slotE bd0.cs ([], 210) ([], 0) E6 = ([], 210) := by decide
  have hS := slots26 (slotE bd0.cs ([], 210) ([], 0)) bd0 0 [] [E1, E5] (by simp) (by intro e he; simp at he; rcases he with rfl | rfl <;> assumption) (by intro e he; simp at he; rcases he with rfl | rfl <;> (first | (rw [r1]; decide) | (rw [r5]; decide)))
  have rS : slotsF (slotE bd0.cs ([], 210) ([], 0)) [E1, E5] 0 [] = ([], 1, 10) := by decide
  rw [rS] at hS
  rw [r1] at s1; rw [r2] at s2; rw [r3] at s3; rw [r4] at s4; rw [r5] at s5; rw [r6] at s6
  have t1 := typed59 [97] (by simp)
  have t2 := typed59 [99] (by simp)
  have t3 := typed59 [98, 97] (by simp)
  have m (a : List (List Ch)) (h : sok a) := same21 a a h.1 h.1 h.2 h.2
  have sk (a : List (List Ch)) (h : (decide (a.length ≤ 100000) && a.all (fun s => decide (s.length ≤ 100000))) = true) : sok a := by
    simp only [Bool.and_eq_true, decide_eq_true_eq, List.all_eq_true] at h; exact h
  have u1 := m [[⟨97, 0⟩]] (sk _ (by decide))
  have u2 := m [[⟨99, 0⟩]] (sk _ (by decide))
  have u3 := m [[⟨98, 0⟩], [⟨97, 0⟩]] (sk _ (by decide))
  have u4 := same25 ([], 1, 10) ([], 1, 10) (sk _ (by decide)) (sk _ (by decide))
  rw [decide_eq_true rfl] at u1 u2 u3 u4
  have v1 := costs60 [97, 99] 5 (.inr (by decide))
  have v2 := costs60 [98, 99] 2 (.inr (by decide))
  have v3 := costs60 [99, 99] (-1) (.inl (by decide))
  have v4 := costs60 [97] (-1) (.inl (by decide))
  refine enterP tabOk Try.func5 121 [0, 1, 2, 3, 4, 5, 6, 7, 8, 9, 11, 13, 15, 16, 17] [.tmp 0] rfl (r := [_]) rfl (h := ?_); intro E hK; simp only [go_sem]
  refine wgo ?_
  refine wcallF (s1) (And.intro (@Brd.d.eq_1) (And.intro (@bd0.eq_1) (And.intro (@E1.eq_1) (And.intro (@Ev.d.eq_1) (@Ck.d.eq_1))))) ?_
  refine wgoF (@rD.eq_1) ?_
  refine wcallF (s2) (And.intro (@Brd.d.eq_1) (And.intro (@bd0.eq_1) (And.intro (@E2.eq_1) (And.intro (@Ev.d.eq_1) (@Ck.d.eq_1))))) ?_
  refine wgoF (@rD.eq_1) ?_
  refine wcallF (s3) (And.intro (@Brd.d.eq_1) (And.intro (@bd0.eq_1) (And.intro (@E3.eq_1) (And.intro (@Ev.d.eq_1) (@Ck.d.eq_1))))) ?_
  refine wgoF (@rD.eq_1) ?_
  refine wcallF (s4) (And.intro (@Brd.d.eq_1) (And.intro (@bd0.eq_1) (And.intro (@E4.eq_1) (And.intro (@Ev.d.eq_1) (@Ck.d.eq_1))))) ?_
  refine wgoF (@rD.eq_1) ?_
  refine wcallF (s5) (And.intro (@Brd.d.eq_1) (And.intro (@bd0.eq_1) (And.intro (@E5.eq_1) (And.intro (@Ev.d.eq_1) (@Ck.d.eq_1))))) ?_
  refine wgoF (@rD.eq_1) ?_
  refine wcallF (s6) (And.intro (@Brd.d.eq_1) (And.intro (@bd0.eq_1) (And.intro (@E6.eq_1) (And.intro (@Ev.d.eq_1) (And.intro (@Ck.d.eq_1) (@Pt.d.eq_1)))))) ?_
  refine wgoF (@rD.eq_1) ?_
  refine wcall (t1) ?_
  refine wgo ?_
  refine wcallF (u1) (And.intro (@slsD.eq_1) (@slD.eq_1)) ?_
  refine wgo ?_
  refine wcall (t2) ?_
  refine wgo ?_
  refine wcallF (u2) (And.intro (@slsD.eq_1) (@slD.eq_1)) ?_
  refine wgo ?_
  refine wcall (t3) ?_
  refine wgo ?_
  refine wcallF (u3) (And.intro (@slsD.eq_1) (@slD.eq_1)) ?_
  refine wgo ?_
  refine wcallF (hS) (And.intro (@Brd.d.eq_1) (And.intro (@bd0.eq_1) (And.intro (@E1.eq_1) (And.intro (@E5.eq_1) (And.intro (@Ev.d.eq_1) (@Ck.d.eq_1)))))) ?_
  refine wgo ?_
  refine wcallF (u4) (And.intro (@r3A.eq_1) (And.intro (@slsD.eq_1) (@slD.eq_1))) ?_
  refine wgo ?_
  refine wcall (v1) ?_
  refine wgo ?_
  refine wcall (v2) ?_
  refine wgo ?_
  refine wcall (v3) ?_
  refine wgo ?_
  refine wcall (v4) ?_
  refine wgo ?_
  exact wret
end Go.Proofs.Ytojgjdcciojpeaa

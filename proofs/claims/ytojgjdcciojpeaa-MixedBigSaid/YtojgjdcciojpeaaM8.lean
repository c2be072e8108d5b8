/-
  A part of the walks of this seat: each theorem says what a function of the program gives. No condition beyond its own premises.
-/
import Derived.Test.YtojgjdcciojpeaaM7
set_option linter.unusedSimpArgs false
set_option linter.unusedVariables false
namespace Go.Proofs.Ytojgjdcciojpeaa
open Go Go.PS
set_option maxRecDepth 100000
set_option maxHeartbeats 4000000
/-- The slots of events one after the other: the slots, the number, the error. -/
def slotsF (F : Ev → List (List Ch) × Int) : List Ev → Nat → List (List Ch) → List (List Ch) × Int × Int
  | [], i, acc => (acc, i, 0)
  | e :: r, i, acc => if (F e).2 ≠ 0 then ([], i, (F e).2) else if 40 < acc.length + (F e).1.length then ([], i, 2) else slotsF F r (i + 1) (acc ++ (F e).1)
theorem slots_drop (F : Ev → List (List Ch) × Int) {l : List Ev} {i : Nat} (h : i < l.length) (acc : List (List Ch)) : slotsF F (l.drop i) i acc = if (F (l.getD i default)).2 ≠ 0 then ([], (i : Int), (F (l.getD i default)).2) else if 40 < acc.length + (F (l.getD i default)).1.length then ([], (i : Int), 2) else slotsF F (l.drop (i + 1)) (i + 1) (acc ++ (F (l.getD i default)).1) := by
  have e : l.getD i default = l[i] := by simp [h]
  rw [List.drop_eq_getElem_cons h, slotsF, e]
theorem ev_get {l : List Ev} {i : Nat} (h : i < l.length) : (List.map Ev.d l).getD i .nilp = .agg [.int .i64 (l.getD i default).kind, .str (l.getD i default).keys, .sl 2 ((l.getD i default).p.map Pt.d), .str (l.getD i default).text, .int .i64 (l.getD i default).n, .int .i64 (l.getD i default).l] := by simp [h, Ev.d]
def r3D (r : List (List Ch) × Int × Int) : D := .tup [slsD r.1, .int .i64 r.2.1, .int .i64 r.2.2]
def r3A (r : List (List Ch) × Int × Int) : D := .agg [slsD r.1, .int .i64 r.2.1, .int .i64 r.2.2]
theorem getD_memE {l : List Ev} {i : Nat} (h : i < l.length) : l.getD i default ∈ l := by
  have e : l.getD i default = l[i] := by simp [h]
  rw [e]; exact List.getElem_mem h
theorem mlen (a : List (List Ch)) : (List.map slD a).length = a.length := List.length_map ..
theorem mapp (a b : List (List Ch)) : List.map slD a ++ List.map slD b = List.map slD (a ++ b) := List.map_append.symm
theorem slots58 (F : Ev → List (List Ch) × Int) (b : Brd) (tz : Nat) (tp : List D) (l : List Ev) (hl : l.length ≤ 100000) (hF : ∀ e ∈ l, PCall Try.prog 11 [b.d, .sl tz tp, e.d] (rD (F e))) (hb : ∀ e ∈ l, (F e).1.length ≤ 100000) :
    PCall Try.prog 14 [b.d, .sl tz tp, .sl 6 (l.map Ev.d)] (r3D (slotsF F l 0 [])) := by
  refine enterP tabOk Try.func14 46 [0, 1, 2, 3, 6, 7, 8, 9, 10, 11, 12, 14, 15, 16, 29, 37] [.tmp 6, .tmp 7, .tmp 8] rfl (r := [_, _, _]) rfl (h := ?_); intro E hK; simp only [go_sem]
  refine wgoF (@Brd.d.eq_1) ?_
  (apply Run.full 9 1009 63 1; (case hi => simp only [go_sem]; rfl); (case ht => simp only [go_sem]); (case hmn => first | exact Or.inl (by decide) | exact Or.inr rfl); (case hs => simp only [go_sem]; rfl))
  refine wlp (Run.loopC (ι := { x : Nat × List (List Ch) // x.1 ≤ l.length ∧ x.2.length ≤ 40 ∧ slotsF F (l.drop x.1) x.1 x.2 = slotsF F l 0 [] }) (U := fun x => [(9, .own 1 (x.1.2.map slD) (.tok 1009)), (15, .d (.int .i64 x.1.1))]) (O := fun i => []) (K := fun _ => [(1009, .live 63 1)]) (μ := fun x => l.length - x.1.1) (i0 := ⟨(0, []), by omega, by simp, rfl⟩)) ?_
  rintro ⟨⟨i, acc⟩, hi, ha, hp⟩ ih
  dsimp only at hi ha hp
  by_cases hlt : i < l.length
  · have h1 : (i : Int) < l.length := by omega
    have hget := ev_get hlt
    have hc := hF _ (getD_memE hlt)
    have hbb := hb _ (getD_memE hlt)
    rw [slots_drop F hlt] at hp
    generalize F (l.getD i default) = r at hc hbb hp
    obtain ⟨s, x⟩ := r
    dsimp only at hbb hp
    by_cases hx : x = 0
    · subst hx
      rw [if_neg (by simp)] at hp
      by_cases hbig : 40 < acc.length + s.length
      · rw [if_pos hbig] at hp
        have hp2 := hp.symm
        have c1 : (40 : Int) < (acc.length : Int) + (s.length : Int) := by omega
        have e1 := mlen acc
        have e2 := mlen s
        simp only [go_sem]
        refine wgoF (And.intro (@h1) (@hget)) ?_
        refine wcallF (hc) (And.intro (@Ev.d.eq_1) (@Brd.d.eq_1)) ?_
        refine wgoF (And.intro (@rD.eq_1) (And.intro (@slsD.eq_1) (And.intro (@e1) (And.intro (@e2) (@c1))))) ?_
        exact wretF (And.intro (@r3D.eq_1) (And.intro (@hp2) (@slsD.eq_1)))
      · rw [if_neg hbig] at hp
        have c1 : ¬ (40 : Int) < (acc.length : Int) + (s.length : Int) := by omega
        have e1 := mlen acc
        have e2 := mlen s
        have e3 := mapp acc s
        simp only [go_sem]
        refine wgoF (And.intro (@h1) (@hget)) ?_
        refine wcallF (hc) (And.intro (@Ev.d.eq_1) (@Brd.d.eq_1)) ?_
        refine wgoF (And.intro (@rD.eq_1) (And.intro (@slsD.eq_1) (And.intro (@e1) (And.intro (@e2) (@c1))))) ?_
        (apply Run.retok 41 1009; (case hk => simp only [go_sem]; rfl); (case ht => simp only [go_sem]; rfl); (case ht' => simp only [go_sem]); (case hs => simp only [go_sem]; rfl))
        exact wnxt (ih ⟨(i + 1, acc ++ s), by omega, by simp; omega, hp⟩)
    · have hx2 : decide (x = 0) = false := decide_eq_false hx
      rw [if_pos hx] at hp
      have hp2 := hp.symm
      simp only [go_sem]
      refine wgoF (And.intro (@h1) (@hget)) ?_
      refine wcallF (hc) (And.intro (@Ev.d.eq_1) (@Brd.d.eq_1)) ?_
      refine wgoF (And.intro (@rD.eq_1) (And.intro (@slsD.eq_1) (@hx2))) ?_
      exact wretF (And.intro (@r3D.eq_1) (And.intro (@hp2) (@slsD.eq_1)))
  · have h1 : ¬ (i : Int) < l.length := by omega
    obtain rfl : i = l.length := by omega
    have hp2 : slotsF F l 0 [] = (acc, (l.length : Int), 0) := by rw [← hp, List.drop_length]; rfl
    simp only [go_sem]
    refine wgoF (@h1) ?_
    exact wretF (And.intro (@r3D.eq_1) (And.intro (@hp2) (@slsD.eq_1)))
theorem slots26 (F : Ev → List (List Ch) × Int) (b : Brd) (tz : Nat) (tp : List D) (l : List Ev) (hl : l.length ≤ 100000) (hF : ∀ e ∈ l, PCall Try.prog 11 [b.d, .sl tz tp, e.d] (rD (F e))) (hb : ∀ e ∈ l, (F e).1.length ≤ 100000) :
    PCall Try.prog 8 [b.d, .sl tz tp, .sl 6 (l.map Ev.d)] (r3A (slotsF F l 0 [])) := by
  have hs := slots58 F b tz tp l hl hF hb
  generalize slotsF F l 0 [] = r at hs
  refine enterP tabOk Try.func8 22 [0, 1, 2, 3, 6, 7, 8, 9] [.cell 6 39] rfl (r := [_]) rfl (h := ?_); intro E hK; simp only [go_sem]
  refine wgoF (@Brd.d.eq_1) ?_
  refine wcallF (hs) (@Brd.d.eq_1) ?_
  refine wgoF (And.intro (@r3D.eq_1) (@slsD.eq_1)) ?_
  exact wretF (And.intro (@r3A.eq_1) (@slsD.eq_1))
def sok (l : List (List Ch)) : Prop := l.length ≤ 100000 ∧ ∀ s ∈ l, s.length ≤ 100000
theorem same25 (a b : List (List Ch) × Int × Int) (ha : sok a.1) (hb : sok b.1) : PCall Try.prog 12 [r3A a, r3A b] (.bool (decide (a = b))) := by
  obtain ⟨a1, a2, a3⟩ := a
  obtain ⟨b1, b2, b3⟩ := b
  have hs := same21 a1 b1 ha.1 hb.1 ha.2 hb.2
  have hr : decide ((a1, a2, a3) = (b1, b2, b3)) = ((decide (a1 = b1) && decide (a2 = b2)) && decide (a3 = b3)) := by
    simp only [Prod.mk.injEq, Bool.decide_and, Bool.and_assoc]
  rw [hr]
  refine enterP tabOk Try.func12 24 [0, 1, 2, 3, 4] [.tmp 4] rfl (r := [_]) rfl (h := ?_); intro E hK; simp only [go_sem]
  refine wgoF (And.intro (@r3A.eq_1) (@slsD.eq_1)) ?_
  refine wcallF (hs) (@slsD.eq_1) ?_
  refine wgo ?_
  exact wret
end Go.Proofs.Ytojgjdcciojpeaa

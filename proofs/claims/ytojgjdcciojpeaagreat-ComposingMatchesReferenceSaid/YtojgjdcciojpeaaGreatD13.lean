/-
  A part of the walks of this seat: each theorem says what a function of the program gives. No condition beyond its own premises.
-/
import Derived.Test.YtojgjdcciojpeaaGreatD12
set_option linter.unusedSimpArgs false
set_option linter.unusedVariables false
namespace Go.Proofs.YtojgjdcciojpeaaGreat
open Go Go.PS
set_option maxRecDepth 100000
set_option maxHeartbeats 4000000
/-- The slots of events one after the other: the slots, the number, the error. -/
def slotsF (F : Ev → List (List Ch) × Int) : List Ev → Nat → List (List Ch) → List (List Ch) × Int × Int
  | [], i, acc => (acc, i, 0)
  | e :: r, i, acc => if (F e).2 ≠ 0 then ([], i, (F e).2) else if 40 < acc.length + (F e).1.length then ([], i, 2) else slotsF F r (i + 1) (acc ++ (F e).1)
theorem slots_drop (F : Ev → List (List Ch) × Int) {l : List Ev} {i : Nat} (h : i < l.length) (acc : List (List Ch)) : slotsF F (l.drop i) i acc = if (F (l.getD i default)).2 ≠ 0 then ([], (i : Int), (F (l.getD i default)).2) else if 40 < acc.length + (F (l.getD i default)).1.length then ([], (i : Int), 2) else slotsF F (l.drop (i + 1)) (i + 1) (acc ++ (F (l.getD i default)).1) := by
  have e : l.getD i default = l[i] := by simp [h]
  rw [List.drop_eq_getElem_cons h, slotsF, e]
theorem ev_get {l : List Ev} {i : Nat} (h : i < l.length) : (List.map Ev.d l).getD i .nilp = .agg [.int .i64 (l.getD i default).kind, .str (l.getD i default).keys, .sl 2 ((l.getD i default).p.map Pt.d), .str (l.getD i default).text, .int .i64 (l.getD i default).n, .int .i64 (l.getD i default).l] := by simp [h, Ev.d]
def r3D (r : List (List Ch) × Int × Int) : D := .tup [slsD r.1, .int .i64 r.2.1, .int .i64 r.2.2]
def r3A (r : List (List Ch) × Int × Int) : D := .agg [slsD r.1, .int .i64 r.2.1, .int .i64 r.2.2]
theorem getD_memE {l : List Ev} {i : Nat} (h : i < l.length) : l.getD i default ∈ l := by
  have e : l.getD i default = l[i] := by simp [h]
  rw [e]; exact List.getElem_mem h
theorem mlen (a : List (List Ch)) : (List.map slD a).length = a.length := List.length_map ..
theorem mapp (a b : List (List Ch)) : List.map slD a ++ List.map slD b = List.map slD (a ++ b) := List.map_append.symm
theorem slots58 (F : Ev → List (List Ch) × Int) (b : Brd) (tz : Nat) (tp : List D) (l : List Ev) (hl : l.length ≤ 100000) (hF : ∀ e ∈ l, PCall Tryz.prog 19 [b.d, .sl tz tp, e.d] (rD (F e))) (hb : ∀ e ∈ l, (F e).1.length ≤ 100000) :
    PCall Tryz.prog 58 [b.d, .sl tz tp, .sl 6 (l.map Ev.d)] (r3D (slotsF F l 0 [])) := by
  refine enterP tabOk Tryz.func58 46 [0, 1, 2, 3, 6, 7, 8, 9, 10, 11, 12, 14, 15, 16, 29, 37] [.tmp 6, .tmp 7, .tmp 8] rfl (r := [_, _, _]) rfl (h := ?_); intro E hK; simp only [go_sem]
  refine wgoF (@Brd.d.eq_1) ?_
  (apply Run.full 9 1009 64 1; (case hi => simp only [go_sem]; rfl); (case ht => simp only [go_sem]); (case hmn => first | exact Or.inl (by decide) | exact Or.inr rfl); (case hs => simp only [go_sem]; rfl))
  refine wlp (Run.loopC (ι := { x : Nat × List (List Ch) // x.1 ≤ l.length ∧ x.2.length ≤ 40 ∧ slotsF F (l.drop x.1) x.1 x.2 = slotsF F l 0 [] }) (U := fun x => [(9, .own 1 (x.1.2.map slD) (.tok 1009)), (15, .d (.int .i64 x.1.1))]) (O := fun i => []) (K := fun _ => [(1009, .live 64 1)]) (μ := fun x => l.length - x.1.1) (i0 := ⟨(0, []), by omega, by simp, rfl⟩)) ?_
  rintro ⟨⟨i, acc⟩, hi, ha, hp⟩ ih
  dsimp only at hi ha hp
  by_cases hlt : i < l.length
  · have h1 : (i : Int) < l.length := by omega
    have hget := ev_get hlt
    have hc := hF _ (getD_memE hlt)
    have hbb := hb _ (getD_memE hlt)
    rw [slots_drop F hlt] at hp
    generalize F (l.getD i default) = r at hc hbb hp
    obtain ⟨s, x⟩ := r
    dsimp only at hbb hp
    by_cases hx : x = 0
    · subst hx
      rw [if_neg (by simp)] at hp
      by_cases hbig : 40 < acc.length + s.length
      · rw [if_pos hbig] at hp
        have hp2 := hp.symm
        have c1 : (40 : Int) < (acc.length : Int) + (s.length : Int) := by omega
        have e1 := mlen acc
        have e2 := mlen s
        simp only [go_sem]
        refine wgoF (And.intro (@h1) (@hget)) ?_
        refine wcallF (hc) (And.intro (@Ev.d.eq_1) (@Brd.d.eq_1)) ?_
        refine wgoF (And.intro (@rD.eq_1) (And.intro (@slsD.eq_1) (And.intro (@e1) (And.intro (@e2) (@c1))))) ?_
        exact wretF (And.intro (@r3D.eq_1) (And.intro (@hp2) (@slsD.eq_1)))
      · rw [if_neg hbig] at hp
        have c1 : ¬ (40 : Int) < (acc.length : Int) + (s.length : Int) := by omega
        have e1 := mlen acc
        have e2 := mlen s
        have e3 := mapp acc s
        simp only [go_sem]
        refine wgoF (And.intro (@h1) (@hget)) ?_
        refine wcallF (hc) (And.intro (@Ev.d.eq_1) (@Brd.d.eq_1)) ?_
        refine wgoF (And.intro (@rD.eq_1) (And.intro (@slsD.eq_1) (And.intro (@e1) (And.intro (@e2) (@c1))))) ?_
        (apply Run.retok 41 1009; (case hk => simp only [go_sem]; rfl); (case ht => simp only [go_sem]; rfl); (case ht' => simp only [go_sem]); (case hs => simp only [go_sem]; rfl))
        exact wnxt (ih ⟨(i + 1, acc ++ s), by omega, by simp; omega, hp⟩)
    · have hx2 : decide (x = 0) = false := decide_eq_false hx
      rw [if_pos hx] at hp
      have hp2 := hp.symm
      simp only [go_sem]
      refine wgoF (And.intro (@h1) (@hget)) ?_
      refine wcallF (hc) (And.intro (@Ev.d.eq_1) (@Brd.d.eq_1)) ?_
      refine wgoF (And.intro (@rD.eq_1) (And.intro (@slsD.eq_1) (@hx2))) ?_
      exact wretF (And.intro (@r3D.eq_1) (And.intro (@hp2) (@slsD.eq_1)))
  · have h1 : ¬ (i : Int) < l.length := by omega
    obtain rfl : i = l.length := by omega
    have hp2 : slotsF F l 0 [] = (acc, (l.length : Int), 0) := by rw [← hp, List.drop_length]; rfl
    simp only [go_sem]
    refine wgoF (@h1) ?_
    exact wretF (And.intro (@r3D.eq_1) (And.intro (@hp2) (@slsD.eq_1)))
theorem slots26 (F : Ev → List (List Ch) × Int) (b : Brd) (tz : Nat) (tp : List D) (l : List Ev) (hl : l.length ≤ 100000) (hF : ∀ e ∈ l, PCall Tryz.prog 19 [b.d, .sl tz tp, e.d] (rD (F e))) (hb : ∀ e ∈ l, (F e).1.length ≤ 100000) :
    PCall Tryz.prog 26 [b.d, .sl tz tp, .sl 6 (l.map Ev.d)] (r3A (slotsF F l 0 [])) := by
  have hs := slots58 F b tz tp l hl hF hb
  generalize slotsF F l 0 [] = r at hs
  refine enterP tabOk Tryz.func26 22 [0, 1, 2, 3, 6, 7, 8, 9] [.cell 6 50] rfl (r := [_]) rfl (h := ?_); intro E hK; simp only [go_sem]
  refine wgoF (@Brd.d.eq_1) ?_
  refine wcallF (hs) (@Brd.d.eq_1) ?_
  refine wgoF (And.intro (@r3D.eq_1) (@slsD.eq_1)) ?_
  exact wretF (And.intro (@r3A.eq_1) (@slsD.eq_1))
def sok (l : List (List Ch)) : Prop := l.length ≤ 100000 ∧ ∀ s ∈ l, s.length ≤ 100000
theorem same25 (a b : List (List Ch) × Int × Int) (ha : sok a.1) (hb : sok b.1) : PCall Tryz.prog 25 [r3A a, r3A b] (.bool (decide (a = b))) := by
  obtain ⟨a1, a2, a3⟩ := a
  obtain ⟨b1, b2, b3⟩ := b
  have hs := same21 a1 b1 ha.1 hb.1 ha.2 hb.2
  have hr : decide ((a1, a2, a3) = (b1, b2, b3)) = ((decide (a1 = b1) && decide (a2 = b2)) && decide (a3 = b3)) := by
    simp only [Prod.mk.injEq, Bool.decide_and, Bool.and_assoc]
  rw [hr]
  refine enterP tabOk Tryz.func25 24 [0, 1, 2, 3, 4] [.tmp 4] rfl (r := [_]) rfl (h := ?_); intro E hK; simp only [go_sem]
  refine wgoF (And.intro (@r3A.eq_1) (@slsD.eq_1)) ?_
  refine wcallF (hs) (@slsD.eq_1) ?_
  refine wgo ?_
  exact wret
end Go.Proofs.YtojgjdcciojpeaaGreat
set_option linter.unusedSimpArgs false
set_option linter.unusedVariables false
namespace Go.Proofs.YtojgjdcciojpeaaGreat
open Go Go.PS
set_option maxRecDepth 100000
set_option maxHeartbeats 4000000
/-! Compositions. -/
structure Cp where
  ev : List Ev
  sl : List (List Ch)
  cu : Int
  pn : List Pn
  ch : Int
  deriving DecidableEq, Inhabited
def Cp.d (c : Cp) : D := .agg [.sl 6 (c.ev.map Ev.d), .sl 1 (c.sl.map slD), .int .i64 c.cu, .sl 3 (c.pn.map Pn.d), .int .i64 c.ch]
/-- What is said of a composition. -/
structure Cp.ok (c : Cp) : Prop where
  len : c.sl.length = c.ev.length
  max : c.ev.length ≤ 40
  lo : 0 ≤ c.cu
  hi : c.cu ≤ c.ev.length
  pv : pvTo (c.ev.length : Int) c.pn 0 = true
theorem Cp.ok.pins {c : Cp} (h : c.ok) : pnOk c.pn := pv_ok (by have := h.max; omega) h.pv
def insAt {α : Type} (l : List α) (n : Nat) (v : α) : List α := l.take n ++ v :: l.drop n
def delAt {α : Type} (l : List α) (n : Nat) : List α := l.take n ++ l.drop (n + 1)
def typedC (c : Cp) (e : Ev) (s : List Ch) : Cp := ⟨insAt c.ev c.cu.toNat e, insAt c.sl c.cu.toNat s, c.cu + 1, insF c.pn c.cu, 0⟩
def erasedC (c : Cp) : Cp := ⟨delAt c.ev (c.cu - 1).toNat, delAt c.sl (c.cu - 1).toNat, c.cu - 1, delF c.pn (c.cu - 1), 0⟩
theorem insE (l : List Ev) (n : Nat) (hn : n ≤ l.length) (hl : l.length ≤ 1000) (e : Ev) : PCall Tryz.prog 140 [.sl 6 (l.map Ev.d), .int .i64 n, e.d] (.sl 6 ((insAt l n e).map Ev.d)) := by
  have h1 : (n : Int) ≤ l.length := by omega
  have e1 : (List.map Ev.d l).length = l.length := List.length_map ..
  have e2 : List.take n (List.map Ev.d l) = List.map Ev.d (l.take n) := by rw [List.map_take]
  have e3 : List.drop n (List.map Ev.d l) = List.map Ev.d (l.drop n) := by rw [List.map_drop]
  have e4 : List.take (l.length - n) (List.map Ev.d (l.drop n)) = List.map Ev.d (l.drop n) := List.take_of_length_le (by simp)
  have e5 : (List.map Ev.d (l.take n)).length = n := by simp; omega
  have e6 : (List.map Ev.d (l.drop n)).length = l.length - n := by simp
  have e7 : insAt l n e = l.take n ++ e :: l.drop n := rfl
  have e8 : (List.map Ev.d (l.take n) ++ [D.agg [.int .i64 e.kind, .str e.keys, .sl 2 (e.p.map Pt.d), .str e.text, .int .i64 e.n, .int .i64 e.l]]) ++ List.map Ev.d (l.drop n) = List.map Ev.d (insAt l n e) := by
    show (List.map Ev.d (l.take n) ++ [e.d]) ++ _ = _
    rw [e7]; simp
  refine enterP tabOk Tryz.func140 26 [0, 1, 2, 5, 6, 7] [.tmp 6] rfl (r := [_]) rfl (h := ?_); intro E hK; simp only [go_sem]
  refine wgoF (And.intro (@Ev.d.eq_1) (And.intro (@e1) (And.intro (@h1) (And.intro (@e2) (And.intro (@e3) (And.intro (@e4) (And.intro (@e5) (@e6)))))))) ?_
  exact wretF (@e8)
theorem insS (l : List (List Ch)) (n : Nat) (hn : n ≤ l.length) (hl : l.length ≤ 1000) (e : List Ch) : PCall Tryz.prog 141 [.sl 1 (l.map slD), .int .i64 n, slD e] (.sl 1 ((insAt l n e).map slD)) := by
  have h1 : (n : Int) ≤ l.length := by omega
  have e1 : (List.map slD l).length = l.length := List.length_map ..
  have e2 : List.take n (List.map slD l) = List.map slD (l.take n) := by rw [List.map_take]
  have e3 : List.drop n (List.map slD l) = List.map slD (l.drop n) := by rw [List.map_drop]
  have e4 : List.take (l.length - n) (List.map slD (l.drop n)) = List.map slD (l.drop n) := List.take_of_length_le (by simp)
  have e5 : (List.map slD (l.take n)).length = n := by simp; omega
  have e6 : (List.map slD (l.drop n)).length = l.length - n := by simp
  have e7 : insAt l n e = l.take n ++ e :: l.drop n := rfl
  have e8 : (List.map slD (l.take n) ++ [D.sl 2 (e.map Ch.d)]) ++ List.map slD (l.drop n) = List.map slD (insAt l n e) := by
    show (List.map slD (l.take n) ++ [slD e]) ++ _ = _
    rw [e7]; simp
  refine enterP tabOk Tryz.func141 26 [0, 1, 2, 6, 7] [.tmp 6] rfl (r := [_]) rfl (h := ?_); intro E hK; simp only [go_sem]
  refine wgoF (And.intro (@slD.eq_1) (And.intro (@e1) (And.intro (@h1) (And.intro (@e2) (And.intro (@e3) (And.intro (@e4) (And.intro (@e5) (@e6)))))))) ?_
  exact wretF (@e8)
theorem delE (l : List Ev) (n : Nat) (hn : n < l.length) (hl : l.length ≤ 1000) : PCall Tryz.prog 117 [.sl 6 (l.map Ev.d), .int .i64 n] (.sl 6 ((delAt l n).map Ev.d)) := by
  have h1 : (n : Int) ≤ l.length := by omega
  have h2 : (n : Int) + 1 ≤ l.length := by omega
  have e0 : ((n : Int) + 1).toNat = n + 1 := by omega
  have e1 : (List.map Ev.d l).length = l.length := List.length_map ..
  have e2 : List.take n (List.map Ev.d l) = List.map Ev.d (l.take n) := by rw [List.map_take]
  have e3 : List.drop (n + 1) (List.map Ev.d l) = List.map Ev.d (l.drop (n + 1)) := by rw [List.map_drop]
  have e4 : List.take (l.length - (n + 1)) (List.map Ev.d (l.drop (n + 1))) = List.map Ev.d (l.drop (n + 1)) := List.take_of_length_le (by simp)
  have e5 : (List.map Ev.d (l.take n)).length = n := by simp; omega
  have e6 : (List.map Ev.d (l.drop (n + 1))).length = l.length - (n + 1) := by simp
  have e8 : List.map Ev.d (l.take n) ++ List.map Ev.d (l.drop (n + 1)) = List.map Ev.d (delAt l n) := by unfold delAt; simp
  refine enterP tabOk Tryz.func117 20 [0, 1, 4, 5] [.tmp 4] rfl (r := [_]) rfl (h := ?_); intro E hK; simp only [go_sem]
  refine wgoF (And.intro (@e0) (And.intro (@e1) (And.intro (@h1) (And.intro (@h2) (And.intro (@e2) (And.intro (@e3) (And.intro (@e4) (And.intro (@e5) (@e6))))))))) ?_
  exact wretF (@e8)
theorem delS (l : List (List Ch)) (n : Nat) (hn : n < l.length) (hl : l.length ≤ 1000) : PCall Tryz.prog 118 [.sl 1 (l.map slD), .int .i64 n] (.sl 1 ((delAt l n).map slD)) := by
  have h1 : (n : Int) ≤ l.length := by omega
  have h2 : (n : Int) + 1 ≤ l.length := by omega
  have e0 : ((n : Int) + 1).toNat = n + 1 := by omega
  have e1 : (List.map slD l).length = l.length := List.length_map ..
  have e2 : List.take n (List.map slD l) = List.map slD (l.take n) := by rw [List.map_take]
  have e3 : List.drop (n + 1) (List.map slD l) = List.map slD (l.drop (n + 1)) := by rw [List.map_drop]
  have e4 : List.take (l.length - (n + 1)) (List.map slD (l.drop (n + 1))) = List.map slD (l.drop (n + 1)) := List.take_of_length_le (by simp)
  have e5 : (List.map slD (l.take n)).length = n := by simp; omega
  have e6 : (List.map slD (l.drop (n + 1))).length = l.length - (n + 1) := by simp
  have e8 : List.map slD (l.take n) ++ List.map slD (l.drop (n + 1)) = List.map slD (delAt l n) := by unfold delAt; simp
  refine enterP tabOk Tryz.func118 20 [0, 1, 4, 5] [.tmp 4] rfl (r := [_]) rfl (h := ?_); intro E hK; simp only [go_sem]
  refine wgoF (And.intro (@e0) (And.intro (@e1) (And.intro (@h1) (And.intro (@h2) (And.intro (@e2) (And.intro (@e3) (And.intro (@e4) (And.intro (@e5) (@e6))))))))) ?_
  exact wretF (@e8)
theorem cu_nat {c : Cp} (h : c.ok) : ((c.cu.toNat : Nat) : Int) = c.cu := by have := h.lo; omega
theorem typed116 (c : Cp) (e : Ev) (s : List Ch) (h : c.ok) : PCall Tryz.prog 116 [c.d, e.d, slD s] (typedC c e s).d := by
  have hn := cu_nat h
  have hh := h.hi
  have hm := h.max
  have h1 := insE c.ev c.cu.toNat (by omega) (by omega) e
  have h2 := insS c.sl c.cu.toNat (by have := h.len; omega) (by have := h.len; omega) s
  have h3 := insert142 c.pn c.cu h.pins
  rw [hn] at h1 h2
  have hlo := h.lo
  refine enterP tabOk Tryz.func116 28 [0, 1, 2, 3, 4, 6] [.cell 6 81] rfl (r := [_]) rfl (h := ?_); intro E hK; simp only [go_sem]
  refine wgoF (And.intro (@Cp.d.eq_1) (And.intro (@Ev.d.eq_1) (@slD.eq_1))) ?_
  refine wcallF (h1) (@Ev.d.eq_1) ?_
  refine wgo ?_
  refine wcallF (h2) (@slD.eq_1) ?_
  refine wgo ?_
  refine wcall (h3) ?_
  refine wgo ?_
  exact wretF (And.intro (@Cp.d.eq_1) (@typedC.eq_1))
theorem copied45 (c : Cp) (h : c.ok) : PCall Tryz.prog 45 [c.d] c.d := by
  have l1 := h.len
  have l2 := h.max
  have l3 := h.pins.1
  refine enterP tabOk Tryz.func45 20 [0, 1, 2] [.cell 2 81] rfl (r := [_]) rfl (h := ?_); intro E hK; simp only [go_sem]
  refine wgoF (@Cp.d.eq_1) ?_
  exact wretF (@Cp.d.eq_1)
theorem typed106 (c : Cp) (e : Ev) (s : List Ch) (h : c.ok) : PCall Tryz.prog 106 [c.d, e.d, slD s] (typedC c e s).d := by
  have hn := cu_nat h
  have hh := h.hi
  have hm := h.max
  have hlo := h.lo
  have hln := h.len
  have h3 := rinsert121 c.pn c.cu h.pins
  have g1 : c.cu ≤ c.ev.length := hh
  have g2 : c.cu ≤ c.sl.length := by omega
  have e2 : List.take c.cu.toNat (List.map Ev.d c.ev) = List.map Ev.d (c.ev.take c.cu.toNat) := by rw [List.map_take]
  have e3 : List.drop c.cu.toNat (List.map Ev.d c.ev) = List.map Ev.d (c.ev.drop c.cu.toNat) := by rw [List.map_drop]
  have e4 : List.take (c.ev.length - c.cu.toNat) (List.map Ev.d (c.ev.drop c.cu.toNat)) = List.map Ev.d (c.ev.drop c.cu.toNat) := List.take_of_length_le (by simp)
  have e5 : (List.map Ev.d (c.ev.take c.cu.toNat)).length = c.cu.toNat := by simp; omega
  have e6 : (List.map Ev.d (c.ev.drop c.cu.toNat)).length = c.ev.length - c.cu.toNat := by simp
  have e8 : (List.map Ev.d (c.ev.take c.cu.toNat) ++ [D.agg [.int .i64 e.kind, .str e.keys, .sl 2 (e.p.map Pt.d), .str e.text, .int .i64 e.n, .int .i64 e.l]]) ++ List.map Ev.d (c.ev.drop c.cu.toNat) = List.map Ev.d (insAt c.ev c.cu.toNat e) := by
    show (List.map Ev.d (c.ev.take c.cu.toNat) ++ [e.d]) ++ _ = _
    unfold insAt; simp
  have f2 : List.take c.cu.toNat (List.map slD c.sl) = List.map slD (c.sl.take c.cu.toNat) := by rw [List.map_take]
  have f3 : List.drop c.cu.toNat (List.map slD c.sl) = List.map slD (c.sl.drop c.cu.toNat) := by rw [List.map_drop]
  have f4 : List.take (c.sl.length - c.cu.toNat) (List.map slD (c.sl.drop c.cu.toNat)) = List.map slD (c.sl.drop c.cu.toNat) := List.take_of_length_le (by simp)
  have f5 : (List.map slD (c.sl.take c.cu.toNat)).length = c.cu.toNat := by simp; omega
  have f6 : (List.map slD (c.sl.drop c.cu.toNat)).length = c.sl.length - c.cu.toNat := by simp
  have f8 : (List.map slD (c.sl.take c.cu.toNat) ++ [D.sl 2 (s.map Ch.d)]) ++ List.map slD (c.sl.drop c.cu.toNat) = List.map slD (insAt c.sl c.cu.toNat s) := by
    show (List.map slD (c.sl.take c.cu.toNat) ++ [slD s]) ++ _ = _
    unfold insAt; simp
  refine enterP tabOk Tryz.func106 63 [0, 1, 2, 3, 4, 6, 7, 8] [.cell 6 81] rfl (r := [_]) rfl (h := ?_); intro E hK; simp only [go_sem]
  refine wgoF (And.intro (@Cp.d.eq_1) (And.intro (@Ev.d.eq_1) (@slD.eq_1))) ?_
  refine wcall (h3) ?_
  refine wgoF (And.intro (@g1) (And.intro (@g2) (And.intro (@e2) (And.intro (@e3) (And.intro (@e4) (And.intro (@e5) (And.intro (@e6) (And.intro (@e8) (And.intro (@f2) (And.intro (@f3) (And.intro (@f4) (And.intro (@f5) (And.intro (@f6) (@f8)))))))))))))) ?_
  exact wretF (And.intro (@Cp.d.eq_1) (And.intro (@typedC.eq_1) (And.intro (@e8) (@f8))))
end Go.Proofs.YtojgjdcciojpeaaGreat
set_option linter.unusedSimpArgs false
set_option linter.unusedVariables false
namespace Go.Proofs.YtojgjdcciojpeaaGreat
open Go Go.PS
set_option maxRecDepth 100000
set_option maxHeartbeats 4000000
/-! What is equal is found to be equal. -/
theorem points81 (p : List Pt) (hl : p.length ≤ 9223372036854775807) : PCall Tryz.prog 81 [.sl 2 (p.map Pt.d), .sl 2 (p.map Pt.d)] (.bool true) := by
  have hz : ∀ a : Int, decide (a = a) = true := fun a => decide_eq_true rfl
  refine enterP tabOk Tryz.func81 26 [0, 1, 4, 5, 10, 14, 25] [.tmp 4] rfl (r := [_]) rfl (h := ?_); intro E hK; simp only [go_sem]
  refine wgoF (@hz) ?_
  refine wlp (Run.loopC (ι := { i : Nat // i ≤ p.length }) (U := fun i => [(5, .d (.int .i64 i.1))]) (O := fun i => []) (K := fun _ => []) (μ := fun i => p.length - i.1) (i0 := ⟨0, by omega⟩)) ?_
  rintro ⟨i, hi⟩ ih
  by_cases hlt : i < p.length
  · have h1 : (i : Int) < p.length := by omega
    have hget := pt_get hlt
    simp only [go_sem]
    refine wgoF (And.intro (@h1) (And.intro (@hget) (@hz))) ?_
    exact wnxt (ih ⟨i + 1, by omega⟩)
  · have h1 : ¬ (i : Int) < p.length := by omega
    simp only [go_sem]
    refine wgoF (@h1) ?_
    exact wret
theorem same53 (e : Ev) (he : e.lok) : PCall Tryz.prog 53 [e.d, e.d] (.bool true) := by
  have hp := points81 e.p he.2.1
  have hz : ∀ a : Int, decide (a = a) = true := fun a => decide_eq_true rfl
  have hs : ∀ a : List UInt8, decide (a = a) = true := fun a => decide_eq_true rfl
  refine enterP tabOk Tryz.func53 45 [0, 1, 2, 3, 4] [.tmp 4] rfl (r := [_]) rfl (h := ?_); intro E hK; simp only [go_sem]
  refine wgoF (And.intro (@Ev.d.eq_1) (And.intro (@hz) (@hs))) ?_
  refine wcall (hp) ?_
  refine wgoF (And.intro (@hz) (@hs)) ?_
  exact wret
theorem sameAll50 (l : List Ev) (hl : l.length ≤ 1000) (he : ∀ e ∈ l, e.lok) : PCall Tryz.prog 50 [.sl 6 (l.map Ev.d), .sl 6 (l.map Ev.d)] (.bool true) := by
  have hz : ∀ a : Int, decide (a = a) = true := fun a => decide_eq_true rfl
  refine enterP tabOk Tryz.func50 27 [0, 1, 4, 5, 10, 14, 26] [.tmp 4] rfl (r := [_]) rfl (h := ?_); intro E hK; simp only [go_sem]
  refine wgoF (@hz) ?_
  refine wlp (Run.loopC (ι := { i : Nat // i ≤ l.length }) (U := fun i => [(5, .d (.int .i64 i.1))]) (O := fun i => []) (K := fun _ => []) (μ := fun i => l.length - i.1) (i0 := ⟨0, by omega⟩)) ?_
  rintro ⟨i, hi⟩ ih
  by_cases hlt : i < l.length
  · have h1 : (i : Int) < l.length := by omega
    have hget := ev_get hlt
    have hc := same53 _ (he _ (getD_memE hlt))
    simp only [go_sem]
    refine wgoF (And.intro (@h1) (@hget)) ?_
    refine wcallF (hc) (@Ev.d.eq_1) ?_
    refine wgo ?_
    exact wnxt (ih ⟨i + 1, by omega⟩)
  · have h1 : ¬ (i : Int) < l.length := by omega
    simp only [go_sem]
    refine wgoF (@h1) ?_
    exact wret
theorem psame51 (l : List Pn) (hl : l.length ≤ 1000) : PCall Tryz.prog 51 [.sl 3 (l.map Pn.d), .sl 3 (l.map Pn.d)] (.bool true) := by
  have hz : ∀ a : Int, decide (a = a) = true := fun a => decide_eq_true rfl
  refine enterP tabOk Tryz.func51 26 [0, 1, 4, 5, 10, 14, 25] [.tmp 4] rfl (r := [_]) rfl (h := ?_); intro E hK; simp only [go_sem]
  refine wgoF (@hz) ?_
  refine wlp (Run.loopC (ι := { i : Nat // i ≤ l.length }) (U := fun i => [(5, .d (.int .i64 i.1))]) (O := fun i => []) (K := fun _ => []) (μ := fun i => l.length - i.1) (i0 := ⟨0, by omega⟩)) ?_
  rintro ⟨i, hi⟩ ih
  by_cases hlt : i < l.length
  · have h1 : (i : Int) < l.length := by omega
    have hget := pn_get hlt
    simp only [go_sem]
    refine wgoF (And.intro (@h1) (And.intro (@hget) (@hz))) ?_
    exact wnxt (ih ⟨i + 1, by omega⟩)
  · have h1 : ¬ (i : Int) < l.length := by omega
    simp only [go_sem]
    refine wgoF (@h1) ?_
    exact wret
theorem sameSlots49 (l : List (List Ch)) (hl : l.length ≤ 1000) (hs : ∀ s ∈ l, s.length ≤ 100000) : PCall Tryz.prog 49 [slsD l, slsD l] (.bool true) := by
  have hz : ∀ a : Int, decide (a = a) = true := fun a => decide_eq_true rfl
  have e1 := mlen l
  refine enterP tabOk Tryz.func49 53 [0, 1, 4, 5, 6, 11, 15, 28, 35, 52] [.tmp 4] rfl (r := [_]) rfl (h := ?_); intro E hK; simp only [go_sem]
  refine wgoF (And.intro (@slsD.eq_1) (@hz)) ?_
  refine wlp (Run.loopC (ι := { i : Nat // i ≤ l.length }) (U := fun i => [(5, .d (.int .i64 i.1))]) (O := fun i => []) (K := fun _ => []) (μ := fun i => l.length - i.1) (i0 := ⟨0, by omega⟩)) ?_
  rintro ⟨i, hi⟩ ih0
  by_cases hlt : i < l.length
  · have h1 : (i : Int) < l.length := by omega
    have hget := sl_get hlt
    have e : l.getD i [] = l[i] := by simp [hlt]
    have hm := hs _ (List.getElem_mem hlt)
    rw [← e] at hm
    generalize l.getD i [] = s at hget hm
    simp only [go_sem]
    refine wgoF (And.intro (@h1) (And.intro (@e1) (And.intro (@hget) (@hz)))) ?_
    refine wlp (Run.loopC (ι := { k : Nat // k ≤ s.length }) (U := fun k => [(6, .d (.int .i64 k.1))]) (O := fun i => []) (K := fun _ => []) (μ := fun k => s.length - k.1) (i0 := ⟨0, by omega⟩)) ?_
    rintro ⟨k, hk⟩ ih
    by_cases hkt : k < s.length
    · have h2 : (k : Int) < s.length := by omega
      have hgk := ch_get hkt
      simp only [go_sem]
      refine wgoF (And.intro (@h1) (And.intro (@h2) (And.intro (@e1) (And.intro (@hget) (And.intro (@hgk) (@hz)))))) ?_
      exact wnxt (ih ⟨k + 1, by omega⟩)
    · have h2 : ¬ (k : Int) < s.length := by omega
      simp only [go_sem]
      refine wgoF (And.intro (@h1) (And.intro (@h2) (And.intro (@e1) (@hget)))) ?_
      exact wnxt (ih0 ⟨i + 1, by omega⟩)
  · have h1 : ¬ (i : Int) < l.length := by omega
    simp only [go_sem]
    refine wgoF (And.intro (@h1) (@e1)) ?_
    exact wret
theorem csame40 (c : Cp) (h : c.ok) (he : ∀ e ∈ c.ev, e.lok) (hs : ∀ s ∈ c.sl, s.length ≤ 100000) : PCall Tryz.prog 40 [c.d, c.d] (.bool true) := by
  have h3 := h.max
  have h4 := h.len
  have hz : ∀ a : Int, decide (a = a) = true := fun a => decide_eq_true rfl
  have s1 := sameAll50 c.ev (by omega) he
  have s2 := sameSlots49 c.sl (by omega) hs
  have s3 := psame51 c.pn h.pins.1
  refine enterP tabOk Tryz.func40 38 [0, 1, 2, 3, 4] [.tmp 4] rfl (r := [_]) rfl (h := ?_); intro E hK; simp only [go_sem]
  refine wgoF (@Cp.d.eq_1) ?_
  refine wcall (s1) ?_
  refine wgo ?_
  refine wcallF (s2) (@slsD.eq_1) ?_
  refine wgoF (@hz) ?_
  refine wcall (s3) ?_
  refine wgoF (@hz) ?_
  exact wret
end Go.Proofs.YtojgjdcciojpeaaGreat
set_option linter.unusedSimpArgs false
set_option linter.unusedVariables false
namespace Go.Proofs.YtojgjdcciojpeaaGreat
open Go Go.PS
set_option maxRecDepth 100000
set_option maxHeartbeats 4000000
/-! Events that the reference of compositions makes. -/
structure Rw where
  k : Int
  a : Int
  b : Int
  c : Int
  deriving DecidableEq, Inhabited
def Rw.d (x : Rw) : D := .agg [.int .u8 x.k, .int .u8 x.a, .int .u8 x.b, .int .u8 x.c]
def Rw.ok (x : Rw) : Prop := (0 ≤ x.k ∧ x.k ≤ 255) ∧ (0 ≤ x.a ∧ x.a ≤ 255) ∧ (0 ≤ x.b ∧ x.b ≤ 255) ∧ (0 ≤ x.c ∧ x.c ≤ 255)
def kTab : List Int := [1, 1, 1, 1, 2, 3, 3, 4, 5, 6, 6, 7, 7, 8, 9, 9, 10, 12]
def kOf (x : Rw) : Int := kTab.getD (x.k % 18).toNat 0
def chTab : List (List UInt8) := [[97, 98], [97, 98, 99], [98, 99]]
def evR (x : Rw) : Ev :=
  if kOf x = 1 then ⟨1, List.take ((x.a % 3 + 1).toNat - (x.a % 3).toNat) (List.drop (x.a % 3).toNat [97, 98, 99]), [], [], 0, 0⟩
  else if kOf x = 2 then ⟨2, chTab.getD (x.a % 3).toNat [], [], [], 0, 0⟩
  else if kOf x = 3 then ⟨3, [], [⟨x.a, x.b % 64⟩], [], 0, 0⟩
  else if kOf x = 4 then ⟨4, [], [⟨x.a, x.b % 64⟩, ⟨x.c, x.a % 64⟩], [], 0, 0⟩
  else if kOf x = 5 then ⟨5, [], [], List.take ((x.a % 4 + 1 + x.b % 4).toNat - (x.a % 4).toNat) (List.drop (x.a % 4).toNat [97, 98, 99, 97, 98, 97, 99, 98]), 0, 0⟩
  else if kOf x = 9 then ⟨9, [], [], [], x.a % 8, 1 + x.b % 4⟩
  else if kOf x = 10 then ⟨10, [], [], [], x.a % 50, 0⟩
  else ⟨kOf x, [], [], [], 0, 0⟩
theorem kOf_in (x : Rw) : kOf x = 1 ∨ kOf x = 2 ∨ kOf x = 3 ∨ kOf x = 4 ∨ kOf x = 5 ∨ kOf x = 6 ∨ kOf x = 7 ∨ kOf x = 8 ∨ kOf x = 9 ∨ kOf x = 10 ∨ kOf x = 12 := by
  have h : (x.k % 18).toNat < 18 := by omega
  have key : ∀ n : Fin 18, kTab.getD n.val 0 = 1 ∨ kTab.getD n.val 0 = 2 ∨ kTab.getD n.val 0 = 3 ∨ kTab.getD n.val 0 = 4 ∨ kTab.getD n.val 0 = 5 ∨ kTab.getD n.val 0 = 6 ∨ kTab.getD n.val 0 = 7 ∨ kTab.getD n.val 0 = 8 ∨ kTab.getD n.val 0 = 9 ∨ kTab.getD n.val 0 = 10 ∨ kTab.getD n.val 0 = 12 := by decide
  exact key ⟨_, h⟩
theorem kTab_get (n : Nat) (h : n < 18) : List.getD [D.int .i64 1, .int .i64 1, .int .i64 1, .int .i64 1, .int .i64 2, .int .i64 3, .int .i64 3, .int .i64 4, .int .i64 5, .int .i64 6, .int .i64 6, .int .i64 7, .int .i64 7, .int .i64 8, .int .i64 9, .int .i64 9, .int .i64 10, .int .i64 12] n .nilp = .int .i64 (kTab.getD n 0) := by
  match n, h with
  | 0, _ => rfl
  | 1, _ => rfl
  | 2, _ => rfl
  | 3, _ => rfl
  | 4, _ => rfl
  | 5, _ => rfl
  | 6, _ => rfl
  | 7, _ => rfl
  | 8, _ => rfl
  | 9, _ => rfl
  | 10, _ => rfl
  | 11, _ => rfl
  | 12, _ => rfl
  | 13, _ => rfl
  | 14, _ => rfl
  | 15, _ => rfl
  | 16, _ => rfl
  | 17, _ => rfl
  | k + 18, h => omega
theorem chTab_get (n : Nat) (h : n < 3) : List.getD [D.str [97, 98], .str [97, 98, 99], .str [98, 99]] n .nilp = .str (chTab.getD n []) := by
  match n, h with
  | 0, _ => rfl
  | 1, _ => rfl
  | 2, _ => rfl
theorem event37 (x : Rw) (hx : x.ok) : PCall Tryz.prog 37 [x.d] (evR x).d := by
  obtain ⟨⟨k1, k2⟩, ⟨a1, a2⟩, ⟨b1, b2⟩, ⟨c1, c2⟩⟩ := hx
  have hg := kTab_get (x.k % 18).toNat (by omega)
  have hc := chTab_get (x.a % 3).toNat (by omega)
  have hk := kOf_in x
  have m1 : x.k % 18 < 18 := by omega
  have z18 : ((18 : Nat) : Int) = 18 := rfl
  have m2 : x.a % 3 < 3 := by omega
  have hev : evR x = evR x := rfl
  change List.getD _ _ _ = D.int .i64 (kOf x) at hg
  have hr : ∀ kd, kOf x = kd → evR x = evR x := fun _ _ => rfl
  unfold evR
  generalize kOf x = kd at hg hk
  rcases hk with rfl | rfl | rfl | rfl | rfl | rfl | rfl | rfl | rfl | rfl | rfl
  · refine enterP tabOk Tryz.func37 101 [0, 1, 2, 3, 4, 5, 26, 27, 38, 47, 52, 65, 80, 93] [.cell 2 26] rfl (r := [_]) rfl (h := ?_); intro E hK; simp only [go_sem]
    refine wgoF (And.intro (@Rw.d.eq_1) (And.intro (@z18) (And.intro (@hg) (@m1)))) ?_
    exact wretF (@Ev.d.eq_1)
  · refine enterP tabOk Tryz.func37 101 [0, 1, 2, 3, 4, 5, 26, 27, 38, 47, 52, 65, 80, 93] [.cell 2 26] rfl (r := [_]) rfl (h := ?_); intro E hK; simp only [go_sem]
    refine wgoF (And.intro (@Rw.d.eq_1) (And.intro (@z18) (And.intro (@hg) (And.intro (@m1) (And.intro (@hc) (@m2)))))) ?_
    exact wretF (@Ev.d.eq_1)
  · refine enterP tabOk Tryz.func37 101 [0, 1, 2, 3, 4, 5, 26, 27, 38, 47, 52, 65, 80, 93] [.cell 2 26] rfl (r := [_]) rfl (h := ?_); intro E hK; simp only [go_sem]
    refine wgoF (And.intro (@Rw.d.eq_1) (And.intro (@z18) (And.intro (@hg) (@m1)))) ?_
    exact wretF (And.intro (@Ev.d.eq_1) (@Pt.d.eq_1))
  · refine enterP tabOk Tryz.func37 101 [0, 1, 2, 3, 4, 5, 26, 27, 38, 47, 52, 65, 80, 93] [.cell 2 26] rfl (r := [_]) rfl (h := ?_); intro E hK; simp only [go_sem]
    refine wgoF (And.intro (@Rw.d.eq_1) (And.intro (@z18) (And.intro (@hg) (@m1)))) ?_
    exact wretF (And.intro (@Ev.d.eq_1) (@Pt.d.eq_1))
  · refine enterP tabOk Tryz.func37 101 [0, 1, 2, 3, 4, 5, 26, 27, 38, 47, 52, 65, 80, 93] [.cell 2 26] rfl (r := [_]) rfl (h := ?_); intro E hK; simp only [go_sem]
    refine wgoF (And.intro (@Rw.d.eq_1) (And.intro (@z18) (And.intro (@hg) (@m1)))) ?_
    exact wretF (@Ev.d.eq_1)
  · refine enterP tabOk Tryz.func37 101 [0, 1, 2, 3, 4, 5, 26, 27, 38, 47, 52, 65, 80, 93] [.cell 2 26] rfl (r := [_]) rfl (h := ?_); intro E hK; simp only [go_sem]
    refine wgoF (And.intro (@Rw.d.eq_1) (And.intro (@z18) (And.intro (@hg) (@m1)))) ?_
    exact wretF (@Ev.d.eq_1)
  · refine enterP tabOk Tryz.func37 101 [0, 1, 2, 3, 4, 5, 26, 27, 38, 47, 52, 65, 80, 93] [.cell 2 26] rfl (r := [_]) rfl (h := ?_); intro E hK; simp only [go_sem]
    refine wgoF (And.intro (@Rw.d.eq_1) (And.intro (@z18) (And.intro (@hg) (@m1)))) ?_
    exact wretF (@Ev.d.eq_1)
  · refine enterP tabOk Tryz.func37 101 [0, 1, 2, 3, 4, 5, 26, 27, 38, 47, 52, 65, 80, 93] [.cell 2 26] rfl (r := [_]) rfl (h := ?_); intro E hK; simp only [go_sem]
    refine wgoF (And.intro (@Rw.d.eq_1) (And.intro (@z18) (And.intro (@hg) (@m1)))) ?_
    exact wretF (@Ev.d.eq_1)
  · refine enterP tabOk Tryz.func37 101 [0, 1, 2, 3, 4, 5, 26, 27, 38, 47, 52, 65, 80, 93] [.cell 2 26] rfl (r := [_]) rfl (h := ?_); intro E hK; simp only [go_sem]
    refine wgoF (And.intro (@Rw.d.eq_1) (And.intro (@z18) (And.intro (@hg) (@m1)))) ?_
    exact wretF (@Ev.d.eq_1)
  · refine enterP tabOk Tryz.func37 101 [0, 1, 2, 3, 4, 5, 26, 27, 38, 47, 52, 65, 80, 93] [.cell 2 26] rfl (r := [_]) rfl (h := ?_); intro E hK; simp only [go_sem]
    refine wgoF (And.intro (@Rw.d.eq_1) (And.intro (@z18) (And.intro (@hg) (@m1)))) ?_
    exact wretF (@Ev.d.eq_1)
  · refine enterP tabOk Tryz.func37 101 [0, 1, 2, 3, 4, 5, 26, 27, 38, 47, 52, 65, 80, 93] [.cell 2 26] rfl (r := [_]) rfl (h := ?_); intro E hK; simp only [go_sem]
    refine wgoF (And.intro (@Rw.d.eq_1) (And.intro (@z18) (And.intro (@hg) (@m1)))) ?_
    exact wretF (@Ev.d.eq_1)
theorem evR_small (x : Rw) : (evR x).keys.length ≤ 5 ∧ (evR x).p.length ≤ 6 ∧ (evR x).text.length ≤ 8 := by
  have hc : (chTab.getD (x.a % 3).toNat []).length ≤ 5 := by
    have h : (x.a % 3).toNat < 3 := by omega
    generalize (x.a % 3).toNat = n at h
    match n, h with
    | 0, _ => decide
    | 1, _ => decide
    | 2, _ => decide
  unfold evR
  split
  · refine ⟨Nat.le_trans (List.length_take_le _ _) ?_, by simp, by simp⟩
    omega
  split
  · exact ⟨hc, by simp, by simp⟩
  split
  · simp
  split
  · simp
  split
  · refine ⟨by simp, by simp, ?_⟩
    refine Nat.le_trans (List.length_take_le' _ _) ?_
    rw [List.length_drop]; simp
  split
  · simp
  split
  · simp
  · simp
theorem evR_lok (x : Rw) : (evR x).lok := by
  have := evR_small x
  exact ⟨by omega, by omega, by omega⟩
end Go.Proofs.YtojgjdcciojpeaaGreat
set_option linter.unusedSimpArgs false
set_option linter.unusedVariables false
namespace Go.Proofs.YtojgjdcciojpeaaGreat
open Go Go.PS
set_option maxRecDepth 100000
set_option maxHeartbeats 4000000
theorem typed_cp {c : Cp} (h : c.ok) (hl : c.ev.length < 40) (e : Ev) (s : List Ch) : (typedC c e s).ok := by
  obtain ⟨h1, h2, h3, h4, h5⟩ := h
  refine ⟨?_, ?_, ?_, ?_, ?_⟩
  · simp [typedC, insAt]; omega
  · simp [typedC, insAt]; omega
  · simp [typedC]; omega
  · simp [typedC, insAt]; omega
  · have := ins_pv c.cu h5
    have hlen : ((typedC c e s).ev.length : Int) = (c.ev.length : Int) + 1 := by simp [typedC, insAt]; omega
    rw [hlen]
    exact pv_mono this (by split <;> omega)
theorem erased_cp {c : Cp} (h : c.ok) (h0 : 1 ≤ c.cu) : (erasedC c).ok := by
  obtain ⟨h1, h2, h3, h4, h5⟩ := h
  have hlen : ((erasedC c).ev.length : Int) = (c.ev.length : Int) - 1 := by simp [erasedC, delAt]; omega
  refine ⟨?_, ?_, ?_, ?_, ?_⟩
  · simp [erasedC, delAt]; omega
  · omega
  · simp [erasedC]; omega
  · rw [hlen]; simp [erasedC]; omega
  · have := del_pv (c.cu - 1) (by omega) (by omega) h5
    rw [hlen]
    exact pv_mono this (by split <;> omega)
def rC (r : Cp × Int) : D := .tup [r.1.d, .int .i64 r.2]
theorem erased76 (c : Cp) (h : c.ok) (h0 : 1 ≤ c.cu) : PCall Tryz.prog 76 [c.d] (erasedC c).d := by
  have hh := h.hi
  have hm := h.max
  have hln := h.len
  have h3 := rdelete107 c.pn (c.cu - 1) h.pins
  have g1 : c.cu - 1 ≤ c.ev.length := by omega
  have g2 : c.cu - 1 ≤ c.sl.length := by omega
  have g3 : c.cu - 1 + 1 = c.cu := by omega
  have g4 : c.cu ≤ c.ev.length := by omega
  have g5 : c.cu ≤ c.sl.length := by omega
  have g6 : c.cu.toNat = (c.cu - 1).toNat + 1 := by omega
  generalize hn : (c.cu - 1).toNat = n at g6
  have e2 : List.take n (List.map Ev.d c.ev) = List.map Ev.d (c.ev.take n) := by rw [List.map_take]
  have e3 : List.drop (n + 1) (List.map Ev.d c.ev) = List.map Ev.d (c.ev.drop (n + 1)) := by rw [List.map_drop]
  have e4 : List.take (c.ev.length - (n + 1)) (List.map Ev.d (c.ev.drop (n + 1))) = List.map Ev.d (c.ev.drop (n + 1)) := List.take_of_length_le (by simp)
  have e5 : (List.map Ev.d (c.ev.take n)).length = n := by simp; omega
  have e6 : (List.map Ev.d (c.ev.drop (n + 1))).length = c.ev.length - (n + 1) := by simp
  have e8 : List.map Ev.d (c.ev.take n) ++ List.map Ev.d (c.ev.drop (n + 1)) = List.map Ev.d (delAt c.ev n) := by unfold delAt; simp
  have f2 : List.take n (List.map slD c.sl) = List.map slD (c.sl.take n) := by rw [List.map_take]
  have f3 : List.drop (n + 1) (List.map slD c.sl) = List.map slD (c.sl.drop (n + 1)) := by rw [List.map_drop]
  have f4 : List.take (c.sl.length - (n + 1)) (List.map slD (c.sl.drop (n + 1))) = List.map slD (c.sl.drop (n + 1)) := List.take_of_length_le (by simp)
  have f5 : (List.map slD (c.sl.take n)).length = n := by simp; omega
  have f6 : (List.map slD (c.sl.drop (n + 1))).length = c.sl.length - (n + 1) := by simp
  have f8 : List.map slD (c.sl.take n) ++ List.map slD (c.sl.drop (n + 1)) = List.map slD (delAt c.sl n) := by unfold delAt; simp
  have hr : (erasedC c).d = .agg [.sl 6 ((delAt c.ev n).map Ev.d), .sl 1 ((delAt c.sl n).map slD), .int .i64 (c.cu - 1), .sl 3 ((delF c.pn (c.cu - 1)).map Pn.d), .int .i64 0] := by unfold erasedC Cp.d; rw [hn]
  rw [hr]
  refine enterP tabOk Tryz.func76 49 [0, 1, 2, 3, 4] [.cell 2 81] rfl (r := [_]) rfl (h := ?_); intro E hK; simp only [go_sem]
  refine wgoF (@Cp.d.eq_1) ?_
  refine wcall (h3) ?_
  refine wgoF (And.intro (@hn) (And.intro (@g1) (And.intro (@g2) (And.intro (@g3) (And.intro (@g4) (And.intro (@g5) (And.intro (@g6) (And.intro (@e2) (And.intro (@e3) (And.intro (@e4) (And.intro (@e5) (And.intro (@e6) (And.intro (@e8) (And.intro (@f2) (And.intro (@f3) (And.intro (@f4) (And.intro (@f5) (And.intro (@f6) (@f8))))))))))))))))))) ?_
  exact wretF (And.intro (@e8) (@f8))
/-- Moving the cursor. -/
def movedR (c : Cp) (b : Int) : Cp × Int := if c.cu + b < 0 ∨ (c.sl.length : Int) < c.cu + b then (c, 310) else ({ c with cu := c.cu + b }, 0)
theorem moved77 (c : Cp) (h : c.ok) (b : Int) (hb : -1 ≤ b ∧ b ≤ 1) : PCall Tryz.prog 77 [c.d, .int .i64 b] (rC (movedR c b)) := by
  have hc := copied45 c h
  have h1 := h.lo
  have h2 := h.hi
  have h3 := h.max
  have h4 := h.len
  obtain ⟨b1, b2⟩ := hb
  by_cases q : c.cu + b < 0 ∨ (c.sl.length : Int) < c.cu + b
  · have hr : movedR c b = (c, 310) := if_pos q
    have cc : (decide (c.cu + b < 0) || decide ((c.sl.length : Int) < c.cu + b)) = true := by simpa using q
    rw [hr]
    refine enterP tabOk Tryz.func77 27 [0, 1, 2, 4, 5, 6, 24] [.cell 4 81, .tmp 5] rfl (r := [_, _]) rfl (h := ?_); intro E hK; simp only [go_sem]
    refine wgoF (@Cp.d.eq_1) ?_
    refine wcallF (hc) (@Cp.d.eq_1) ?_
    refine wgoF (And.intro (@Cp.d.eq_1) (@cc)) ?_
    exact wretF (And.intro (@rC.eq_1) (@Cp.d.eq_1))
  · have hr : movedR c b = ({ c with cu := c.cu + b }, 0) := if_neg q
    have c1 : ¬ c.cu + b < 0 := fun h => q (.inl h)
    have c2 : ¬ (c.sl.length : Int) < c.cu + b := fun h => q (.inr h)
    rw [hr]
    refine enterP tabOk Tryz.func77 27 [0, 1, 2, 4, 5, 6, 24] [.cell 4 81, .tmp 5] rfl (r := [_, _]) rfl (h := ?_); intro E hK; simp only [go_sem]
    refine wgoF (@Cp.d.eq_1) ?_
    refine wcallF (hc) (@Cp.d.eq_1) ?_
    refine wgoF (And.intro (@Cp.d.eq_1) (And.intro (@c1) (@c2))) ?_
    exact wretF (And.intro (@rC.eq_1) (@Cp.d.eq_1))
/-- Holding a segment. -/
def heldR (c : Cp) (e : Ev) : Cp × Int := if (putR c.pn ⟨e.n, e.n + e.l, -1⟩ (c.sl.length : Int)).2 = 0 then ({ c with pn := (putR c.pn ⟨e.n, e.n + e.l, -1⟩ (c.sl.length : Int)).1, ch := 0 }, 0) else (c, (putR c.pn ⟨e.n, e.n + e.l, -1⟩ (c.sl.length : Int)).2)
theorem held78 (c : Cp) (h : c.ok) (e : Ev) (he : 0 ≤ e.n ∧ e.n ≤ 1000 ∧ 0 ≤ e.l ∧ e.l ≤ 1000) : PCall Tryz.prog 78 [c.d, e.d] (rC (heldR c e)) := by
  have hc := copied45 c h
  have h3 := h.max
  have h4 := h.len
  obtain ⟨n1, n2, n3, n4⟩ := he
  have hp := rput108 c.pn ⟨e.n, e.n + e.l, -1⟩ (c.sl.length : Int) h.pins.1
  have hrd : heldR c e = heldR c e := rfl
  unfold heldR
  generalize putR c.pn ⟨e.n, e.n + e.l, -1⟩ (c.sl.length : Int) = r at hp
  obtain ⟨pl, x⟩ := r
  dsimp only at hp
  by_cases hx : x = 0
  · subst hx
    rw [if_pos rfl]
    refine enterP tabOk Tryz.func78 36 [0, 1, 2, 3, 4, 5, 6, 7, 8, 27] [.cell 4 81, .tmp 5] rfl (r := [_, _]) rfl (h := ?_); intro E hK; simp only [go_sem]
    refine wgoF (And.intro (@Cp.d.eq_1) (@Ev.d.eq_1)) ?_
    refine wcallF (hp) (@Pn.d.eq_1) ?_
    refine wgo ?_
    refine wcallF (hc) (@Cp.d.eq_1) ?_
    refine wgoF (@Cp.d.eq_1) ?_
    exact wretF (And.intro (@rC.eq_1) (@Cp.d.eq_1))
  · rw [if_neg hx]
    refine enterP tabOk Tryz.func78 36 [0, 1, 2, 3, 4, 5, 6, 7, 8, 27] [.cell 4 81, .tmp 5] rfl (r := [_, _]) rfl (h := ?_); intro E hK; simp only [go_sem]
    refine wgoF (And.intro (@Cp.d.eq_1) (@Ev.d.eq_1)) ?_
    refine wcallF (hp) (@Pn.d.eq_1) ?_
    refine wgoF (@hx) ?_
    exact wretF (And.intro (@rC.eq_1) (@Cp.d.eq_1))
end Go.Proofs.YtojgjdcciojpeaaGreat
set_option linter.unusedSimpArgs false
set_option linter.unusedVariables false
namespace Go.Proofs.YtojgjdcciojpeaaGreat
open Go Go.PS
set_option maxRecDepth 100000
set_option maxHeartbeats 4000000
theorem valid64 (e : Ev) (hl : e.lok) : PCall Tryz.prog 64 [e.d] (.bool (validE e)) := by
  obtain ⟨l1, l2, l3⟩ := hl
  obtain ⟨k, keys, p, text, n, l⟩ := e
  dsimp only at l1 l2 l3
  by_cases h1 : k = 1
  · subst h1
    refine enterP tabOk Tryz.func64 110 [0, 1, 2, 3, 4, 5, 6, 26, 27, 38, 54, 59, 64, 75, 85] [.tmp 2] rfl (r := [_]) rfl (h := ?_); intro E hK; simp only [go_sem]
    refine wgoF (@Ev.d.eq_1) ?_
    refine wscall (letters91 keys l1) ?_
    refine wgo ?_
    refine wcall (in92 1 1 12) ?_
    refine wgo ?_
    refine wretq ?_
    simp only [validE, inI, go_sem, Bool.and_assoc]; try ac_rfl
  by_cases h2 : k = 2
  · subst h2
    refine enterP tabOk Tryz.func64 110 [0, 1, 2, 3, 4, 5, 6, 26, 27, 38, 54, 59, 64, 75, 85] [.tmp 2] rfl (r := [_]) rfl (h := ?_); intro E hK; simp only [go_sem]
    refine wgoF (@Ev.d.eq_1) ?_
    refine wcall (in92 keys.length 2 4) ?_
    refine wgo ?_
    refine wscall (letters91 keys l1) ?_
    refine wgo ?_
    refine wscall (ris93 keys l1) ?_
    refine wgo ?_
    refine wcall (in92 2 1 12) ?_
    refine wgo ?_
    refine wretq ?_
    simp only [validE, inI, go_sem, Bool.and_assoc]; try ac_rfl
  by_cases h3 : k = 3
  · subst h3
    have he : inI (p.length : Int) 1 1 = decide ((p.length : Int) = 1) := by
      rw [inI, ← Bool.decide_and]; exact decide_eq_decide.2 (by omega)
    refine enterP tabOk Tryz.func64 110 [0, 1, 2, 3, 4, 5, 6, 26, 27, 38, 54, 59, 64, 75, 85] [.tmp 2] rfl (r := [_]) rfl (h := ?_); intro E hK; simp only [go_sem]
    refine wgoF (@Ev.d.eq_1) ?_
    refine wcall (points94 p 1 1 l2) ?_
    refine wgo ?_
    refine wcall (in92 3 1 12) ?_
    refine wgo ?_
    refine wretq ?_
    rw [he]
    simp only [validE, inI, go_sem, Bool.and_assoc]; try ac_rfl
  by_cases h4 : k = 4
  · subst h4
    refine enterP tabOk Tryz.func64 110 [0, 1, 2, 3, 4, 5, 6, 26, 27, 38, 54, 59, 64, 75, 85] [.tmp 2] rfl (r := [_]) rfl (h := ?_); intro E hK; simp only [go_sem]
    refine wgoF (@Ev.d.eq_1) ?_
    refine wcall (points94 p 2 12 l2) ?_
    refine wgo ?_
    refine wcall (in92 4 1 12) ?_
    refine wgo ?_
    refine wretq ?_
    simp only [validE, inI, go_sem, Bool.and_assoc]; try ac_rfl
  by_cases h5 : k = 5
  · subst h5
    refine enterP tabOk Tryz.func64 110 [0, 1, 2, 3, 4, 5, 6, 26, 27, 38, 54, 59, 64, 75, 85] [.tmp 2] rfl (r := [_]) rfl (h := ?_); intro E hK; simp only [go_sem]
    refine wgoF (@Ev.d.eq_1) ?_
    refine wcall (in92 text.length 1 20) ?_
    refine wgo ?_
    refine wscall (letters91 text l3) ?_
    refine wgo ?_
    refine wcall (in92 5 1 12) ?_
    refine wgo ?_
    refine wretq ?_
    simp only [validE, inI, go_sem, Bool.and_assoc]; try ac_rfl
  by_cases h9 : k = 9
  · subst h9
    have he : inI n 0 39 = (decide (0 ≤ n) && decide (n < 40)) := by
      rw [inI]; congr 1; exact decide_eq_decide.2 (by omega)
    refine enterP tabOk Tryz.func64 110 [0, 1, 2, 3, 4, 5, 6, 26, 27, 38, 54, 59, 64, 75, 85] [.tmp 2] rfl (r := [_]) rfl (h := ?_); intro E hK; simp only [go_sem]
    refine wgoF (@Ev.d.eq_1) ?_
    refine wcall (in92 n 0 39) ?_
    refine wgo ?_
    refine wscall (in92 l 1 40) ?_
    refine wgo ?_
    refine wcall (in92 9 1 12) ?_
    refine wgo ?_
    refine wretq ?_
    rw [he]
    simp only [validE, inI, go_sem, Bool.and_assoc]; try ac_rfl
  by_cases h10 : k = 10
  · subst h10
    have he : inI n 0 49 = (decide (0 ≤ n) && decide (n < 50)) := by
      rw [inI]; congr 1; exact decide_eq_decide.2 (by omega)
    refine enterP tabOk Tryz.func64 110 [0, 1, 2, 3, 4, 5, 6, 26, 27, 38, 54, 59, 64, 75, 85] [.tmp 2] rfl (r := [_]) rfl (h := ?_); intro E hK; simp only [go_sem]
    refine wgoF (@Ev.d.eq_1) ?_
    refine wcall (in92 n 0 49) ?_
    refine wgo ?_
    refine wcall (in92 10 1 12) ?_
    refine wgo ?_
    refine wretq ?_
    rw [he]
    simp only [validE, inI, go_sem, Bool.and_assoc]; try ac_rfl
  · refine enterP tabOk Tryz.func64 110 [0, 1, 2, 3, 4, 5, 6, 26, 27, 38, 54, 59, 64, 75, 85] [.tmp 2] rfl (r := [_]) rfl (h := ?_); intro E hK; simp only [go_sem]
    refine wgoF (And.intro (@Ev.d.eq_1) (And.intro (@h1) (And.intro (@h2) (And.intro (@h3) (And.intro (@h4) (And.intro (@h5) (And.intro (@h9) (@h10)))))))) ?_
    refine wcall (in92 k 1 12) ?_
    refine wgo ?_
    refine wretq ?_
    by_cases h6 : k = 6 ∨ k = 7 ∨ k = 8 ∨ k = 11 ∨ k = 12
    · have hr : validE ⟨k, keys, p, text, n, l⟩ = (decide (keys = []) && (decide ((p.length : Int) = 0) && (decide (text = []) && (decide (n = 0) && decide (l = 0))))) := by
        unfold validE; dsimp only
        rw [if_neg h1, if_neg h2, if_neg h3, if_neg h4, if_neg h5, if_neg h9, if_neg h10, if_pos h6]
        simp only [Ev.noK, Ev.noP, Ev.noT, Ev.noN, Ev.noL, Bool.and_assoc]
      have hin : inI k 1 12 = true := by simp [inI]; omega
      rw [hr, hin]
      simp only [go_sem, Bool.and_assoc]
    · have hr : validE ⟨k, keys, p, text, n, l⟩ = false := by
        unfold validE; dsimp only
        rw [if_neg h1, if_neg h2, if_neg h3, if_neg h4, if_neg h5, if_neg h9, if_neg h10, if_neg h6]
      have hin : inI k 1 12 = false := by
        rw [Bool.eq_false_iff]; intro h
        simp only [inI, Bool.and_eq_true, decide_eq_true_eq] at h; omega
      rw [hr, hin]
      simp only [go_sem]
end Go.Proofs.YtojgjdcciojpeaaGreat
set_option linter.unusedSimpArgs false
set_option linter.unusedVariables false
namespace Go.Proofs.YtojgjdcciojpeaaGreat
open Go Go.PS
set_option maxRecDepth 100000
set_option maxHeartbeats 4000000
/-- The cost of the first choice with a letter. -/
def findC (s : List Ch) (k : Int) : Option Int := (s.find? (fun c => decide (c.k = k))).map (·.c)
def choR (o : Option Int) : D := .tup [.int .i64 (o.getD 0), .bool o.isSome]
theorem find_drop {l : List Ch} {i : Nat} (h : i < l.length) (k : Int) : findC (l.drop i) k = if (l.getD i default).k = k then some (l.getD i default).c else findC (l.drop (i + 1)) k := by
  have e : l.getD i default = l[i] := by simp [h]
  rw [List.drop_eq_getElem_cons h, e]
  unfold findC
  rw [List.find?_cons]
  by_cases q : l[i].k = k
  · rw [if_pos q, decide_eq_true q]; rfl
  · rw [if_neg q, decide_eq_false q]
theorem choice65 (s : List Ch) (k : Int) (hl : s.length ≤ 100000) : PCall Tryz.prog 65 [slD s, .int .u8 k] (choR (findC s k)) := by
  refine enterP tabOk Tryz.func65 21 [0, 1, 4, 5, 7, 8, 9, 10, 11, 17] [.tmp 4, .tmp 5] rfl (r := [_, _]) rfl (h := ?_); intro E hK; simp only [go_sem]
  refine wgoF (@slD.eq_1) ?_
  refine wlp (Run.loopC (ι := { i : Nat // i ≤ s.length ∧ findC (s.drop i) k = findC s k }) (U := fun i => [(10, .d (.int .i64 i.1))]) (O := fun i => []) (K := fun _ => []) (μ := fun i => s.length - i.1) (i0 := ⟨0, by omega, rfl⟩)) ?_
  rintro ⟨i, hi, hp⟩ ih
  by_cases hlt : i < s.length
  · have h1 : (i : Int) < s.length := by omega
    have hget := ch_get hlt
    rw [find_drop hlt] at hp
    by_cases q : (s.getD i default).k = k
    · rw [if_pos q] at hp
      have hp2 := hp.symm
      have q2 : decide ((s.getD i default).k = k) = true := decide_eq_true q
      simp only [go_sem]
      refine wgoF (And.intro (@h1) (And.intro (@hget) (@q2))) ?_
      exact wretF (And.intro (@choR.eq_1) (@hp2))
    · rw [if_neg q] at hp
      have q2 : decide ((s.getD i default).k = k) = false := decide_eq_false q
      simp only [go_sem]
      refine wgoF (And.intro (@h1) (And.intro (@hget) (@q2))) ?_
      exact wnxt (ih ⟨i + 1, by omega, hp⟩)
  · have h1 : ¬ (i : Int) < s.length := by omega
    have hp2 : findC s k = none := by rw [← hp, List.drop_eq_nil_of_le (by omega)]; rfl
    simp only [go_sem]
    refine wgoF (@h1) ?_
    exact wretF (And.intro (@choR.eq_1) (@hp2))
def cheapL (l : List (List Ch)) : Prop := ∀ s ∈ l, s.length ≤ 100000 ∧ ∀ c ∈ s, 0 ≤ c.c ∧ c.c ≤ 1000
theorem find_bd {s : List Ch} (h : ∀ c ∈ s, 0 ≤ c.c ∧ c.c ≤ 1000) {k v : Int} (hf : findC s k = some v) : 0 ≤ v ∧ v ≤ 1000 := by
  unfold findC at hf
  obtain ⟨c, hc, rfl⟩ := Option.map_eq_some_iff.1 hf
  exact h c (List.mem_of_find?_eq_some hc)
/-- The sum of the first k letters' costs. -/
def costTo (l : List (List Ch)) (inp : List UInt8) : Nat → Option Int
  | 0 => some 0
  | k + 1 => match costTo l inp k, findC (l.getD k []) ((inp.getD k 0).toNat : Int) with
    | some a, some b => some (a + b)
    | _, _ => none
def costF (l : List (List Ch)) (inp : List UInt8) : Option Int := if inp.length = l.length then costTo l inp l.length else none
theorem cost_bd {l : List (List Ch)} (h : cheapL l) (inp : List UInt8) : ∀ (k : Nat) (v : Int), k ≤ l.length → costTo l inp k = some v → 0 ≤ v ∧ v ≤ 1000 * k
  | 0, v, _, hv => by simp [costTo] at hv; omega
  | k + 1, v, hk, hv => by
    unfold costTo at hv
    cases h1 : costTo l inp k with
    | none => rw [h1] at hv; simp at hv
    | some a =>
      rw [h1] at hv
      cases h2 : findC (l.getD k []) ((inp.getD k 0).toNat : Int) with
      | none => rw [h2] at hv; simp at hv
      | some b =>
        rw [h2] at hv
        simp only [Option.some.injEq] at hv
        have e : l.getD k [] = l[k] := by simp [show k < l.length by omega]
        rw [e] at h2
        have b1 := cost_bd h inp k a (by omega) h1
        have b2 := find_bd (h _ (List.getElem_mem (show k < l.length by omega))).2 h2
        push_cast
        omega
theorem cost_none {l : List (List Ch)} {inp : List UInt8} {k : Nat} (h : costTo l inp k = none) : ∀ n, k ≤ n → costTo l inp n = none := by
  intro n hn
  induction n with
  | zero =>
    obtain rfl : k = 0 := by omega
    exact h
  | succ n ih =>
    by_cases e : k = n + 1
    · subst e; exact h
    · rw [costTo, ih (by omega)]
theorem cost23 (l : List (List Ch)) (inp : List UInt8) (hl : l.length ≤ 100000) (hb : cheapL l) : PCall Tryz.prog 23 [slsD l, .str inp] (choR (costF l inp)) := by
  have e1 := mlen l
  by_cases hne : inp.length = l.length
  · have h0 : decide ((inp.length : Int) = (l.length : Int)) = true := decide_eq_true (by omega)
    have hF : costF l inp = costTo l inp l.length := if_pos hne
    refine enterP tabOk Tryz.func23 38 [0, 1, 4, 5, 6, 7, 8, 9, 14, 16, 17, 18, 32] [.tmp 4, .tmp 5] rfl (r := [_, _]) rfl (h := ?_); intro E hK; simp only [go_sem]
    refine wgoF (And.intro (@slsD.eq_1) (And.intro (@h0) (@e1))) ?_
    refine wlp (Run.loopC (ι := { x : Nat × Int // x.1 ≤ l.length ∧ costTo l inp x.1 = some x.2 }) (U := fun x => [(6, .d (.int .i64 x.1.2)), (17, .d (.int .i64 x.1.1))]) (O := fun i => []) (K := fun _ => []) (μ := fun x => l.length - x.1.1) (i0 := ⟨(0, 0), by omega, rfl⟩)) ?_
    rintro ⟨⟨i, v⟩, hi, hp⟩ ih
    dsimp only at hi hp
    by_cases hlt : i < l.length
    · have h1 : (i : Int) < l.length := by omega
      have h1b : (i : Int) < inp.length := by omega
      have hget := sl_get hlt
      have e : l.getD i [] = l[i] := by simp [hlt]
      have hm := hb _ (List.getElem_mem hlt)
      rw [← e] at hm
      have hc := choice65 (l.getD i []) ((inp.getD i 0).toNat : Int) hm.1
      have hbd := cost_bd hb inp i v hi hp
      cases hf : findC (l.getD i []) ((inp.getD i 0).toNat : Int) with
      | none =>
        have hs : costTo l inp (i + 1) = none := by rw [costTo, hp, hf]
        have hr : costF l inp = none := by rw [hF]; exact cost_none hs _ hlt
        rw [hf] at hc
        simp only [go_sem]
        refine wgoF (And.intro (@h1) (And.intro (@h1b) (@hget))) ?_
        refine wcallF (hc) (@slD.eq_1) ?_
        refine wgoF (@choR.eq_1) ?_
        exact wretF (And.intro (@choR.eq_1) (@hr))
      | some b =>
        have hs : costTo l inp (i + 1) = some (v + b) := by rw [costTo, hp, hf]
        have hbb := find_bd hm.2 hf
        rw [hf] at hc
        simp only [go_sem]
        refine wgoF (And.intro (@h1) (And.intro (@h1b) (@hget))) ?_
        refine wcallF (hc) (@slD.eq_1) ?_
        refine wgoF (@choR.eq_1) ?_
        exact wnxt (ih ⟨(i + 1, v + b), by omega, hs⟩)
    · have h1 : ¬ (i : Int) < l.length := by omega
      obtain rfl : i = l.length := by omega
      have hr : costF l inp = some v := by rw [hF, hp]
      simp only [go_sem]
      refine wgoF (@h1) ?_
      exact wretF (And.intro (@choR.eq_1) (@hr))
  · have h0 : decide ((inp.length : Int) = (l.length : Int)) = false := decide_eq_false (by omega)
    have hF : costF l inp = none := if_neg hne
    refine enterP tabOk Tryz.func23 38 [0, 1, 4, 5, 6, 7, 8, 9, 14, 16, 17, 18, 32] [.tmp 4, .tmp 5] rfl (r := [_, _]) rfl (h := ?_); intro E hK; simp only [go_sem]
    refine wgoF (And.intro (@slsD.eq_1) (And.intro (@h0) (@e1))) ?_
    exact wretF (And.intro (@choR.eq_1) (@hF))
def exSl : List (List Ch) := [[⟨97, 3⟩, ⟨98, 0⟩], [⟨99, 2⟩]]
theorem costs60 (inp : List UInt8) (w : Int) (hw : (costF exSl inp = none ∧ w = -1) ∨ (costF exSl inp = some w ∧ 0 ≤ w)) : PCall Tryz.prog 60 [.str inp, .int .i64 w] (.bool true) := by
  have hc := cost23 exSl inp (by simp [exSl]) (by intro s hs; simp [exSl] at hs; rcases hs with rfl | rfl <;> simp)
  rcases hw with ⟨h, rfl⟩ | ⟨h, h0⟩
  · rw [h] at hc
    refine enterP tabOk Tryz.func60 28 [0, 1, 4, 5, 6] [.tmp 4] rfl (r := [_]) rfl (h := ?_); intro E hK; simp only [go_sem]
    refine wgo ?_
    refine wcallF (hc) (And.intro (@slsD.eq_1) (And.intro (@exSl.eq_1) (And.intro (@slD.eq_1) (@Ch.d.eq_1)))) ?_
    have h1 : max (-1 : Int) 0 = 0 := by decide
    refine wgoF (And.intro (@choR.eq_1) (@h1)) ?_
    exact wret
  · rw [h] at hc
    have h1 : max w 0 = w := by omega
    have h2 : decide (w = w) = true := by simp
    refine enterP tabOk Tryz.func60 28 [0, 1, 4, 5, 6] [.tmp 4] rfl (r := [_]) rfl (h := ?_); intro E hK; simp only [go_sem]
    refine wgo ?_
    refine wcallF (hc) (And.intro (@slsD.eq_1) (And.intro (@exSl.eq_1) (And.intro (@slD.eq_1) (@Ch.d.eq_1)))) ?_
    refine wgoF (And.intro (@choR.eq_1) (And.intro (@h0) (And.intro (@h1) (@h2)))) ?_
    exact wret
end Go.Proofs.YtojgjdcciojpeaaGreat
set_option linter.unusedSimpArgs false
set_option linter.unusedVariables false
namespace Go.Proofs.YtojgjdcciojpeaaGreat
open Go Go.PS
set_option maxRecDepth 100000
set_option maxHeartbeats 4000000
def sideB (v : Int) : Bool := decide (0 ≤ v) && decide (v ≤ 1000)
theorem coord123 (l : List Int) (hl : l.length ≤ 100000) : PCall Tryz.prog 123 [.sl 1 (l.map iD)] (.bool (l.all sideB)) := by
  refine enterP tabOk Tryz.func123 18 [0, 2, 4, 5, 6, 7, 8, 16] [.tmp 2] rfl (r := [_]) rfl (h := ?_); intro E hK; simp only [go_sem]
  refine wgo ?_
  refine wlp (Run.loopC (ι := { i : Nat // i ≤ l.length ∧ (l.take i).all sideB = true }) (U := fun i => [(7, .d (.int .i64 i.1))]) (O := fun i => []) (K := fun _ => []) (μ := fun i => l.length - i.1) (i0 := ⟨0, by omega, by simp⟩)) ?_
  rintro ⟨i, hi, hp⟩ ih
  by_cases hlt : i < l.length
  · have h1 : (i : Int) < l.length := by omega
    have hget : (List.map iD l).getD i .nilp = .int .i64 (l.getD i 0) := by simp [hlt, iD]
    have e : l.getD i 0 = l[i] := by simp [hlt]
    cases hb : sideB (l.getD i 0) with
    | true =>
      have hb1 := hb
      simp only [sideB, Bool.and_eq_true, decide_eq_true_eq] at hb1
      have c1 : ¬ l.getD i 0 < 0 := by omega
      have c2 : ¬ 1000 < l.getD i 0 := by omega
      simp only [go_sem]
      refine wgoF (And.intro (@h1) (And.intro (@hget) (And.intro (@c1) (@c2)))) ?_
      exact wnxt (ih ⟨i + 1, by omega, by rw [List.take_succ_eq_append_getElem hlt, List.all_append, hp, ← e]; simp only [List.all_cons, List.all_nil, hb]; rfl⟩)
    | false =>
      have c1 : (decide (l.getD i 0 < 0) || decide (1000 < l.getD i 0)) = true := by
        have : ¬ sideB (l.getD i 0) = true := by rw [hb]; simp
        simp only [sideB, Bool.and_eq_true, decide_eq_true_eq] at this
        simp only [Bool.or_eq_true, decide_eq_true_eq]; omega
      have hf : l.all sideB = false := by
        rw [Bool.eq_false_iff]; intro ht
        have := List.all_eq_true.1 ht l[i] (List.getElem_mem hlt)
        rw [← e, hb] at this; cases this
      simp only [go_sem]
      refine wgoF (And.intro (@h1) (And.intro (@hget) (@c1))) ?_
      exact wretF (@hf)
  · have h1 : ¬ (i : Int) < l.length := by omega
    rw [List.take_of_length_le (by omega)] at hp
    simp only [go_sem]
    refine wgoF (@h1) ?_
    exact wretF (@hp)
/-- A touch where there is no area. -/
theorem touchNone (b : Brd) (hA : b.A = []) (tz : Nat) (tp : List D) (p : Pt) (hp : p.inB = true) : PCall Tryz.prog 113 [b.d, .sl tz tp, p.d] (.tup [slD [], .int .i64 210]) := by
  obtain ⟨za, A, zt, T, cs⟩ := b
  dsimp only at hA
  subst hA
  have hc := coord123 [p.x, p.y] (by simp)
  have hr : [p.x, p.y].all sideB = true := by
    simp only [Pt.inB, Bool.and_eq_true, decide_eq_true_eq] at hp
    simp [sideB]; omega
  rw [hr] at hc
  refine enterP tabOk Tryz.func113 63 [0, 1, 2, 3, 5, 6, 7, 8, 10, 11, 12, 13, 20, 22, 23, 24, 25, 36, 47, 50] [.tmp 6, .tmp 7] rfl (r := [_, _]) rfl (h := ?_); intro E hK; simp only [go_sem]
  refine wgoF (And.intro (@Brd.d.eq_1) (@Pt.d.eq_1)) ?_
  refine wcallF (hc) (@iD.eq_1) ?_
  refine wgo ?_
  refine run_loop ?_
  refine wgo ?_
  exact wretF (@slD.eq_1)
def bd0 : Brd := ⟨0, [], 0, [], [⟨[97, 98], 99⟩]⟩
theorem ck0 : ckOk bd0.cs := ⟨by simp [bd0], by intro c hc; simp [bd0] at hc; subst hc; simp⟩
/-- An event of a list of examples: no stroke, touches where there is no area. -/
theorem slotEx (b : Brd) (hA : b.A = []) (hc : ckOk b.cs) (tz : Nat) (tp : List D) (e : Ev) (hl : e.lok) (h4 : e.kind ≠ 4) : PCall Tryz.prog 19 [b.d, .sl tz tp, e.d] (rD (slotE b.cs ([], 210) ([], 0) e)) :=
  slot19 b tz tp e hl hc ([], 210) ([], 0) (fun hv h3 => by
    obtain ⟨h1, h2⟩ := valid_one hv h3
    refine touchNone b hA tz tp _ ?_
    have : e.p.getD 0 default = e.p[0] := by simp [h1]
    rw [this]
    exact List.all_eq_true.1 h2 _ (List.getElem_mem _)) (fun _ h => absurd h h4)
theorem lok_small (k : Int) (keys : List UInt8) (p : List Pt) (text : List UInt8) (n l : Int) (h1 : keys.length ≤ 100) (h2 : p.length ≤ 100) (h3 : text.length ≤ 100) : (⟨k, keys, p, text, n, l⟩ : Ev).lok := ⟨by show keys.length ≤ _; omega, by show p.length ≤ _; omega, by show text.length ≤ _; omega⟩
def E1 : Ev := ⟨1, [97], [], [], 0, 0⟩
def E2 : Ev := ⟨2, [97, 98], [], [], 0, 0⟩
def E3 : Ev := ⟨5, [], [], [98, 97], 0, 0⟩
def E4 : Ev := ⟨2, [97, 99], [], [], 0, 0⟩
def E5 : Ev := ⟨6, [], [], [], 0, 0⟩
def E6 : Ev := ⟨3, [], [⟨0, 0⟩], [], 0, 0⟩
theorem sanity15 : PCall Tryz.prog 15 [] (.bool true) := by
  have k (e : Ev) (hl : e.lok) (h4 : e.kind ≠ 4) := slotEx bd0 rfl ck0 0 [] e hl h4
  have s1 := k E1 (lok_small _ _ _ _ _ _ (by decide) (by decide) (by decide)) (by decide)
  have s2 := k E2 (lok_small _ _ _ _ _ _ (by decide) (by decide) (by decide)) (by decide)
  have s3 := k E3 (lok_small _ _ _ _ _ _ (by decide) (by decide) (by decide)) (by decide)
  have s4 := k E4 (lok_small _ _ _ _ _ _ (by decide) (by decide) (by decide)) (by decide)
  have s5 := k E5 (lok_small _ _ _ _ _ _ (by decide) (by decide) (by decide)) (by decide)
  have s6 := k E6 (lok_small _ _ _ _ _ _ (by decide) (by decide) (by decide)) (by decide)
  have r1 : slotE bd0.cs ([], 210) ([], 0) E1 = ([[⟨97, 0⟩]], 0) := by decide
  have r2 : slotE bd0.cs ([], 210) ([], 0) E2 = ([[⟨99, 0⟩]], 0) := by decide
  have r3 : slotE bd0.cs ([], 210) ([], 0) E3 = ([[⟨98, 0⟩], [⟨97, 0⟩]], 0) := by decide
  have r4 : slotE bd0.cs ([], 210) ([], 0) E4 = ([], 10) := by decide
  have r5 : slotE bd0.cs ([], 210) ([], 0) E5 = ([], 10) := by decide
  have r6 : slotE bd0.cs ([], 210) ([], 0) E6 = ([], 210) := by decide
  have hS := slots26 (slotE bd0.cs ([], 210) ([], 0)) bd0 0 [] [E1, E5] (by simp) (by intro e he; simp at he; rcases he with rfl | rfl <;> assumption) (by intro e he; simp at he; rcases he with rfl | rfl <;> (first | (rw [r1]; decide) | (rw [r5]; decide)))
  have rS : slotsF (slotE bd0.cs ([], 210) ([], 0)) [E1, E5] 0 [] = ([], 1, 10) := by decide
  rw [rS] at hS
  rw [r1] at s1; rw [r2] at s2; rw [r3] at s3; rw [r4] at s4; rw [r5] at s5; rw [r6] at s6
  have t1 := typed59 [97] (by simp)
  have t2 := typed59 [99] (by simp)
  have t3 := typed59 [98, 97] (by simp)
  have m (a : List (List Ch)) (h : sok a) := same21 a a h.1 h.1 h.2 h.2
  have sk (a : List (List Ch)) (h : (decide (a.length ≤ 100000) && a.all (fun s => decide (s.length ≤ 100000))) = true) : sok a := by
    simp only [Bool.and_eq_true, decide_eq_true_eq, List.all_eq_true] at h; exact h
  have u1 := m [[⟨97, 0⟩]] (sk _ (by decide))
  have u2 := m [[⟨99, 0⟩]] (sk _ (by decide))
  have u3 := m [[⟨98, 0⟩], [⟨97, 0⟩]] (sk _ (by decide))
  have u4 := same25 ([], 1, 10) ([], 1, 10) (sk _ (by decide)) (sk _ (by decide))
  rw [decide_eq_true rfl] at u1 u2 u3 u4
  have v1 := costs60 [97, 99] 5 (.inr (by decide))
  have v2 := costs60 [98, 99] 2 (.inr (by decide))
  have v3 := costs60 [99, 99] (-1) (.inl (by decide))
  have v4 := costs60 [97] (-1) (.inl (by decide))
  refine enterP tabOk Tryz.func15 121 [0, 1, 2, 3, 4, 5, 6, 7, 8, 9, 11, 13, 15, 16, 17] [.tmp 0] rfl (r := [_]) rfl (h := ?_); intro E hK; simp only [go_sem]
  refine wgo ?_
  refine wcallF (s1) (And.intro (@Brd.d.eq_1) (And.intro (@bd0.eq_1) (And.intro (@E1.eq_1) (And.intro (@Ev.d.eq_1) (@Ck.d.eq_1))))) ?_
  refine wgoF (@rD.eq_1) ?_
  refine wcallF (s2) (And.intro (@Brd.d.eq_1) (And.intro (@bd0.eq_1) (And.intro (@E2.eq_1) (And.intro (@Ev.d.eq_1) (@Ck.d.eq_1))))) ?_
  refine wgoF (@rD.eq_1) ?_
  refine wcallF (s3) (And.intro (@Brd.d.eq_1) (And.intro (@bd0.eq_1) (And.intro (@E3.eq_1) (And.intro (@Ev.d.eq_1) (@Ck.d.eq_1))))) ?_
  refine wgoF (@rD.eq_1) ?_
  refine wcallF (s4) (And.intro (@Brd.d.eq_1) (And.intro (@bd0.eq_1) (And.intro (@E4.eq_1) (And.intro (@Ev.d.eq_1) (@Ck.d.eq_1))))) ?_
  refine wgoF (@rD.eq_1) ?_
  refine wcallF (s5) (And.intro (@Brd.d.eq_1) (And.intro (@bd0.eq_1) (And.intro (@E5.eq_1) (And.intro (@Ev.d.eq_1) (@Ck.d.eq_1))))) ?_
  refine wgoF (@rD.eq_1) ?_
  refine wcallF (s6) (And.intro (@Brd.d.eq_1) (And.intro (@bd0.eq_1) (And.intro (@E6.eq_1) (And.intro (@Ev.d.eq_1) (And.intro (@Ck.d.eq_1) (@Pt.d.eq_1)))))) ?_
  refine wgoF (@rD.eq_1) ?_
  refine wcall (t1) ?_
  refine wgo ?_
  refine wcallF (u1) (And.intro (@slsD.eq_1) (@slD.eq_1)) ?_
  refine wgo ?_
  refine wcall (t2) ?_
  refine wgo ?_
  refine wcallF (u2) (And.intro (@slsD.eq_1) (@slD.eq_1)) ?_
  refine wgo ?_
  refine wcall (t3) ?_
  refine wgo ?_
  refine wcallF (u3) (And.intro (@slsD.eq_1) (@slD.eq_1)) ?_
  refine wgo ?_
  refine wcallF (hS) (And.intro (@Brd.d.eq_1) (And.intro (@bd0.eq_1) (And.intro (@E1.eq_1) (And.intro (@E5.eq_1) (And.intro (@Ev.d.eq_1) (@Ck.d.eq_1)))))) ?_
  refine wgo ?_
  refine wcallF (u4) (And.intro (@r3A.eq_1) (And.intro (@slsD.eq_1) (@slD.eq_1))) ?_
  refine wgo ?_
  refine wcall (v1) ?_
  refine wgo ?_
  refine wcall (v2) ?_
  refine wgo ?_
  refine wcall (v3) ?_
  refine wgo ?_
  refine wcall (v4) ?_
  refine wgo ?_
  exact wret
end Go.Proofs.YtojgjdcciojpeaaGreat

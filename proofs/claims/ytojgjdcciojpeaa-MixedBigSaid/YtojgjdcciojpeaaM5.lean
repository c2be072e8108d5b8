/-
  A part of the walks of this seat: each theorem says what a function of the program gives. No condition beyond its own premises.
-/
import Derived.Test.YtojgjdcciojpeaaC0
set_option linter.unusedSimpArgs false
set_option linter.unusedVariables false
namespace Go.Proofs.Ytojgjdcciojpeaa
open Go Go.PS
set_option maxRecDepth 100000
set_option maxHeartbeats 4000000
def byteC (c : UInt8) : Ch := ⟨(c.toNat : Int), 0⟩
/-- The slots of letters. -/
def typedF (l : List UInt8) : List (List Ch) := l.map fun c => [byteC c]
theorem typed_len (l : List UInt8) : (typedF l).length = l.length := by simp [typedF]
theorem typed_snoc {l : List UInt8} {i : Nat} (h : i < l.length) : (typedF (l.take (i + 1))).map slD = (typedF (l.take i)).map slD ++ [.sl 2 [.agg [.int .u8 ((l.getD i 0).toNat : Int), .int .i64 0]]] := by
  have e : l.getD i 0 = l[i] := by simp [h]
  rw [List.take_succ_eq_append_getElem h, e]
  simp only [typedF, List.map_append, List.map_cons, List.map_nil]; rfl
theorem typed59 (l : List UInt8) (hl : l.length ≤ 100000) : PCall Try.prog 10 [.str l] (slsD (typedF l)) := by
  refine enterP tabOk Try.func10 21 [0, 2, 3, 4, 9] [.tmp 2] rfl (r := [_]) rfl (h := ?_); intro E hK; simp only [go_sem]
  refine wgo ?_
  (apply Run.full 3 1003 63 1; (case hi => simp only [go_sem]; rfl); (case ht => simp only [go_sem]); (case hmn => first | exact Or.inl (by decide) | exact Or.inr rfl); (case hs => simp only [go_sem]; rfl))
  refine wlpF (Run.loopC (ι := { i : Nat // i ≤ l.length }) (U := fun i => [(3, .own 1 ((typedF (l.take i.1)).map slD) (.tok 1003)), (4, .d (.int .i64 i.1))]) (O := fun i => []) (K := fun _ => [(1003, .live 63 1)]) (μ := fun i => l.length - i.1) (i0 := ⟨0, by omega⟩)) (And.intro (@slD.eq_1) (@typedF.eq_1)) ?_
  rintro ⟨i, hi⟩ ih
  have hlen : (List.map slD (typedF (List.take i l))).length = i := by simp [typedF]; omega
  by_cases hlt : i < l.length
  · have h1 : (i : Int) < l.length := by omega
    have hs := typed_snoc hlt
    simp only [go_sem]
    refine wgoF (And.intro (@h1) (@hlen)) ?_
    (apply Run.retok 19 1003; (case hk => simp only [go_sem]; rfl); (case ht => simp only [go_sem]; rfl); (case ht' => simp only [go_sem]); (case hs => simp only [go_sem]; rfl))
    exact wnxtF (ih ⟨i + 1, by omega⟩) (@hs)
  · have h1 : ¬ (i : Int) < l.length := by omega
    have e : l.take i = l := List.take_of_length_le (by omega)
    simp only [go_sem, e]
    refine wgoF (@h1) ?_
    exact wretF (@slsD.eq_1)
/-- The row of slots after i rounds. -/
def tyR (l : List UInt8) (i : Nat) : List D := (typedF (l.take i)).map slD ++ List.replicate (l.length - i) (.sl 2 [])
theorem tyR_len {l : List UInt8} {i : Nat} (h : i ≤ l.length) : (tyR l i).length = l.length := by simp [tyR, typedF]; omega
theorem tyR_lenM {l : List UInt8} {i : Nat} (h : i ≤ l.length) : (List.map PV.ofD.PV.ofD1 (tyR l i)).length = l.length := by rw [List.length_map, tyR_len h]
theorem tyR_get {l : List UInt8} {i : Nat} (h : i < l.length) : (List.map PV.ofD.PV.ofD1 (tyR l i)).getD i .any = .d (.sl 2 []) := by
  have hlen : ((typedF (l.take i)).map slD).length = i := by simp [typedF]; omega
  have e : (tyR l i)[i]? = some (.sl 2 []) := by
    rw [tyR, List.getElem?_append_right (by omega), hlen, Nat.sub_self, List.getElem?_replicate, if_pos (by omega)]
  simp [List.getD, e, PV.ofD.PV.ofD1]
theorem tyR_set {l : List UInt8} {i : Nat} (h : i < l.length) : (tyR l i).set i (.sl 2 [.agg [.int .u8 ((l.getD i 0).toNat : Int), .int .i64 0]]) = tyR l (i + 1) := by
  have hlen : ((typedF (l.take i)).map slD).length = i := by simp [typedF]; omega
  obtain ⟨m, hm⟩ : ∃ m, l.length - i = m + 1 := ⟨l.length - i - 1, by omega⟩
  rw [tyR, tyR, List.set_append_right _ _ (by omega), hlen, Nat.sub_self, hm, List.replicate_succ, List.set_cons_zero, typed_snoc h, show l.length - (i + 1) = m by omega, List.append_assoc]
  rfl
theorem tyR_all (l : List UInt8) : tyR l l.length = (typedF l).map slD := by simp [tyR]
theorem tyR_one (l : List UInt8) (i : Nat) : ∀ e ∈ tyR l i, e.cells.length = 1 := by
  intro e he
  rcases List.mem_append.1 he with h | h
  · obtain ⟨s, _, rfl⟩ := List.mem_map.1 h; rfl
  · rw [(List.mem_replicate.1 h).2]; rfl
theorem tyR_zero (l : List UInt8) : tyR l 0 = List.replicate l.length (.sl 2 []) := by simp [tyR, typedF]
theorem typed112 (l : List UInt8) (hl : l.length ≤ 100000) : PCall Try.prog 28 [.str l] (slsD (typedF l)) := by
  by_cases hn : l = []
  · subst hn
    refine enterP tabOk Try.func28 23 [0, 2, 3, 4, 9, 10, 11] [.tmp 2] rfl (r := [_]) rfl (h := ?_); intro E hK; simp only [go_sem]
    refine wgo ?_
    refine run_loop ?_
    refine wgo ?_
    exact wretF (And.intro (@slsD.eq_1) (@typedF.eq_1))
  · have hpos : 0 < l.length := List.length_pos_iff.2 hn
    have h0 : ¬ ((l.length : Int) = 0) := by omega
    have z0 := tyR_zero l
    refine enterP tabOk Try.func28 23 [0, 2, 3, 4, 9, 10, 11] [.tmp 2] rfl (r := [_]) rfl (h := ?_); intro E hK; simp only [go_sem]
    refine wgoF (@h0) ?_
    (apply Run.reOb 7 (List.map PV.ofD.PV.ofD1 (List.replicate l.length (D.sl 2 []))); (case ho => simp only [go_sem]; rfl); (case h => exact reOb_nils _ _ _ _); (case hs => simp [PV.ofD.PV.ofD1, PV.cells]); (case hss => simp only [go_sem]; rfl))
    rw [← z0]
    refine wlp (Run.loopC (ι := { i : Nat // i ≤ l.length }) (U := fun i => [(10, .d (.int .i64 i.1))]) (O := fun i => [(7, some ⟨63, 1, (tyR l i.1).map PV.ofD.PV.ofD1⟩)]) (K := fun _ => []) (μ := fun i => l.length - i.1) (i0 := ⟨0, by omega⟩)) ?_
    rintro ⟨i, hi⟩ ih
    by_cases hlt : i < l.length
    · have h1 : (i : Int) < l.length := by omega
      have e1 := tyR_lenM (Nat.le_of_lt hlt)
      have e2 := tyR_get hlt
      simp only [go_sem]
      refine wgoF (And.intro (@h1) (And.intro (@e1) (@e2))) ?_
      (apply Run.reOb 7 ((tyR l (i + 1)).map PV.ofD.PV.ofD1); (case ho => simp only [go_sem]; rfl); (case h => intro γ cs hh; have q := reOb_own _ _ _ _ _ γ cs hh; rw [tyR_set hlt] at q; exact q); (case hs => intro e he; obtain ⟨d, hd, rfl⟩ := List.mem_map.1 he; have := tyR_one l (i + 1) d hd; rw [← this]; cases d <;> simp [PV.ofD.PV.ofD1, PV.cells, D.cells]); (case hss => simp only [go_sem]; rfl))
      exact wnxt (ih ⟨i + 1, by omega⟩)
    · have h1 : ¬ (i : Int) < l.length := by omega
      obtain rfl : i = l.length := by omega
      have e := tyR_all l
      have e2 : (l.length ≤ (typedF l).length) = True := eq_true (by rw [typed_len]; exact Nat.le_refl _)
      have e3 : List.take l.length (List.map slD (typedF l)) = List.map slD (typedF l) := List.take_of_length_le (by rw [List.length_map, typed_len]; exact Nat.le_refl _)
      simp only [go_sem]
      refine wgoF (@h1) ?_
      (apply Run.freezeRow 7; (case ho => simp only [go_sem]; rfl); (case hsz => exact tyR_one l l.length); (case hit => rfl); (case hs => simp only [go_sem]; rfl))
      exact wretF (And.intro (@e) (And.intro (@e2) (And.intro (@e3) (@slsD.eq_1))))
/-! Slots held against each other. -/
theorem same32 (a b : List Ch) (hl : a.length ≤ 100000) (hl2 : b.length ≤ 100000) : PCall Try.prog 15 [.sl 2 (a.map Ch.d), .sl 2 (b.map Ch.d)] (.bool (decide (a = b))) := by
  by_cases hne : a.length = b.length
  · have h0 : decide ((a.length : Int) = (b.length : Int)) = true := decide_eq_true (by omega)
    refine enterP tabOk Try.func15 26 [0, 1, 4, 5, 10, 14, 25] [.tmp 4] rfl (r := [_]) rfl (h := ?_); intro E hK; simp only [go_sem]
    refine wgoF (@h0) ?_
    refine wlp (Run.loopC (ι := { i : Nat // i ≤ a.length ∧ a.take i = b.take i }) (U := fun i => [(5, .d (.int .i64 i.1))]) (O := fun i => []) (K := fun _ => []) (μ := fun i => a.length - i.1) (i0 := ⟨0, by omega, rfl⟩)) ?_
    rintro ⟨i, hi, he⟩ ih
    by_cases hlt : i < a.length
    · have h1 : (i : Int) < a.length := by omega
      have h1b : (i : Int) < b.length := by omega
      have hlt2 : i < b.length := by omega
      have ga := ch_get hlt
      have gb := ch_get hlt2
      have ea : a.getD i default = a[i] := by simp [hlt]
      have eb : b.getD i default = b[i] := by simp [hlt2]
      by_cases heq : a.getD i default = b.getD i default
      · have c1 : decide ((a.getD i default).k = (b.getD i default).k) = true := decide_eq_true (by rw [heq])
        have c2 : decide ((a.getD i default).c = (b.getD i default).c) = true := decide_eq_true (by rw [heq])
        simp only [go_sem]
        refine wgoF (And.intro (@h1) (And.intro (@h1b) (And.intro (@ga) (And.intro (@gb) (And.intro (@c1) (@c2)))))) ?_
        exact wnxt (ih ⟨i + 1, by omega, by rw [List.take_succ_eq_append_getElem hlt, List.take_succ_eq_append_getElem hlt2, he, ← ea, ← eb, heq]⟩)
      · have c1 : (!(decide ((a.getD i default).k = (b.getD i default).k) && decide ((a.getD i default).c = (b.getD i default).c))) = true := by
          rw [Bool.not_eq_true', Bool.and_eq_false_iff]
          by_cases q : (a.getD i default).k = (b.getD i default).k
          · right; refine decide_eq_false fun q2 => heq ?_
            generalize a.getD i default = u at q q2; generalize b.getD i default = v at q q2
            cases u; cases v; simp_all
          · left; exact decide_eq_false q
        have hr : decide (a = b) = false := decide_eq_false fun e => by subst e; exact heq rfl
        simp only [go_sem]
        refine wgoF (And.intro (@h1) (And.intro (@h1b) (And.intro (@ga) (And.intro (@gb) (@c1))))) ?_
        exact wretF (@hr)
    · have h1 : ¬ (i : Int) < a.length := by omega
      have hr : decide (a = b) = true := decide_eq_true (by
        rw [List.take_of_length_le (by omega), List.take_of_length_le (by omega)] at he; exact he)
      simp only [go_sem]
      refine wgoF (@h1) ?_
      exact wretF (@hr)
  · have h0 : decide ((a.length : Int) = (b.length : Int)) = false := decide_eq_false (by omega)
    have hr : decide (a = b) = false := decide_eq_false fun e => hne (by rw [e])
    refine enterP tabOk Try.func15 26 [0, 1, 4, 5, 10, 14, 25] [.tmp 4] rfl (r := [_]) rfl (h := ?_); intro E hK; simp only [go_sem]
    refine wgoF (@h0) ?_
    exact wretF (@hr)
theorem same21 (a b : List (List Ch)) (hl : a.length ≤ 100000) (hl2 : b.length ≤ 100000) (ha : ∀ s ∈ a, s.length ≤ 100000) (hb : ∀ s ∈ b, s.length ≤ 100000) : PCall Try.prog 9 [slsD a, slsD b] (.bool (decide (a = b))) := by
  by_cases hne : a.length = b.length
  · have h0 : decide ((a.length : Int) = (b.length : Int)) = true := decide_eq_true (by omega)
    refine enterP tabOk Try.func9 27 [0, 1, 4, 5, 10, 14, 26] [.tmp 4] rfl (r := [_]) rfl (h := ?_); intro E hK; simp only [go_sem]
    refine wgoF (And.intro (@slsD.eq_1) (@h0)) ?_
    refine wlp (Run.loopC (ι := { i : Nat // i ≤ a.length ∧ a.take i = b.take i }) (U := fun i => [(5, .d (.int .i64 i.1))]) (O := fun i => []) (K := fun _ => []) (μ := fun i => a.length - i.1) (i0 := ⟨0, by omega, rfl⟩)) ?_
    rintro ⟨i, hi, he⟩ ih
    by_cases hlt : i < a.length
    · have h1 : (i : Int) < a.length := by omega
      have h1b : (i : Int) < b.length := by omega
      have hlt2 : i < b.length := by omega
      have ga := sl_get hlt
      have gb := sl_get hlt2
      have ea : a.getD i [] = a[i] := by simp [hlt]
      have eb : b.getD i [] = b[i] := by simp [hlt2]
      have hc := same32 (a.getD i []) (b.getD i []) (by rw [ea]; exact ha _ (List.getElem_mem hlt)) (by rw [eb]; exact hb _ (List.getElem_mem hlt2))
      by_cases heq : a.getD i [] = b.getD i []
      · have c1 : decide (a.getD i [] = b.getD i []) = true := decide_eq_true heq
        rw [c1] at hc
        simp only [go_sem]
        refine wgoF (And.intro (@h1) (And.intro (@h1b) (And.intro (@ga) (@gb)))) ?_
        refine wcall (hc) ?_
        refine wgo ?_
        exact wnxt (ih ⟨i + 1, by omega, by rw [List.take_succ_eq_append_getElem hlt, List.take_succ_eq_append_getElem hlt2, he, ← ea, ← eb, heq]⟩)
      · have c1 : decide (a.getD i [] = b.getD i []) = false := decide_eq_false heq
        rw [c1] at hc
        have hr : decide (a = b) = false := decide_eq_false fun e => by subst e; exact heq rfl
        simp only [go_sem]
        refine wgoF (And.intro (@h1) (And.intro (@h1b) (And.intro (@ga) (@gb)))) ?_
        refine wcall (hc) ?_
        refine wgo ?_
        exact wretF (@hr)
    · have h1 : ¬ (i : Int) < a.length := by omega
      have hr : decide (a = b) = true := decide_eq_true (by
        rw [List.take_of_length_le (by omega), List.take_of_length_le (by omega)] at he; exact he)
      simp only [go_sem]
      refine wgoF (@h1) ?_
      exact wretF (@hr)
  · have h0 : decide ((a.length : Int) = (b.length : Int)) = false := decide_eq_false (by omega)
    have hr : decide (a = b) = false := decide_eq_false fun e => hne (by rw [e])
    refine enterP tabOk Try.func9 27 [0, 1, 4, 5, 10, 14, 26] [.tmp 4] rfl (r := [_]) rfl (h := ?_); intro E hK; simp only [go_sem]
    refine wgoF (And.intro (@slsD.eq_1) (@h0)) ?_
    exact wretF (@hr)
end Go.Proofs.Ytojgjdcciojpeaa

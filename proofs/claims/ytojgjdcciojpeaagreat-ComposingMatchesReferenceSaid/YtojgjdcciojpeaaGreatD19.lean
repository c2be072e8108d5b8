/-
  A part of the walks of this seat: each theorem says what a function of the program gives. No condition beyond its own premises.
-/
import Derived.Test.YtojgjdcciojpeaaGreatD18
set_option linter.unusedSimpArgs false
set_option linter.unusedVariables false
namespace Go.Proofs.YtojgjdcciojpeaaGreat
open Go Go.PS
set_option maxRecDepth 100000
set_option maxHeartbeats 4000000

theorem stable37 (g : Nat) (key : Ch → Int) (hg : ∀ a b : Ch, PCall Tryz.prog g [a.d, b.d] (.int .i64 (cmpI (key a) (key b)))) (l : List Ch) (hl : l.length ≤ 12) :
    MCall Tryz.prog 156 [cPO l] [.hrow 5000 2 0 l.length l.length, .d (.int .i64 l.length), .d (.fn (.func g) [] [])] (.tup []) [cPO (isort (ltK key) l.length l 1)] := by
  have h1 : ¬ (20 : Int) ≤ l.length := by omega
  have h2 : ¬ (20 : Int) < l.length := by omega
  refine enterM tabOk Tryz.func156 63 [0, 1, 2, 6, 7, 8, 9, 13, 30, 35, 54] [] rfl (r := []) rfl (cPO_el l) (ids_one rfl) (h := ?_); intro E hK; simp only [go_sem, cO, chE_len, cPO, chE_fold, inR_u64]
  refine wgoF (And.intro (@cO.eq_1) (And.intro (@chE_len) (And.intro (@cPO.eq_1) (And.intro (@chE_fold) (@inR_u64))))) ?_
  refine run_loop ?_
  refine wgoF (And.intro (@h1) (And.intro (@cO.eq_1) (And.intro (@chE_len) (And.intro (@cPO.eq_1) (And.intro (@chE_fold) (@inR_u64)))))) ?_
  refine wmcallF ([(5000, 5000)]) (cPO_el _) (isort44 g key hg l (by omega)) (And.intro (@cO.eq_1) (And.intro (@chE_len) (And.intro (@cPO.eq_1) (And.intro (@chE_fold) (@inR_u64))))) ?_
  refine wgoF (And.intro (@cO.eq_1) (And.intro (@chE_len) (And.intro (@cPO.eq_1) (And.intro (@chE_fold) (@inR_u64))))) ?_
  refine run_loop ?_
  refine wgoF (And.intro (@h2) (And.intro (@cO.eq_1) (And.intro (@chE_len) (And.intro (@cPO.eq_1) (And.intro (@chE_fold) (@inR_u64)))))) ?_
  exact wretF (And.intro (@cO.eq_1) (And.intro (@chE_len) (And.intro (@cPO.eq_1) (And.intro (@chE_fold) (@inR_u64)))))
theorem stable26 (g : Nat) (key : Ch → Int) (hg : ∀ a b : Ch, PCall Tryz.prog g [a.d, b.d] (.int .i64 (cmpI (key a) (key b)))) (l : List Ch) (hl : l.length ≤ 12) :
    MCall Tryz.prog 136 [cPO l] [.hrow 5000 2 0 l.length l.length, .d (.fn (.func g) [] [])] (.tup []) [cPO (isort (ltK key) l.length l 1)] := by
  refine enterM tabOk Tryz.func136 9 [0, 1] [] rfl (r := []) rfl (cPO_el l) (ids_one rfl) (h := ?_); intro E hK; simp only [go_sem, cO, chE_len, cPO, chE_fold, inR_u64]
  refine wgoF (And.intro (@cO.eq_1) (And.intro (@chE_len) (And.intro (@cPO.eq_1) (And.intro (@chE_fold) (@inR_u64))))) ?_
  refine wmcallF ([(5000, 5000)]) (cPO_el _) (stable37 g key hg l hl) (And.intro (@cO.eq_1) (And.intro (@chE_len) (And.intro (@cPO.eq_1) (And.intro (@chE_fold) (@inR_u64))))) ?_
  refine wgoF (And.intro (@cO.eq_1) (And.intro (@chE_len) (And.intro (@cPO.eq_1) (And.intro (@chE_fold) (@inR_u64))))) ?_
  exact wretF (And.intro (@cO.eq_1) (And.intro (@chE_len) (And.intro (@cPO.eq_1) (And.intro (@chE_fold) (@inR_u64)))))
theorem pdq39 (g : Nat) (key : Ch → Int) (hg : ∀ a b : Ch, PCall Tryz.prog g [a.d, b.d] (.int .i64 (cmpI (key a) (key b)))) (l : List Ch) (hl : l.length ≤ 12) (m : Int) :
    MCall Tryz.prog 157 [cPO l] [.hrow 5000 2 0 l.length l.length, .d (.int .i64 0), .d (.int .i64 l.length), .d (.int .i64 m), .d (.fn (.func g) [] [])] (.tup []) [cPO (isort (ltK key) l.length l 1)] := by
  have h1 : (l.length : Int) - 0 ≤ 12 := by omega
  refine enterM tabOk Tryz.func157 148 [0, 1, 2, 3, 4, 10, 11, 12, 13, 14, 15, 16, 17, 18, 19, 20, 25, 32, 39, 56, 75, 80, 97, 125] [] rfl (r := []) rfl (cPO_el l) (ids_one rfl) (h := ?_); intro E hK; simp only [go_sem, cO, chE_len, cPO, chE_fold, inR_u64]
  refine wgoF (And.intro (@h1) (And.intro (@cO.eq_1) (And.intro (@chE_len) (And.intro (@cPO.eq_1) (And.intro (@chE_fold) (@inR_u64)))))) ?_
  refine run_loop ?_
  refine wgoF (And.intro (@h1) (And.intro (@cO.eq_1) (And.intro (@chE_len) (And.intro (@cPO.eq_1) (And.intro (@chE_fold) (@inR_u64)))))) ?_
  refine wmcallF ([(5000, 5000)]) (cPO_el _) (isort44 g key hg l (by omega)) (And.intro (@cO.eq_1) (And.intro (@chE_len) (And.intro (@cPO.eq_1) (And.intro (@chE_fold) (@inR_u64))))) ?_
  refine wgoF (And.intro (@cO.eq_1) (And.intro (@chE_len) (And.intro (@cPO.eq_1) (And.intro (@chE_fold) (@inR_u64))))) ?_
  exact wretF (And.intro (@cO.eq_1) (And.intro (@chE_len) (And.intro (@cPO.eq_1) (And.intro (@chE_fold) (@inR_u64)))))
theorem sort29 (g : Nat) (key : Ch → Int) (hg : ∀ a b : Ch, PCall Tryz.prog g [a.d, b.d] (.int .i64 (cmpI (key a) (key b)))) (l : List Ch) (hl : l.length ≤ 12) :
    MCall Tryz.prog 138 [cPO l] [.hrow 5000 2 0 l.length l.length, .d (.fn (.func g) [] [])] (.tup []) [cPO (isort (ltK key) l.length l 1)] := by
  obtain ⟨r, hr⟩ := len40 l.length (by omega) (by omega)
  refine enterM tabOk Tryz.func138 14 [0, 1, 4] [] rfl (r := []) rfl (cPO_el l) (ids_one rfl) (h := ?_); intro E hK; simp only [go_sem, cO, chE_len, cPO, chE_fold, inR_u64]
  refine wgoF (And.intro (@cO.eq_1) (And.intro (@chE_len) (And.intro (@cPO.eq_1) (And.intro (@chE_fold) (@inR_u64))))) ?_
  refine wcallF (hr) (And.intro (@cO.eq_1) (And.intro (@chE_len) (And.intro (@cPO.eq_1) (And.intro (@chE_fold) (@inR_u64))))) ?_
  refine wgoF (And.intro (@cO.eq_1) (And.intro (@chE_len) (And.intro (@cPO.eq_1) (And.intro (@chE_fold) (@inR_u64))))) ?_
  refine wmcallF ([(5000, 5000)]) (cPO_el _) (pdq39 g key hg l hl r) (And.intro (@cO.eq_1) (And.intro (@chE_len) (And.intro (@cPO.eq_1) (And.intro (@chE_fold) (@inR_u64))))) ?_
  refine wgoF (And.intro (@cO.eq_1) (And.intro (@chE_len) (And.intro (@cPO.eq_1) (And.intro (@chE_fold) (@inR_u64))))) ?_
  exact wretF (And.intro (@cO.eq_1) (And.intro (@chE_len) (And.intro (@cPO.eq_1) (And.intro (@chE_fold) (@inR_u64)))))
end Go.Proofs.YtojgjdcciojpeaaGreat
set_option linter.unusedSimpArgs false
set_option linter.unusedVariables false
namespace Go.Proofs.YtojgjdcciojpeaaGreat
open Go Go.PS
set_option maxRecDepth 100000
set_option maxHeartbeats 4000000
theorem best_step {p : List Pt} {T : List Tpl} {i : Nat} (h : i < T.length) (k : Int) : bestO p (T.take (i + 1)) k = if (T.getD i default).key = k then some (match bestO p (T.take i) k with | none => cst p (T.getD i default).p | some v => min v (cst p (T.getD i default).p)) else bestO p (T.take i) k := by
  have e : T.getD i default = T[i] := by simp [h]
  rw [List.take_succ_eq_append_getElem h, best_snoc, e]
  cases bestO p (T.take i) k <;> rfl
def co22H (bd : Bd) (T : List Tpl) (p : List Pt) (k : Int) (i : Nat) (v : Int) : SL := SL.mk [(1, pL p), (2, .d (.int .u8 k)), (3, .hp 3 0 0), (7, .d (.int .i64 v)), (8, .d (.int .i64 i))] [(3, some (brdB bd T))] []

theorem cost22 (bd : Bd) (T : List Tpl) (p : List Pt) (k : Int) (hT : TOk T) (hp : validB p = true) (hl : T.length ≤ 100) :
    PCall Tryz.prog 70 [bdD bd T, .sl 2 (p.map Pt.d), .int .u8 k] (.int .i64 ((bestO p T k).getD (-1))) := by
  obtain ⟨hpo, hpl1, hpl2⟩ := valid_ok hp
  refine enterP tabOk Tryz.func70 44 [0, 1, 2, 3, 6, 7, 8, 9, 14, 24, 41] [.tmp 6] rfl (r := [_]) rfl (h := ?_); intro E hK; simp only [go_sem, Pt.d, Tpl.d, pL, co22H, brdB, bdD]
  refine wgoF (And.intro (@Pt.d.eq_1) (And.intro (@Tpl.d.eq_1) (And.intro (@pL.eq_1) (And.intro (@co22H.eq_1) (And.intro (@brdB.eq_1) (@bdD.eq_1)))))) ?_
  refine wlpF (Run.loop (ι := { i : Nat // i ≤ T.length }) (H := fun i => co22H bd T p k i.1 ((bestO p (T.take i.1) k).getD (-1))) (μ := fun i => T.length - i.1) (i0 := ⟨0, by omega⟩)) (And.intro (@bestO.eq_1) (And.intro (@Pt.d.eq_1) (And.intro (@Tpl.d.eq_1) (And.intro (@pL.eq_1) (And.intro (@co22H.eq_1) (And.intro (@brdB.eq_1) (@bdD.eq_1))))))) ?_
  rintro ⟨i, hi⟩ ih
  by_cases hlt : i < T.length
  · have h1 : (i : Int) < T.length := by omega
    have hget := tpl_get hlt
    obtain ⟨b1, b2, b3, b4, b5⟩ := tok_get hT hlt
    have hd := dist16 p (T.getD i default).p hpo b3 (by omega) (by omega) (by omega) b4
    have hd0 := Wg_bound0 hpo b3 (i := p.length - 1) (j := (T.getD i default).p.length - 1) (by omega) (by omega)
    have hd1 : 0 ≤ dist p (T.getD i default).p ∧ dist p (T.getD i default).p ≤ 1000000 := hd0
    obtain ⟨hd2, hd3⟩ := hd1
    have hs := best_step (p := p) hlt k
    by_cases hk : (T.getD i default).key = k
    · have r1 : decide ((T.getD i default).key = k) = true := decide_eq_true hk
      rw [if_pos hk] at hs
      have hcst : min (divT (dist p (T.getD i default).p) 16) 1000 = cst p (T.getD i default).p := by rw [divT_nn hd2]; rfl
      have hcn := cst_nonneg p (T.getD i default).p
      have hcl := cst_le p (T.getD i default).p
      cases hb : bestO p (T.take i) k with
      | none =>
        rw [hb] at hs
        simp only [go_sem, hb, Pt.d, Tpl.d, pL, co22H, brdB, bdD]
        refine wgoF (And.intro (@h1) (And.intro (@hget) (And.intro (@r1) (And.intro (@Pt.d.eq_1) (And.intro (@Tpl.d.eq_1) (And.intro (@pL.eq_1) (And.intro (@co22H.eq_1) (And.intro (@brdB.eq_1) (@bdD.eq_1))))))))) ?_
        have hneg : decide ((-1 : Int) < 0) = true := by decide
        refine wcallF (hd) (And.intro (@Pt.d.eq_1) (And.intro (@Tpl.d.eq_1) (And.intro (@pL.eq_1) (And.intro (@co22H.eq_1) (And.intro (@brdB.eq_1) (@bdD.eq_1)))))) ?_
        refine wgoF (And.intro (@hcst) (And.intro (@r1) (And.intro (@hneg) (And.intro (@Pt.d.eq_1) (And.intro (@Tpl.d.eq_1) (And.intro (@pL.eq_1) (And.intro (@co22H.eq_1) (And.intro (@brdB.eq_1) (@bdD.eq_1))))))))) ?_
        exact wnxtF (ih ⟨i + 1, by omega⟩) (And.intro (@hs) (And.intro (@Pt.d.eq_1) (And.intro (@Tpl.d.eq_1) (And.intro (@pL.eq_1) (And.intro (@co22H.eq_1) (And.intro (@brdB.eq_1) (@bdD.eq_1)))))))
      | some v =>
        rw [hb] at hs
        have hv := best_bd p _ k v hb
        have hv0 : ¬ v < 0 := by omega
        by_cases hc : cst p (T.getD i default).p < v
        · have hm : min v (cst p (T.getD i default).p) = cst p (T.getD i default).p := by omega
          dsimp only at hs
          rw [hm] at hs
          simp only [go_sem, hb, Pt.d, Tpl.d, pL, co22H, brdB, bdD]
          refine wgoF (And.intro (@h1) (And.intro (@hget) (And.intro (@r1) (And.intro (@Pt.d.eq_1) (And.intro (@Tpl.d.eq_1) (And.intro (@pL.eq_1) (And.intro (@co22H.eq_1) (And.intro (@brdB.eq_1) (@bdD.eq_1))))))))) ?_
          refine wcallF (hd) (And.intro (@Pt.d.eq_1) (And.intro (@Tpl.d.eq_1) (And.intro (@pL.eq_1) (And.intro (@co22H.eq_1) (And.intro (@brdB.eq_1) (@bdD.eq_1)))))) ?_
          refine wgoF (And.intro (@hcst) (And.intro (@r1) (And.intro (@hv0) (And.intro (@hc) (And.intro (@Pt.d.eq_1) (And.intro (@Tpl.d.eq_1) (And.intro (@pL.eq_1) (And.intro (@co22H.eq_1) (And.intro (@brdB.eq_1) (@bdD.eq_1)))))))))) ?_
          exact wnxtF (ih ⟨i + 1, by omega⟩) (And.intro (@hs) (And.intro (@Pt.d.eq_1) (And.intro (@Tpl.d.eq_1) (And.intro (@pL.eq_1) (And.intro (@co22H.eq_1) (And.intro (@brdB.eq_1) (@bdD.eq_1)))))))
        · have hm : min v (cst p (T.getD i default).p) = v := by omega
          dsimp only at hs
          rw [hm] at hs
          simp only [go_sem, hb, Pt.d, Tpl.d, pL, co22H, brdB, bdD]
          refine wgoF (And.intro (@h1) (And.intro (@hget) (And.intro (@r1) (And.intro (@Pt.d.eq_1) (And.intro (@Tpl.d.eq_1) (And.intro (@pL.eq_1) (And.intro (@co22H.eq_1) (And.intro (@brdB.eq_1) (@bdD.eq_1))))))))) ?_
          refine wcallF (hd) (And.intro (@Pt.d.eq_1) (And.intro (@Tpl.d.eq_1) (And.intro (@pL.eq_1) (And.intro (@co22H.eq_1) (And.intro (@brdB.eq_1) (@bdD.eq_1)))))) ?_
          refine wgoF (And.intro (@hcst) (And.intro (@r1) (And.intro (@hv0) (And.intro (@hc) (And.intro (@Pt.d.eq_1) (And.intro (@Tpl.d.eq_1) (And.intro (@pL.eq_1) (And.intro (@co22H.eq_1) (And.intro (@brdB.eq_1) (@bdD.eq_1)))))))))) ?_
          exact wnxtF (ih ⟨i + 1, by omega⟩) (And.intro (@hs) (And.intro (@Pt.d.eq_1) (And.intro (@Tpl.d.eq_1) (And.intro (@pL.eq_1) (And.intro (@co22H.eq_1) (And.intro (@brdB.eq_1) (@bdD.eq_1)))))))
    · have r1 : decide ((T.getD i default).key = k) = false := decide_eq_false hk
      rw [if_neg hk] at hs
      simp only [go_sem, Pt.d, Tpl.d, pL, co22H, brdB, bdD]
      refine wgoF (And.intro (@h1) (And.intro (@hget) (And.intro (@r1) (And.intro (@Pt.d.eq_1) (And.intro (@Tpl.d.eq_1) (And.intro (@pL.eq_1) (And.intro (@co22H.eq_1) (And.intro (@brdB.eq_1) (@bdD.eq_1))))))))) ?_
      exact wnxtF (ih ⟨i + 1, by omega⟩) (And.intro (@hs) (And.intro (@Pt.d.eq_1) (And.intro (@Tpl.d.eq_1) (And.intro (@pL.eq_1) (And.intro (@co22H.eq_1) (And.intro (@brdB.eq_1) (@bdD.eq_1)))))))
  · have h1 : ¬ (i : Int) < T.length := by omega
    have hti : T.take i = T := List.take_of_length_le (by omega)
    simp only [go_sem, hti, Pt.d, Tpl.d, pL, co22H, brdB, bdD]
    refine wgoF (And.intro (@h1) (And.intro (@Pt.d.eq_1) (And.intro (@Tpl.d.eq_1) (And.intro (@pL.eq_1) (And.intro (@co22H.eq_1) (And.intro (@brdB.eq_1) (@bdD.eq_1))))))) ?_
    exact wretF (And.intro (@Pt.d.eq_1) (And.intro (@Tpl.d.eq_1) (And.intro (@pL.eq_1) (And.intro (@co22H.eq_1) (And.intro (@brdB.eq_1) (@bdD.eq_1))))))
def bt32H (L : List Int) (a n j : Nat) : SL := SL.mk [(0, .d (.sl 1 (L.map iD))), (1, .d (.int .i64 a)), (5, .d (.int .i64 n)), (6, .d (.int .i64 j))] [] []
theorem i_get {L : List Int} {k : Nat} (h : k < L.length) : (L.map iD).getD k .nilp = .int .i64 (L.getD k 0) := by simp [h, iD]
def rankTo (L : List Int) (a j : Nat) : Nat := (List.range j).countP (lessB L a)
theorem rank_step (L : List Int) (a j : Nat) : rankTo L a (j + 1) = rankTo L a j + (if lessB L a j = true then 1 else 0) := by
  unfold rankTo
  rw [List.range_succ, List.countP_append]
  simp
theorem rank_le (L : List Int) (a j : Nat) : rankTo L a j ≤ j := by
  have := List.countP_le_length (p := lessB L a) (l := List.range j)
  simpa [rankTo] using this

theorem better32 (L : List Int) (a : Nat) (ha : a < L.length) (hl : L.length ≤ 100) : PCall Tryz.prog 71 [.sl 1 (L.map iD), .int .i64 a] (.int .i64 (rankF L a)) := by
  have hga := i_get ha
  refine enterP tabOk Tryz.func71 48 [0, 1, 4, 5, 6, 10, 44] [.tmp 4] rfl (r := [_]) rfl (h := ?_); intro E hK; simp only [go_sem, bt32H]
  refine wgoF (@bt32H.eq_1) ?_
  refine wlpF (Run.loop (ι := { j : Nat // j ≤ L.length }) (H := fun j => bt32H L a (rankTo L a j.1) j.1) (μ := fun j => L.length - j.1) (i0 := ⟨0, by omega⟩)) (And.intro (@rankTo.eq_1) (@bt32H.eq_1)) ?_
  rintro ⟨j, hj⟩ ih
  have hr := rank_le L a j
  have hs := rank_step L a j
  by_cases hlt : j < L.length
  · have h1 : (j : Int) < L.length := by omega
    have hgj := i_get hlt
    have fin : ∀ b : Bool, lessB L a j = b → rankTo L a (j + 1) = rankTo L a j + (if b = true then 1 else 0) := fun b hb => by rw [hs, hb]
    unfold lessB at fin
    by_cases c1 : 0 ≤ L.getD j 0
    · by_cases c2 : L.getD j 0 < L.getD a 0
      · have hf := fin true (by rw [decide_eq_true c1, decide_eq_true c2]; rfl)
        simp only [go_sem, bt32H]
        refine wgoF (And.intro (@h1) (And.intro (@hgj) (And.intro (@hga) (And.intro (@c1) (And.intro (@c2) (@bt32H.eq_1)))))) ?_
        exact wnxtF (ih ⟨j + 1, by omega⟩) (And.intro (@hf) (@bt32H.eq_1))
      · by_cases c3 : L.getD j 0 = L.getD a 0
        · have r3 : decide (L.getD j 0 = L.getD a 0) = true := decide_eq_true c3
          by_cases c4 : j < a
          · have hf := fin true (by rw [decide_eq_true c1, decide_eq_false c2, r3, decide_eq_true c4]; rfl)
            have c5 : (j : Int) < a := by omega
            simp only [go_sem, bt32H]
            refine wgoF (And.intro (@h1) (And.intro (@hgj) (And.intro (@hga) (And.intro (@c1) (And.intro (@c2) (And.intro (@r3) (And.intro (@c5) (@bt32H.eq_1)))))))) ?_
            exact wnxtF (ih ⟨j + 1, by omega⟩) (And.intro (@hf) (@bt32H.eq_1))
          · have hf := fin false (by rw [decide_eq_true c1, decide_eq_false c2, r3, decide_eq_false c4]; rfl)
            have c5 : ¬ (j : Int) < a := by omega
            simp only [go_sem, bt32H]
            refine wgoF (And.intro (@h1) (And.intro (@hgj) (And.intro (@hga) (And.intro (@c1) (And.intro (@c2) (And.intro (@r3) (And.intro (@c5) (@bt32H.eq_1)))))))) ?_
            exact wnxtF (ih ⟨j + 1, by omega⟩) (And.intro (@hf) (@bt32H.eq_1))
        · have r3 : decide (L.getD j 0 = L.getD a 0) = false := decide_eq_false c3
          have hf := fin false (by rw [decide_eq_true c1, decide_eq_false c2, r3]; rfl)
          simp only [go_sem, bt32H]
          refine wgoF (And.intro (@h1) (And.intro (@hgj) (And.intro (@hga) (And.intro (@c1) (And.intro (@c2) (And.intro (@r3) (@bt32H.eq_1))))))) ?_
          exact wnxtF (ih ⟨j + 1, by omega⟩) (And.intro (@hf) (@bt32H.eq_1))
    · have hf := fin false (by rw [decide_eq_false c1]; rfl)
      simp only [go_sem, bt32H]
      refine wgoF (And.intro (@h1) (And.intro (@hgj) (And.intro (@hga) (And.intro (@c1) (@bt32H.eq_1))))) ?_
      exact wnxtF (ih ⟨j + 1, by omega⟩) (And.intro (@hf) (@bt32H.eq_1))
  · have h1 : ¬ (j : Int) < L.length := by omega
    have hj2 : rankTo L a j = rankF L a := by unfold rankTo rankF; rw [show j = L.length by omega]
    simp only [go_sem, hj2, bt32H]
    refine wgoF (And.intro (@h1) (@bt32H.eq_1)) ?_
    exact wretF (@bt32H.eq_1)
end Go.Proofs.YtojgjdcciojpeaaGreat
set_option linter.unusedSimpArgs false
set_option linter.unusedVariables false
namespace Go.Proofs.YtojgjdcciojpeaaGreat
open Go Go.PS
set_option maxRecDepth 100000
set_option maxHeartbeats 4000000
def cosTo (p : List Pt) (T : List Tpl) (n : Nat) : List Int := (List.range n).map fun i : Nat => (bestO p T (97 + (i : Int))).getD (-1)
theorem cosTo_succ (p : List Pt) (T : List Tpl) (n : Nat) : (cosTo p T (n + 1)).map iD = (cosTo p T n).map iD ++ [.int .i64 ((bestO p T (97 + (n : Int))).getD (-1))] := by
  unfold cosTo
  rw [List.range_succ, List.map_append, List.map_append]; rfl
theorem cosTo_len (p : List Pt) (T : List Tpl) (n : Nat) : (cosTo p T n).length = n := by simp [cosTo]
def outTo (L : List Int) (n : Nat) : List Ch := ((List.range n).filter (goodB L)).map (mkC L)
theorem outTo_succ (L : List Int) (n : Nat) (h : goodB L n = true) : (outTo L (n + 1)).map Ch.d = (outTo L n).map Ch.d ++ [.agg [.int .u8 (97 + n), .int .i64 (L.getD n 0)]] := by
  unfold outTo
  rw [List.range_succ, List.filter_append, List.map_append, List.map_append]
  simp [h, mkC, Ch.d]
theorem outTo_skip (L : List Int) (n : Nat) (h : goodB L n = false) : outTo L (n + 1) = outTo L n := by
  unfold outTo
  rw [List.range_succ, List.filter_append, List.map_append]
  simp [h]
theorem outTo_len (L : List Int) (n : Nat) : (outTo L n).length ≤ n := by
  have := List.length_filter_le (goodB L) (List.range n)
  simpa [outTo] using this
def cs14H (bd : Bd) (T : List Tpl) (p : List Pt) (t i : Nat) : SL := SL.mk [(1, pL p), (2, .hp 2 0 0), (7, .own 1 ((cosTo p T i).map iD) (.tok t)), (8, .d (.int .i64 i))] [(2, some (brdB bd T))] [(t, .live 3 1)]
def ot14H (bd : Bd) (T : List Tpl) (L : List Int) (u i : Nat) : SL := SL.mk [(7, .d (.sl 1 (L.map iD))), (9, .own 2 ((outTo L i).map Ch.d) (.tok u)), (10, .d (.int .i64 i))] [] [(u, .live 62 2)]

theorem ref14 (bd : Bd) (T : List Tpl) (p : List Pt) (hT : TOk T) (hp : validB p = true) (hne : T ≠ []) (hl : T.length ≤ 100) :
    PCall Tryz.prog 33 [bdD bd T, .sl 2 (p.map Pt.d)] (.tup [.sl 2 ((refM (costL p T)).map Ch.d), .int .i64 0]) := by
  obtain ⟨hpo, hpl1, hpl2⟩ := valid_ok hp
  have hv := valid18 p (by omega)
  rw [hp] at hv
  have hTl : decide ((T.length : Int) = 0) = false := decide_eq_false (by have := List.length_pos_iff.2 hne; omega)
  refine enterP tabOk Tryz.func33 63 [0, 1, 2, 4, 5, 6, 7, 8, 9, 10, 20, 23, 37, 50] [.tmp 4, .tmp 5] rfl (r := [_, _]) rfl (h := ?_); intro E hK; simp only [go_sem, Pt.d, Tpl.d, pL, brdB, bdD, cs14H, ot14H]
  refine wgoF (And.intro (@Pt.d.eq_1) (And.intro (@Tpl.d.eq_1) (And.intro (@pL.eq_1) (And.intro (@brdB.eq_1) (And.intro (@bdD.eq_1) (And.intro (@cs14H.eq_1) (@ot14H.eq_1))))))) ?_
  refine wcallF (hv) (And.intro (@Pt.d.eq_1) (And.intro (@Tpl.d.eq_1) (And.intro (@pL.eq_1) (And.intro (@brdB.eq_1) (And.intro (@bdD.eq_1) (And.intro (@cs14H.eq_1) (@ot14H.eq_1))))))) ?_
  refine wgoF (And.intro (@hTl) (And.intro (@Pt.d.eq_1) (And.intro (@Tpl.d.eq_1) (And.intro (@pL.eq_1) (And.intro (@brdB.eq_1) (And.intro (@bdD.eq_1) (And.intro (@cs14H.eq_1) (@ot14H.eq_1)))))))) ?_
  (apply Run.full 7 1007 3 1; (case hi => simp only [go_sem, Pt.d, Tpl.d, pL, brdB, bdD, cs14H, ot14H]; rfl); (case ht => simp only [go_sem, Pt.d, Tpl.d, pL, brdB, bdD, cs14H, ot14H]); (case hmn => first | exact Or.inl (by decide) | exact Or.inr rfl); (case hs => simp only [go_sem, Pt.d, Tpl.d, pL, brdB, bdD, cs14H, ot14H]; rfl))
  refine wlpF (Run.loop (ι := { i : Nat // i ≤ 26 }) (H := fun i => cs14H bd T p 1007 i.1) (μ := fun i => 26 - i.1) (i0 := ⟨0, by omega⟩)) (And.intro (@cosTo.eq_1) (And.intro (@Pt.d.eq_1) (And.intro (@Tpl.d.eq_1) (And.intro (@pL.eq_1) (And.intro (@brdB.eq_1) (And.intro (@bdD.eq_1) (And.intro (@cs14H.eq_1) (@ot14H.eq_1)))))))) ?_
  rintro ⟨i, hi⟩ ih
  by_cases hlt : i < 26
  · have h1 : (i : Int) < 26 := by omega
    have hc := cost22 bd T p (97 + (i : Int)) hT hp hl
    have hcl := cosTo_len p T i
    have hbd : ((bestO p T (97 + (i : Int))).getD (-1)) ≤ 1000 ∧ -1 ≤ ((bestO p T (97 + (i : Int))).getD (-1)) := by
      cases hb : bestO p T (97 + (i : Int)) with
      | none => simp
      | some v => have := best_bd p T _ v hb; simp only [Option.getD_some]; omega
    obtain ⟨hbd1, hbd2⟩ := hbd
    simp only [go_sem, Pt.d, Tpl.d, pL, brdB, bdD, cs14H, ot14H]
    refine wgoF (And.intro (@h1) (And.intro (@Pt.d.eq_1) (And.intro (@Tpl.d.eq_1) (And.intro (@pL.eq_1) (And.intro (@brdB.eq_1) (And.intro (@bdD.eq_1) (And.intro (@cs14H.eq_1) (@ot14H.eq_1)))))))) ?_
    refine wcallF (hc) (And.intro (@Pt.d.eq_1) (And.intro (@Tpl.d.eq_1) (And.intro (@pL.eq_1) (And.intro (@brdB.eq_1) (And.intro (@bdD.eq_1) (And.intro (@cs14H.eq_1) (@ot14H.eq_1))))))) ?_
    refine wgoF (And.intro (@Pt.d.eq_1) (And.intro (@Tpl.d.eq_1) (And.intro (@pL.eq_1) (And.intro (@brdB.eq_1) (And.intro (@bdD.eq_1) (And.intro (@cs14H.eq_1) (@ot14H.eq_1))))))) ?_
    apply Run.forget (s' := cs14H bd T p 34 (i + 1)); (case htk => simp only [go_sem, cosTo_succ, Pt.d, Tpl.d, pL, brdB, bdD, cs14H, ot14H]); (case hob => simp only [go_sem, cosTo_succ, Pt.d, Tpl.d, pL, brdB, bdD, cs14H, ot14H]); (case htm => ((try (simp only [go_sem, cosTo_succ, Pt.d, Tpl.d, pL, brdB, bdD, cs14H, ot14H])); (try ((repeat' apply And.intro) <;> first | rfl | omega | skip))))
    (apply Run.ren 34 1007; (case ht => simp only [go_sem, Pt.d, Tpl.d, pL, brdB, bdD, cs14H, ot14H]; rfl); (case ht' => simp only [go_sem, Pt.d, Tpl.d, pL, brdB, bdD, cs14H, ot14H]); (case hs => simp only [go_sem, Pt.d, Tpl.d, pL, brdB, bdD, cs14H, ot14H]; rfl))
    exact wnxtF (ih ⟨i + 1, by omega⟩) (And.intro (@Pt.d.eq_1) (And.intro (@Tpl.d.eq_1) (And.intro (@pL.eq_1) (And.intro (@brdB.eq_1) (And.intro (@bdD.eq_1) (And.intro (@cs14H.eq_1) (@ot14H.eq_1)))))))
  · have h1 : ¬ (i : Int) < 26 := by omega
    have hi2 : cosTo p T i = costL p T := by rw [show i = 26 by omega]; rfl
    have hLl := costL_len p T
    simp only [go_sem, hi2, Pt.d, Tpl.d, pL, brdB, bdD, cs14H, ot14H]
    generalize costL p T = L at hLl
    refine wgoF (And.intro (@h1) (And.intro (@Pt.d.eq_1) (And.intro (@Tpl.d.eq_1) (And.intro (@pL.eq_1) (And.intro (@brdB.eq_1) (And.intro (@bdD.eq_1) (And.intro (@cs14H.eq_1) (@ot14H.eq_1)))))))) ?_
    (apply Run.full 9 1009 62 2; (case hi => simp only [go_sem, Pt.d, Tpl.d, pL, brdB, bdD, cs14H, ot14H]; rfl); (case ht => simp only [go_sem, Pt.d, Tpl.d, pL, brdB, bdD, cs14H, ot14H]); (case hmn => first | exact Or.inl (by decide) | exact Or.inr rfl); (case hs => simp only [go_sem, Pt.d, Tpl.d, pL, brdB, bdD, cs14H, ot14H]; rfl))
    refine wlpF (Run.loop (ι := { i : Nat // i ≤ 26 }) (H := fun i => ot14H bd T L 1009 i.1) (μ := fun i => 26 - i.1) (i0 := ⟨0, by omega⟩)) (And.intro (@outTo.eq_1) (And.intro (@Pt.d.eq_1) (And.intro (@Tpl.d.eq_1) (And.intro (@pL.eq_1) (And.intro (@brdB.eq_1) (And.intro (@bdD.eq_1) (And.intro (@cs14H.eq_1) (@ot14H.eq_1)))))))) ?_
    rintro ⟨i, hi⟩ ih
    by_cases hlt : i < 26
    · have h1 : (i : Int) < 26 := by omega
      have hg := i_get (show i < L.length by omega)
      have hol := outTo_len L i
      by_cases c1 : 0 ≤ L.getD i 0
      · have hb := better32 L i (by omega) (by omega)
        by_cases c2 : rankF L i < 8
        · have c3 : (rankF L i : Int) < 8 := by omega
          have hgd : goodB L i = true := by unfold goodB; rw [decide_eq_true c1, decide_eq_true c2]; rfl
          simp only [go_sem, Pt.d, Tpl.d, pL, brdB, bdD, cs14H, ot14H]
          refine wgoF (And.intro (@h1) (And.intro (@hg) (And.intro (@c1) (And.intro (@Pt.d.eq_1) (And.intro (@Tpl.d.eq_1) (And.intro (@pL.eq_1) (And.intro (@brdB.eq_1) (And.intro (@bdD.eq_1) (And.intro (@cs14H.eq_1) (@ot14H.eq_1)))))))))) ?_
          refine wcallF (hb) (And.intro (@Pt.d.eq_1) (And.intro (@Tpl.d.eq_1) (And.intro (@pL.eq_1) (And.intro (@brdB.eq_1) (And.intro (@bdD.eq_1) (And.intro (@cs14H.eq_1) (@ot14H.eq_1))))))) ?_
          refine wgoF (And.intro (@c1) (And.intro (@c3) (And.intro (@hg) (And.intro (@Pt.d.eq_1) (And.intro (@Tpl.d.eq_1) (And.intro (@pL.eq_1) (And.intro (@brdB.eq_1) (And.intro (@bdD.eq_1) (And.intro (@cs14H.eq_1) (@ot14H.eq_1)))))))))) ?_
          apply Run.forget (s' := ot14H bd T L 61 (i + 1)); (case htk => simp only [go_sem, outTo_succ L i hgd, Pt.d, Tpl.d, pL, brdB, bdD, cs14H, ot14H]); (case hob => simp only [go_sem, outTo_succ L i hgd, Pt.d, Tpl.d, pL, brdB, bdD, cs14H, ot14H]); (case htm => ((try (simp only [go_sem, outTo_succ L i hgd, Pt.d, Tpl.d, pL, brdB, bdD, cs14H, ot14H])); (try ((repeat' apply And.intro) <;> first | rfl | omega | skip))))
          (apply Run.ren 61 1009; (case ht => simp only [go_sem, Pt.d, Tpl.d, pL, brdB, bdD, cs14H, ot14H]; rfl); (case ht' => simp only [go_sem, Pt.d, Tpl.d, pL, brdB, bdD, cs14H, ot14H]); (case hs => simp only [go_sem, Pt.d, Tpl.d, pL, brdB, bdD, cs14H, ot14H]; rfl))
          exact wnxtF (ih ⟨i + 1, by omega⟩) (And.intro (@Pt.d.eq_1) (And.intro (@Tpl.d.eq_1) (And.intro (@pL.eq_1) (And.intro (@brdB.eq_1) (And.intro (@bdD.eq_1) (And.intro (@cs14H.eq_1) (@ot14H.eq_1)))))))
        · have c3 : ¬ (rankF L i : Int) < 8 := by omega
          have hgd : goodB L i = false := by unfold goodB; rw [decide_eq_true c1, decide_eq_false c2]; rfl
          simp only [go_sem, Pt.d, Tpl.d, pL, brdB, bdD, cs14H, ot14H]
          refine wgoF (And.intro (@h1) (And.intro (@hg) (And.intro (@c1) (And.intro (@Pt.d.eq_1) (And.intro (@Tpl.d.eq_1) (And.intro (@pL.eq_1) (And.intro (@brdB.eq_1) (And.intro (@bdD.eq_1) (And.intro (@cs14H.eq_1) (@ot14H.eq_1)))))))))) ?_
          refine wcallF (hb) (And.intro (@Pt.d.eq_1) (And.intro (@Tpl.d.eq_1) (And.intro (@pL.eq_1) (And.intro (@brdB.eq_1) (And.intro (@bdD.eq_1) (And.intro (@cs14H.eq_1) (@ot14H.eq_1))))))) ?_
          refine wgoF (And.intro (@c1) (And.intro (@c3) (And.intro (@hg) (And.intro (@Pt.d.eq_1) (And.intro (@Tpl.d.eq_1) (And.intro (@pL.eq_1) (And.intro (@brdB.eq_1) (And.intro (@bdD.eq_1) (And.intro (@cs14H.eq_1) (@ot14H.eq_1)))))))))) ?_
          exact wnxtF (ih ⟨i + 1, by omega⟩) (And.intro (outTo_skip L i hgd) (And.intro (@Pt.d.eq_1) (And.intro (@Tpl.d.eq_1) (And.intro (@pL.eq_1) (And.intro (@brdB.eq_1) (And.intro (@bdD.eq_1) (And.intro (@cs14H.eq_1) (@ot14H.eq_1))))))))
      · have hgd : goodB L i = false := by unfold goodB; rw [decide_eq_false c1]; rfl
        simp only [go_sem, Pt.d, Tpl.d, pL, brdB, bdD, cs14H, ot14H]
        refine wgoF (And.intro (@h1) (And.intro (@hg) (And.intro (@c1) (And.intro (@Pt.d.eq_1) (And.intro (@Tpl.d.eq_1) (And.intro (@pL.eq_1) (And.intro (@brdB.eq_1) (And.intro (@bdD.eq_1) (And.intro (@cs14H.eq_1) (@ot14H.eq_1)))))))))) ?_
        exact wnxtF (ih ⟨i + 1, by omega⟩) (And.intro (outTo_skip L i hgd) (And.intro (@Pt.d.eq_1) (And.intro (@Tpl.d.eq_1) (And.intro (@pL.eq_1) (And.intro (@brdB.eq_1) (And.intro (@bdD.eq_1) (And.intro (@cs14H.eq_1) (@ot14H.eq_1))))))))
    · have h1 : ¬ (i : Int) < 26 := by omega
      have hi3 : outTo L i = refM L := by rw [show i = 26 by omega]; rfl
      simp only [go_sem, hi3, Pt.d, Tpl.d, pL, brdB, bdD, cs14H, ot14H]
      refine wgoF (And.intro (@h1) (And.intro (@Pt.d.eq_1) (And.intro (@Tpl.d.eq_1) (And.intro (@pL.eq_1) (And.intro (@brdB.eq_1) (And.intro (@bdD.eq_1) (And.intro (@cs14H.eq_1) (@ot14H.eq_1)))))))) ?_
      exact wretF (And.intro (@Pt.d.eq_1) (And.intro (@Tpl.d.eq_1) (And.intro (@pL.eq_1) (And.intro (@brdB.eq_1) (And.intro (@bdD.eq_1) (And.intro (@cs14H.eq_1) (@ot14H.eq_1)))))))
theorem ref14_bad (bd : Bd) (T : List Tpl) (p : List Pt) (hl : p.length ≤ 1000) (hbad : validB p = false ∨ T = []) : PCall Tryz.prog 33 [bdD bd T, .sl 2 (p.map Pt.d)] (.tup [.sl 2 [], .int .i64 220]) := by
  have hv := valid18 p (by omega)
  cases hb : validB p with
  | false =>
    rw [hb] at hv
    refine enterP tabOk Tryz.func33 63 [0, 1, 2, 4, 5, 6, 7, 8, 9, 10, 20, 23, 37, 50] [.tmp 4, .tmp 5] rfl (r := [_, _]) rfl (h := ?_); intro E hK; simp only [go_sem, Pt.d, Tpl.d, pL, brdB, bdD, cs14H, ot14H]
    refine wgoF (And.intro (@Pt.d.eq_1) (And.intro (@Tpl.d.eq_1) (And.intro (@pL.eq_1) (And.intro (@brdB.eq_1) (And.intro (@bdD.eq_1) (And.intro (@cs14H.eq_1) (@ot14H.eq_1))))))) ?_
    refine wcallF (hv) (And.intro (@Pt.d.eq_1) (And.intro (@Tpl.d.eq_1) (And.intro (@pL.eq_1) (And.intro (@brdB.eq_1) (And.intro (@bdD.eq_1) (And.intro (@cs14H.eq_1) (@ot14H.eq_1))))))) ?_
    refine wgoF (And.intro (@Pt.d.eq_1) (And.intro (@Tpl.d.eq_1) (And.intro (@pL.eq_1) (And.intro (@brdB.eq_1) (And.intro (@bdD.eq_1) (And.intro (@cs14H.eq_1) (@ot14H.eq_1))))))) ?_
    exact wretF (And.intro (@Pt.d.eq_1) (And.intro (@Tpl.d.eq_1) (And.intro (@pL.eq_1) (And.intro (@brdB.eq_1) (And.intro (@bdD.eq_1) (And.intro (@cs14H.eq_1) (@ot14H.eq_1)))))))
  | true =>
    have hT : T = [] := by
      rcases hbad with h | h
      · rw [hb] at h; cases h
      · exact h
    subst hT
    rw [hb] at hv
    have h0 : decide ((([] : List D).length : Int) = 0) = true := by simp
    have z1 : ((0 : Nat) : Int) = 0 := rfl
    refine enterP tabOk Tryz.func33 63 [0, 1, 2, 4, 5, 6, 7, 8, 9, 10, 20, 23, 37, 50] [.tmp 4, .tmp 5] rfl (r := [_, _]) rfl (h := ?_); intro E hK; simp only [go_sem, Pt.d, Tpl.d, pL, brdB, bdD, cs14H, ot14H]
    refine wgoF (And.intro (@Pt.d.eq_1) (And.intro (@Tpl.d.eq_1) (And.intro (@pL.eq_1) (And.intro (@brdB.eq_1) (And.intro (@bdD.eq_1) (And.intro (@cs14H.eq_1) (@ot14H.eq_1))))))) ?_
    refine wcallF (hv) (And.intro (@Pt.d.eq_1) (And.intro (@Tpl.d.eq_1) (And.intro (@pL.eq_1) (And.intro (@brdB.eq_1) (And.intro (@bdD.eq_1) (And.intro (@cs14H.eq_1) (@ot14H.eq_1))))))) ?_
    refine wgoF (And.intro (@h0) (And.intro (@z1) (And.intro (@Pt.d.eq_1) (And.intro (@Tpl.d.eq_1) (And.intro (@pL.eq_1) (And.intro (@brdB.eq_1) (And.intro (@bdD.eq_1) (And.intro (@cs14H.eq_1) (@ot14H.eq_1))))))))) ?_
    exact wretF (And.intro (@Pt.d.eq_1) (And.intro (@Tpl.d.eq_1) (And.intro (@pL.eq_1) (And.intro (@brdB.eq_1) (And.intro (@bdD.eq_1) (And.intro (@cs14H.eq_1) (@ot14H.eq_1)))))))
end Go.Proofs.YtojgjdcciojpeaaGreat
set_option linter.unusedSimpArgs false
set_option linter.unusedVariables false
namespace Go.Proofs.YtojgjdcciojpeaaGreat
open Go Go.PS
set_option maxRecDepth 100000
set_option maxHeartbeats 4000000
theorem wrap_ok {r : List Ch × Int} (h : r.2 = 0) : wrapS r = ([r.1], 0) := if_pos h
theorem wrap_no {r : List Ch × Int} (h : ¬ r.2 = 0) : wrapS r = ([], r.2) := if_neg h
theorem slot20 (b : Brd) (tz : Nat) (tp : List D) (e : Ev) (hl : e.lok) (hc : ckOk b.cs) (t s : List Ch × Int)
    (hT : validE e = true → e.kind = 3 → PCall Tryz.prog 31 [b.d, .sl tz tp, (e.p.getD 0 default).d] (.tup [slD t.1, .int .i64 t.2]))
    (hS : validE e = true → e.kind = 4 → PCall Tryz.prog 33 [b.d, .sl 2 (e.p.map Pt.d)] (.tup [slD s.1, .int .i64 s.2])) :
    PCall Tryz.prog 20 [b.d, .sl tz tp, e.d] (rD (slotE b.cs t s e)) := by
  have hv := valid64 e hl
  cases hve : validE e with
  | false =>
    rw [hve] at hv
    have hr : slotE b.cs t s e = ([], 10) := by rw [slotE, if_pos hve]
    refine enterP tabOk Tryz.func20 80 [0, 1, 2, 3, 5, 6, 7, 8, 9, 10, 13, 16, 17, 22, 27, 33, 44, 54, 66, 76] [.tmp 6, .tmp 7] rfl (r := [_, _]) rfl (h := ?_); intro E hK; simp only [go_sem]
    refine wgoF (And.intro (@Brd.d.eq_1) (@Ev.d.eq_1)) ?_
    refine wcallF (hv) (@Ev.d.eq_1) ?_
    refine wgo ?_
    exact wretF (And.intro (@rD.eq_1) (And.intro (@hr) (@slsD.eq_1)))
  | true =>
    rw [hve] at hv
    have hkk := valid_kind hve
    have hne : ¬ validE e = false := by rw [hve]; simp
    have q1 := valid_keys hve
    have q5 := valid_text hve
    have q3 := valid_one hve
    have hT := hT hve
    have hS := hS hve
    obtain ⟨k, keys, p, text, n, l⟩ := e
    obtain ⟨hl1, hl2, hl3⟩ := hl
    dsimp only at hkk q1 q5 q3 hT hS hl1 hl2 hl3
    by_cases h1 : k = 1
    · subst h1
      have hr : slotE b.cs t s ⟨1, keys, p, text, n, l⟩ = (typedF keys, 0) := by rw [slotE, if_neg hne, if_pos rfl]
      have ht := typed59 keys (by have := q1 rfl; omega)
      refine enterP tabOk Tryz.func20 80 [0, 1, 2, 3, 5, 6, 7, 8, 9, 10, 13, 16, 17, 22, 27, 33, 44, 54, 66, 76] [.tmp 6, .tmp 7] rfl (r := [_, _]) rfl (h := ?_); intro E hK; simp only [go_sem]
      refine wgoF (And.intro (@Brd.d.eq_1) (@Ev.d.eq_1)) ?_
      refine wcallF (hv) (@Ev.d.eq_1) ?_
      refine wgo ?_
      refine wcall (ht) ?_
      refine wgo ?_
      exact wretF (And.intro (@rD.eq_1) (@hr))
    by_cases h2 : k = 2
    · subst h2
      have hr : slotE b.cs t s ⟨2, keys, p, text, n, l⟩ = chordR b.cs keys := by rw [slotE, if_neg hne, if_neg (by dsimp only; omega), if_pos rfl]
      obtain ⟨za, A, zt, T, cs⟩ := b
      dsimp only at hc hr
      have hcl := hc.1
      refine enterP tabOk Tryz.func20 80 [0, 1, 2, 3, 5, 6, 7, 8, 9, 10, 13, 16, 17, 22, 27, 33, 44, 54, 66, 76] [.tmp 6, .tmp 7] rfl (r := [_, _]) rfl (h := ?_); intro E hK; simp only [go_sem]
      refine wgoF (And.intro (@Brd.d.eq_1) (@Ev.d.eq_1)) ?_
      refine wcallF (hv) (@Ev.d.eq_1) ?_
      refine wgo ?_
      refine wlp (Run.loopC (ι := { i : Nat // i ≤ cs.length ∧ chordR (cs.drop i) keys = chordR cs keys }) (U := fun i => [(10, .d (.int .i64 i.1))]) (O := fun i => []) (K := fun _ => []) (μ := fun i => cs.length - i.1) (i0 := ⟨0, by omega, rfl⟩)) ?_
      rintro ⟨i, hi, hp⟩ ih
      by_cases hlt : i < cs.length
      · have h1 : (i : Int) < cs.length := by omega
        have hget := ck_get hlt
        have hb := ck_ok hc hlt
        rw [chord_drop hlt] at hp
        by_cases q : (cs.getD i default).keys = keys
        · rw [if_pos q] at hp
          have hp2 := hp.symm
          simp only [go_sem]
          refine wgoF (And.intro (@h1) (And.intro (@hget) (@q))) ?_
          exact wretF (And.intro (@rD.eq_1) (And.intro (@hr) (And.intro (@hp2) (And.intro (@slsD.eq_1) (And.intro (@slD.eq_1) (@Ch.d.eq_1))))))
        · rw [if_neg q] at hp
          have q2 : decide ((cs.getD i default).keys = keys) = false := decide_eq_false q
          simp only [go_sem]
          refine wgoF (And.intro (@h1) (And.intro (@hget) (@q2))) ?_
          exact wnxt (ih ⟨i + 1, by omega, hp⟩)
      · have h1 : ¬ (i : Int) < cs.length := by omega
        have hp2 : chordR cs keys = ([], 10) := by rw [← hp, List.drop_eq_nil_of_le (by omega)]; rfl
        simp only [go_sem]
        refine wgoF (@h1) ?_
        exact wretF (And.intro (@rD.eq_1) (And.intro (@hr) (And.intro (@hp2) (@slsD.eq_1))))
    by_cases h3 : k = 3
    · subst h3
      have hr : slotE b.cs t s ⟨3, keys, p, text, n, l⟩ = wrapS t := by rw [slotE, if_neg hne, if_neg (by dsimp only; omega), if_neg (by dsimp only; omega), if_pos rfl]
      have hpl := (q3 rfl).1
      have g := pt0 (p := p) (by omega)
      have hpl2 : (0 : Int) < p.length := by omega
      have hT := hT rfl
      obtain ⟨t1, t2⟩ := t
      by_cases hx : t2 = 0
      · subst hx
        rw [wrap_ok rfl] at hr
        refine enterP tabOk Tryz.func20 80 [0, 1, 2, 3, 5, 6, 7, 8, 9, 10, 13, 16, 17, 22, 27, 33, 44, 54, 66, 76] [.tmp 6, .tmp 7] rfl (r := [_, _]) rfl (h := ?_); intro E hK; simp only [go_sem]
        refine wgoF (And.intro (@Brd.d.eq_1) (@Ev.d.eq_1)) ?_
        refine wcallF (hv) (@Ev.d.eq_1) ?_
        refine wgoF (And.intro (@g) (@hpl2)) ?_
        refine wcallF (hT) (And.intro (@Brd.d.eq_1) (@Pt.d.eq_1)) ?_
        refine wgoF (@slD.eq_1) ?_
        exact wretF (And.intro (@rD.eq_1) (And.intro (@hr) (And.intro (@slsD.eq_1) (@slD.eq_1))))
      · rw [wrap_no hx] at hr
        refine enterP tabOk Tryz.func20 80 [0, 1, 2, 3, 5, 6, 7, 8, 9, 10, 13, 16, 17, 22, 27, 33, 44, 54, 66, 76] [.tmp 6, .tmp 7] rfl (r := [_, _]) rfl (h := ?_); intro E hK; simp only [go_sem]
        refine wgoF (And.intro (@Brd.d.eq_1) (@Ev.d.eq_1)) ?_
        refine wcallF (hv) (@Ev.d.eq_1) ?_
        refine wgoF (And.intro (@g) (@hpl2)) ?_
        refine wcallF (hT) (And.intro (@Brd.d.eq_1) (@Pt.d.eq_1)) ?_
        refine wgoF (@hx) ?_
        exact wretF (And.intro (@rD.eq_1) (And.intro (@hr) (@slsD.eq_1)))
    by_cases h4 : k = 4
    · subst h4
      have hr : slotE b.cs t s ⟨4, keys, p, text, n, l⟩ = wrapS s := by rw [slotE, if_neg hne, if_neg (by dsimp only; omega), if_neg (by dsimp only; omega), if_neg (by dsimp only; omega), if_pos rfl]
      have hS := hS rfl
      obtain ⟨s1, s2⟩ := s
      by_cases hx : s2 = 0
      · subst hx
        rw [wrap_ok rfl] at hr
        refine enterP tabOk Tryz.func20 80 [0, 1, 2, 3, 5, 6, 7, 8, 9, 10, 13, 16, 17, 22, 27, 33, 44, 54, 66, 76] [.tmp 6, .tmp 7] rfl (r := [_, _]) rfl (h := ?_); intro E hK; simp only [go_sem]
        refine wgoF (And.intro (@Brd.d.eq_1) (@Ev.d.eq_1)) ?_
        refine wcallF (hv) (@Ev.d.eq_1) ?_
        refine wgo ?_
        refine wcallF (hS) (@Brd.d.eq_1) ?_
        refine wgoF (@slD.eq_1) ?_
        exact wretF (And.intro (@rD.eq_1) (And.intro (@hr) (And.intro (@slsD.eq_1) (@slD.eq_1))))
      · rw [wrap_no hx] at hr
        refine enterP tabOk Tryz.func20 80 [0, 1, 2, 3, 5, 6, 7, 8, 9, 10, 13, 16, 17, 22, 27, 33, 44, 54, 66, 76] [.tmp 6, .tmp 7] rfl (r := [_, _]) rfl (h := ?_); intro E hK; simp only [go_sem]
        refine wgoF (And.intro (@Brd.d.eq_1) (@Ev.d.eq_1)) ?_
        refine wcallF (hv) (@Ev.d.eq_1) ?_
        refine wgo ?_
        refine wcallF (hS) (@Brd.d.eq_1) ?_
        refine wgoF (@hx) ?_
        exact wretF (And.intro (@rD.eq_1) (And.intro (@hr) (@slsD.eq_1)))
    by_cases h5 : k = 5
    · subst h5
      have hr : slotE b.cs t s ⟨5, keys, p, text, n, l⟩ = (typedF text, 0) := by rw [slotE, if_neg hne, if_neg (by dsimp only; omega), if_neg (by dsimp only; omega), if_neg (by dsimp only; omega), if_neg (by dsimp only; omega), if_pos rfl]
      have ht := typed59 text (by have := (q5 rfl).2.1; omega)
      refine enterP tabOk Tryz.func20 80 [0, 1, 2, 3, 5, 6, 7, 8, 9, 10, 13, 16, 17, 22, 27, 33, 44, 54, 66, 76] [.tmp 6, .tmp 7] rfl (r := [_, _]) rfl (h := ?_); intro E hK; simp only [go_sem]
      refine wgoF (And.intro (@Brd.d.eq_1) (@Ev.d.eq_1)) ?_
      refine wcallF (hv) (@Ev.d.eq_1) ?_
      refine wgo ?_
      refine wcall (ht) ?_
      refine wgo ?_
      exact wretF (And.intro (@rD.eq_1) (@hr))
    · have hr : slotE b.cs t s ⟨k, keys, p, text, n, l⟩ = ([], 10) := by rw [slotE, if_neg hne, if_neg h1, if_neg h2, if_neg h3, if_neg h4, if_neg h5]
      refine enterP tabOk Tryz.func20 80 [0, 1, 2, 3, 5, 6, 7, 8, 9, 10, 13, 16, 17, 22, 27, 33, 44, 54, 66, 76] [.tmp 6, .tmp 7] rfl (r := [_, _]) rfl (h := ?_); intro E hK; simp only [go_sem]
      refine wgoF (And.intro (@Brd.d.eq_1) (@Ev.d.eq_1)) ?_
      refine wcallF (hv) (@Ev.d.eq_1) ?_
      refine wgoF (And.intro (@h1) (And.intro (@h2) (And.intro (@h3) (And.intro (@h4) (@h5))))) ?_
      exact wretF (And.intro (@rD.eq_1) (And.intro (@hr) (@slsD.eq_1)))
end Go.Proofs.YtojgjdcciojpeaaGreat
set_option linter.unusedSimpArgs false
set_option linter.unusedVariables false
namespace Go.Proofs.YtojgjdcciojpeaaGreat
open Go Go.PS
set_option maxRecDepth 100000
set_option maxHeartbeats 4000000
def evF (x : Raw) : Ev :=
  if 1 + x.kind % 12 = 3 then ⟨3, [], [⟨((ptsF x).getD 0 default).x % 160, ((ptsF x).getD 0 default).y % 90⟩], [], 0, 0⟩
  else if 1 + x.kind % 12 = 2 ∧ 0 < x.N % 3 then ⟨2, if x.M % 2 = 0 then [97, 98] else [97, 98, 99], [], [], 0, 0⟩
  else madeE x 3
theorem pts_in {x : Raw} (hx : x.ok) : (∀ p ∈ ptsF x, 0 ≤ p.x ∧ p.x ≤ 1000 ∧ 0 ≤ p.y ∧ p.y ≤ 1000) ∧ 2 ≤ (ptsF x).length ∧ (ptsF x).length ≤ 6 := by
  obtain ⟨_, _, hP, ⟨n1, n2⟩, _⟩ := hx
  have hb := bas_in hP
  have hl := bas_len x.P
  unfold ptsF
  generalize basF x.P = q at hb hl
  match q, hb, hl with
  | [], _, _ => simp [padF]; omega
  | [a], hb, _ =>
    have := hb a (by simp)
    simp [padF]; omega
  | a :: b :: r, hb, hl =>
    show (∀ p ∈ a :: b :: r, _) ∧ 2 ≤ (a :: b :: r).length ∧ (a :: b :: r).length ≤ 6
    exact ⟨hb, by simp, hl⟩
theorem made_kind (x : Raw) (k : Int) : (madeE x k).kind = 1 + x.kind % 12 := by
  unfold madeE madeK
  generalize 1 + x.kind % 12 = kd
  split
  · rename_i h; exact h.symm
  split
  · rename_i h; exact h.symm
  split
  · rename_i h; exact h.symm
  split
  · rename_i h; exact h.symm
  split
  · rename_i h; exact h.symm
  split
  · rename_i h; exact h.symm
  split
  · rename_i h; exact h.symm
  · rfl
theorem event18 (x : Raw) (hx : x.ok) : PCall Tryz.prog 18 [x.d] (evF x).d := by
  have hm := made61 x hx 3 (by omega)
  have hpi := pts_in hx
  have hmk := made_kind x 3
  obtain ⟨⟨k1, k2⟩, hL, hP, ⟨n1, n2⟩, ⟨m1, m2⟩⟩ := hx
  by_cases h3 : 1 + x.kind % 12 = 3
  · have he : madeE x 3 = ⟨3, [], [(ptsF x).getD 0 default], [], 0, 0⟩ := by
      unfold madeE; rw [h3]
      show (⟨3, [], (ptsF x).take 1, [], 0, 0⟩ : Ev) = _
      rw [take1_app (by omega)]
    have hr : evF x = ⟨3, [], [⟨((ptsF x).getD 0 default).x % 160, ((ptsF x).getD 0 default).y % 90⟩], [], 0, 0⟩ := if_pos h3
    have hq : 0 ≤ ((ptsF x).getD 0 default).x ∧ ((ptsF x).getD 0 default).x ≤ 1000 ∧ 0 ≤ ((ptsF x).getD 0 default).y ∧ ((ptsF x).getD 0 default).y ≤ 1000 := by
      have e : (ptsF x).getD 0 default = (ptsF x)[0]'(by omega) := by simp [show 0 < (ptsF x).length by omega]
      rw [e]; exact hpi.1 _ (List.getElem_mem _)
    rw [he] at hm
    generalize (ptsF x).getD 0 default = q at hm hr hq
    obtain ⟨q1, q2, q3, q4⟩ := hq
    refine enterP tabOk Tryz.func18 41 [0, 1, 2, 3, 8, 32] [.cell 2 26] rfl (r := [_]) rfl (h := ?_); intro E hK; simp only [go_sem]
    refine wgoF (@Raw.d.eq_1) ?_
    refine wcallF (hm) (@Raw.d.eq_1) ?_
    refine wgoF (And.intro (@Ev.d.eq_1) (@Pt.d.eq_1)) ?_
    exact wretF (And.intro (@hr) (And.intro (@Ev.d.eq_1) (@Pt.d.eq_1)))
  · by_cases h2 : 1 + x.kind % 12 = 2
    · have he : madeE x 3 = ⟨2, chordF x.N x.M, [], [], 0, 0⟩ := by
        unfold madeE; rw [h2]; rfl
      by_cases hn : 0 < x.N % 3
      · have hr : evF x = ⟨2, if x.M % 2 = 0 then [97, 98] else [97, 98, 99], [], [], 0, 0⟩ := by unfold evF; rw [if_neg h3, if_pos ⟨h2, hn⟩]
        rw [he] at hm
        rcases (show x.M % 2 = 0 ∨ x.M % 2 = 1 by omega) with hz | hz
        · have hr2 : evF x = ⟨2, [97, 98], [], [], 0, 0⟩ := by rw [hr, if_pos hz]
          have hz2 : (x.M % 2).toNat = 0 := by omega
          have hz3 : x.M % 2 < 2 := by omega
          refine enterP tabOk Tryz.func18 41 [0, 1, 2, 3, 8, 32] [.cell 2 26] rfl (r := [_]) rfl (h := ?_); intro E hK; simp only [go_sem]
          refine wgoF (@Raw.d.eq_1) ?_
          refine wcallF (hm) (@Raw.d.eq_1) ?_
          refine wgoF (And.intro (@Ev.d.eq_1) (And.intro (@hn) (And.intro (@hz2) (@hz3)))) ?_
          exact wretF (And.intro (@hr2) (@Ev.d.eq_1))
        · have hr2 : evF x = ⟨2, [97, 98, 99], [], [], 0, 0⟩ := by rw [hr, if_neg (by omega)]
          have hz2 : (x.M % 2).toNat = 1 := by omega
          have hz3 : x.M % 2 < 2 := by omega
          refine enterP tabOk Tryz.func18 41 [0, 1, 2, 3, 8, 32] [.cell 2 26] rfl (r := [_]) rfl (h := ?_); intro E hK; simp only [go_sem]
          refine wgoF (@Raw.d.eq_1) ?_
          refine wcallF (hm) (@Raw.d.eq_1) ?_
          refine wgoF (And.intro (@Ev.d.eq_1) (And.intro (@hn) (And.intro (@hz2) (@hz3)))) ?_
          exact wretF (And.intro (@hr2) (@Ev.d.eq_1))
      · have hr : evF x = madeE x 3 := by unfold evF; rw [if_neg h3, if_neg (fun h => hn h.2)]
        rw [he] at hm hr
        refine enterP tabOk Tryz.func18 41 [0, 1, 2, 3, 8, 32] [.cell 2 26] rfl (r := [_]) rfl (h := ?_); intro E hK; simp only [go_sem]
        refine wgoF (@Raw.d.eq_1) ?_
        refine wcallF (hm) (@Raw.d.eq_1) ?_
        refine wgoF (And.intro (@Ev.d.eq_1) (@hn)) ?_
        exact wretF (And.intro (@hr) (@Ev.d.eq_1))
    · have hr : evF x = madeE x 3 := by unfold evF; rw [if_neg h3, if_neg (fun h => h2 h.1)]
      have g2 : ¬ (madeE x 3).kind = 2 := by rw [hmk]; exact h2
      have g3 : ¬ (madeE x 3).kind = 3 := by rw [hmk]; exact h3
      generalize madeE x 3 = e at hm hr g2 g3
      refine enterP tabOk Tryz.func18 41 [0, 1, 2, 3, 8, 32] [.cell 2 26] rfl (r := [_]) rfl (h := ?_); intro E hK; simp only [go_sem]
      refine wgoF (@Raw.d.eq_1) ?_
      refine wcallF (hm) (@Raw.d.eq_1) ?_
      refine wgoF (And.intro (@Ev.d.eq_1) (And.intro (@g2) (@g3))) ?_
      exact wretF (And.intro (@hr) (@Ev.d.eq_1))
def t3D (e : Int × Int × Int) : D := .agg [.int .i8 e.1, .int .i8 e.2.1, .int .i8 e.2.2]
def t3s (l : List (Int × Int × Int)) : Prop := (∀ e ∈ l, (-128 ≤ e.1 ∧ e.1 ≤ 127) ∧ (-128 ≤ e.2.1 ∧ e.2.1 ≤ 127) ∧ (-128 ≤ e.2.2 ∧ e.2.2 ≤ 127)) ∧ l.length ≤ 9223372036854775807
def tapAt (l : List (Int × Int × Int)) (i : Nat) : Tap := ⟨97 + i, (l.getD i default).1 * 3, (l.getD i default).2.1 * 3, 1 + (l.getD i default).2.2 % 256 % 63⟩
def tapTo (l : List (Int × Int × Int)) (i : Nat) : List Tap := (List.range i).map (tapAt l)
def tapsF (l : List (Int × Int × Int)) : List Tap := tapTo l (min l.length 6)
theorem tapTo_succ (l : List (Int × Int × Int)) (i : Nat) : tapTo l (i + 1) = tapTo l i ++ [tapAt l i] := by
  unfold tapTo; rw [List.range_succ, List.map_append]; rfl
theorem tapTo_len (l : List (Int × Int × Int)) (i : Nat) : (tapTo l i).length = i := by simp [tapTo]
theorem t3_get {l : List (Int × Int × Int)} {i : Nat} (h : i < l.length) : (List.map t3D l).getD i .nilp = .agg [.int .i8 (l.getD i default).1, .int .i8 (l.getD i default).2.1, .int .i8 (l.getD i default).2.2] := by simp [h, t3D]
theorem t3_at {l : List (Int × Int × Int)} (hl : t3s l) {i : Nat} (h : i < l.length) : (-128 ≤ (l.getD i default).1 ∧ (l.getD i default).1 ≤ 127) ∧ (-128 ≤ (l.getD i default).2.1 ∧ (l.getD i default).2.1 ≤ 127) ∧ (-128 ≤ (l.getD i default).2.2 ∧ (l.getD i default).2.2 ≤ 127) := by
  have e : l.getD i default = l[i] := by simp [h]
  rw [e]; exact hl.1 _ (List.getElem_mem h)
theorem taps17 (l : List (Int × Int × Int)) (hl : t3s l) : PCall Tryz.prog 17 [.sl 3 (l.map t3D)] (.sl 4 ((tapsF l).map Tap.d)) := by
  have hll := hl.2
  have z0 : tapTo l 0 = [] := rfl
  refine enterP tabOk Tryz.func17 47 [0, 2, 3, 4, 13] [.tmp 2] rfl (r := [_]) rfl (h := ?_); intro E hK; simp only [go_sem]
  refine wgo ?_
  (apply Run.full 3 1003 125 4; (case hi => simp only [go_sem]; rfl); (case ht => simp only [go_sem]); (case hmn => first | exact Or.inl (by decide) | exact Or.inr rfl); (case hs => simp only [go_sem]; rfl))
  refine wlpF (Run.loopC (ι := { i : Nat // i ≤ l.length ∧ i ≤ 6 }) (U := fun i => [(3, .own 4 ((tapTo l i.1).map Tap.d) (.tok 1003)), (4, .d (.int .i64 i.1))]) (O := fun i => []) (K := fun _ => [(1003, .live 125 4)]) (μ := fun i => l.length - i.1) (i0 := ⟨0, by omega, by omega⟩)) (@z0) ?_
  rintro ⟨i, hi, hi6⟩ ih
  have htl := tapTo_len l i
  by_cases hlt : i < l.length ∧ i < 6
  · obtain ⟨hlt, hl6⟩ := hlt
    have h1 : (i : Int) < l.length := by omega
    have h2 : (i : Int) < 6 := by omega
    have hget := t3_get hlt
    obtain ⟨⟨b1, b2⟩, ⟨b3, b4⟩, b5, b6⟩ := t3_at hl hlt
    have hst := tapTo_succ l i
    unfold tapAt at hst
    generalize l.getD i default = e at hget hst b1 b2 b3 b4 b5 b6
    simp only [go_sem]
    refine wgoF (And.intro (@h1) (And.intro (@h2) (@hget))) ?_
    (apply Run.retok 45 1003; (case hk => simp only [go_sem]; rfl); (case ht => simp only [go_sem]; rfl); (case ht' => simp only [go_sem]); (case hs => simp only [go_sem]; rfl))
    exact wnxtF (ih ⟨i + 1, by omega, by omega⟩) (And.intro (@hst) (@Tap.d.eq_1))
  · have c : (decide ((i : Int) < l.length) && decide ((i : Int) < 6)) = false := by
      rw [Bool.and_eq_false_iff]
      by_cases q : i < l.length
      · right; exact decide_eq_false (by omega)
      · left; exact decide_eq_false (by omega)
    have hf : tapTo l i = tapsF l := by unfold tapsF; rw [show i = min l.length 6 by omega]
    simp only [go_sem, hf]
    refine wgoF (@c) ?_
    exact wret
theorem find30 (s : List Ch) (k : Int) (hl : s.length ≤ 100000) : PCall Tryz.prog 30 [slD s, .int .u8 k] (.int .i64 ((findC s k).getD (-1))) := by
  refine enterP tabOk Tryz.func30 24 [0, 1, 4, 5, 9, 18] [.tmp 4] rfl (r := [_]) rfl (h := ?_); intro E hK; simp only [go_sem]
  refine wgoF (@slD.eq_1) ?_
  refine wlp (Run.loopC (ι := { i : Nat // i ≤ s.length ∧ findC (s.drop i) k = findC s k }) (U := fun i => [(5, .d (.int .i64 i.1))]) (O := fun i => []) (K := fun _ => []) (μ := fun i => s.length - i.1) (i0 := ⟨0, by omega, rfl⟩)) ?_
  rintro ⟨i, hi, hp⟩ ih
  by_cases hlt : i < s.length
  · have h1 : (i : Int) < s.length := by omega
    have hget := ch_get hlt
    rw [find_drop hlt] at hp
    by_cases q : (s.getD i default).k = k
    · rw [if_pos q] at hp
      have hp2 : (findC s k).getD (-1) = (s.getD i default).c := by rw [← hp]; rfl
      have q2 : decide ((s.getD i default).k = k) = true := decide_eq_true q
      simp only [go_sem]
      refine wgoF (And.intro (@h1) (And.intro (@hget) (@q2))) ?_
      exact wretF (@hp2)
    · rw [if_neg q] at hp
      have q2 : decide ((s.getD i default).k = k) = false := decide_eq_false q
      simp only [go_sem]
      refine wgoF (And.intro (@h1) (And.intro (@hget) (@q2))) ?_
      exact wnxt (ih ⟨i + 1, by omega, hp⟩)
  · have h1 : ¬ (i : Int) < s.length := by omega
    have hp2 : (findC s k).getD (-1) = -1 := by rw [← hp, List.drop_eq_nil_of_le (by omega)]; rfl
    simp only [go_sem]
    refine wgoF (@h1) ?_
    exact wretF (@hp2)
end Go.Proofs.YtojgjdcciojpeaaGreat

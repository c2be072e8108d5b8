/-
  A part of the walks of this seat: each theorem says what a function of the program gives. No condition beyond its own premises.
-/
import Derived.Test.YtojgjdcciojpeaaGreatRows
import Derived.Test.YtojgjdcciojpeaaGreatD20
set_option linter.unusedSimpArgs false
set_option linter.unusedVariables false
namespace Go.Proofs.YtojgjdcciojpeaaGreat
open Go Go.PS
set_option maxRecDepth 100000
set_option maxHeartbeats 4000000
theorem first_in {l : List (List Ch)} {i : Nat} (h : i < l.length) (h0 : 0 < (l.getD i []).length) : firstTo l (i + 1) = firstTo l i ++ [UInt8.ofNat ((l.getD i []).getD 0 default).k.toNat] := by
  have e : l.getD i [] = l[i] := by simp [h]
  rw [e] at h0 ⊢
  unfold firstTo
  rw [List.take_succ_eq_append_getElem h, List.filter_append, List.map_append, List.filter_cons, if_pos (by simpa using h0)]; rfl
theorem first_out {l : List (List Ch)} {i : Nat} (h : i < l.length) (h0 : ¬ 0 < (l.getD i []).length) : firstTo l (i + 1) = firstTo l i := by
  have e : l.getD i [] = l[i] := by simp [h]
  rw [e] at h0
  unfold firstTo
  rw [List.take_succ_eq_append_getElem h, List.filter_append, List.map_append, List.filter_cons, if_neg (by simpa using h0)]; simp
theorem first_len (l : List (List Ch)) (i : Nat) : (firstTo l i).length ≤ i := by
  unfold firstTo
  rw [List.length_map]
  exact Nat.le_trans (List.length_filter_le _ _) (List.length_take_le _ _)
theorem first72 (c : Cp) (hl : c.sl.length ≤ 1000) (hs : ∀ s ∈ c.sl, slotOk s) : PCall Tryz.prog 72 [c.d] (.str (firstTo c.sl c.sl.length)) := by
  obtain ⟨ev, l, cu, pn, ch⟩ := c
  dsimp only at hl hs
  have e1 := mlen l
  have z0 : firstTo l 0 = [] := rfl
  refine enterP tabOk Tryz.func72 32 [0, 1, 2, 3, 4, 9, 18] [.tmp 2] rfl (r := [_]) rfl (h := ?_); intro E hK; simp only [go_sem]
  refine wgoF (@Cp.d.eq_1) ?_
  refine wlpF (Run.loopC (ι := { i : Nat // i ≤ l.length }) (U := fun i => [(3, .d (.str (firstTo l i.1))), (4, .d (.int .i64 i.1))]) (O := fun i => []) (K := fun _ => []) (μ := fun i => l.length - i.1) (i0 := ⟨0, by omega⟩)) (@z0) ?_
  rintro ⟨i, hi⟩ ih
  have hfl := first_len l i
  by_cases hlt : i < l.length
  · have h1 : (i : Int) < l.length := by omega
    have hget := sl_get hlt
    have e : l.getD i [] = l[i] := by simp [hlt]
    have hm := hs _ (List.getElem_mem hlt)
    rw [← e] at hm
    have hst := first_in hlt (by have := hm.1; omega)
    generalize l.getD i [] = s at hget hm hst
    obtain ⟨m1, m2, m3, m4⟩ := hm
    have hkt : 0 < s.length := by omega
    have c1 : (0 : Int) < s.length := by omega
    have hgk := ch_get hkt
    have ek : s.getD 0 default = s[0] := by simp [hkt]
    have hc := m3 _ (List.getElem_mem hkt)
    rw [← ek] at hc
    generalize s.getD 0 default = c at hgk hc hst
    obtain ⟨n1, n2, n3, n4⟩ := hc
    have hx : UInt8.ofNat c.k.toNat = UInt8.ofNat c.k.toNat := rfl
    simp only [go_sem]
    refine wgoF (And.intro (@h1) (And.intro (@e1) (And.intro (@hget) (And.intro (@hgk) (@c1))))) ?_
    exact wnxtF (ih ⟨i + 1, by omega⟩) (@hst)
  · have h1 : ¬ (i : Int) < l.length := by omega
    obtain rfl : i = l.length := by omega
    simp only [go_sem]
    refine wgoF (And.intro (@h1) (@e1)) ?_
    exact wret
/-! The fixed examples. -/
def bdE : Brd := ⟨0, [], 0, [], []⟩
theorem bdE_ck : ckOk bdE.cs := ⟨by simp [bdE], by intro c hc; simp [bdE] at hc⟩
def FE (e : Ev) : List (List Ch) × Int := slotE bdE.cs ([], 210) ([], 0) e
def lfE : Ev := ⟨7, [], [], [], 0, 0⟩
def erE : Ev := ⟨6, [], [], [], 0, 0⟩
def abE : Ev := ⟨5, [], [], [97, 98], 0, 0⟩
def hoE : Ev := ⟨9, [], [], [], 0, 2⟩
def coE : Ev := ⟨11, [], [], [], 0, 0⟩
def xxE : Ev := ⟨99, [], [], [], 0, 0⟩
def okE (e : Ev) : Bool := (((decide (e.keys.length ≤ 100) && decide (e.p.length ≤ 100)) && decide (e.text.length ≤ 100)) && decide (e.kind ≠ 4)) && ((FE e).1.all (fun s => decide (s.length ≤ 100)) && decide ((FE e).2 = 0 → e.kind ≠ 5 → (FE e).1.length = 1))
theorem okE_get {e : Ev} (h : okE e = true) : e.lok ∧ e.kind ≠ 4 ∧ (∀ s ∈ (FE e).1, s.length ≤ 100) ∧ ((FE e).2 = 0 → e.kind ≠ 5 → (FE e).1.length = 1) := by
  unfold okE at h
  simp only [Bool.and_eq_true, decide_eq_true_eq, List.all_eq_true] at h
  obtain ⟨⟨⟨⟨h1, h2⟩, h3⟩, h4⟩, h5, h6⟩ := h
  exact ⟨⟨by omega, by omega, by omega⟩, h4, h5, h6⟩
theorem doE (c : Cp) (h : c.ok) (e : Ev) (he : okE e = true) : PCall Tryz.prog 38 [c.d, bdE.d, .sl 0 [], e.d] (rC (doR (FE e) c e)) := by
  obtain ⟨h1, h2, h3, h4⟩ := okE_get he
  exact do38 bdE 0 [] c h e h1 (FE e) (slotEx bdE rfl bdE_ck 0 [] e h1 h2) h4
theorem scrE (l : List Ev) (hl : l.all okE = true) (hn : l.length ≤ 100) : PCall Tryz.prog 41 [emC.d, bdE.d, .sl 6 (l.map Ev.d)] (rC (scrTo FE emC l l.length)) := by
  rw [List.all_eq_true] at hl
  exact script41 FE bdE emC em_good l (by omega) (fun e he => (okE_get (hl e he)).1) (fun e he => (okE_get (hl e he)).2.2.1) (fun c hc e he => doE c hc e (hl e he))
def cS1 : Cp := ⟨[kE 97, kE 99, kE 98], [[⟨97, 0⟩], [⟨99, 0⟩], [⟨98, 0⟩]], 2, [], 0⟩
def cS2 : Cp := ⟨[kE 97, kE 98, kE 99], [[⟨97, 0⟩], [⟨98, 0⟩], [⟨99, 0⟩]], 3, [⟨0, 2, -1⟩], 0⟩
theorem rS1 : scrTo FE emC [kE 97, kE 98, lfE, kE 99] 4 = (cS1, 4) := by decide +kernel
theorem rS2 : scrTo FE emC [abE, hoE, kE 99] 3 = (cS2, 3) := by decide +kernel
theorem rS3 : scrTo FE emC [abE, hoE, lfE, kE 99, coE, xxE] 6 = (cS1, 4) := by decide +kernel
theorem rD1 : doR (FE erE) emC erE = (emC, 310) := by decide +kernel
theorem rD2 : doR (FE hoE) emC hoE = (emC, 180) := by decide +kernel
theorem rD3 : doR (FE coE) emC coE = (emC, 10) := by decide +kernel
theorem cS1_full : cS1.full := by
  refine ⟨⟨⟨rfl, by decide, by decide, by decide, by decide⟩, ?_, ?_⟩, ?_, ?_, by decide, by decide⟩
  · intro x hx
    simp only [cS1, List.mem_cons, List.not_mem_nil, or_false] at hx
    rcases hx with rfl | rfl | rfl <;> exact kE_lok _
  · intro x hx
    simp only [cS1, List.mem_cons, List.not_mem_nil, or_false] at hx
    rcases hx with rfl | rfl | rfl <;> decide
  · intro x hx
    simp only [cS1, List.mem_cons, List.not_mem_nil, or_false] at hx
    rcases hx with rfl | rfl | rfl <;> (refine kE_valid ?_; decide)
  · intro x hx
    simp only [cS1, List.mem_cons, List.not_mem_nil, or_false] at hx
    rcases hx with rfl | rfl | rfl
    · exact byte_slotOk (ch := 97) (by decide)
    · exact byte_slotOk (ch := 99) (by decide)
    · exact byte_slotOk (ch := 98) (by decide)
theorem cS2_full : cS2.full := by
  refine ⟨⟨⟨rfl, by decide, by decide, by decide, by decide⟩, ?_, ?_⟩, ?_, ?_, by decide, by decide⟩
  · intro x hx
    simp only [cS2, List.mem_cons, List.not_mem_nil, or_false] at hx
    rcases hx with rfl | rfl | rfl <;> exact kE_lok _
  · intro x hx
    simp only [cS2, List.mem_cons, List.not_mem_nil, or_false] at hx
    rcases hx with rfl | rfl | rfl <;> decide
  · intro x hx
    simp only [cS2, List.mem_cons, List.not_mem_nil, or_false] at hx
    rcases hx with rfl | rfl | rfl <;> (refine kE_valid ?_; decide)
  · intro x hx
    simp only [cS2, List.mem_cons, List.not_mem_nil, or_false] at hx
    rcases hx with rfl | rfl | rfl
    · exact byte_slotOk (ch := 97) (by decide)
    · exact byte_slotOk (ch := 98) (by decide)
    · exact byte_slotOk (ch := 99) (by decide)
theorem bad47 : PCall Tryz.prog 47 [(⟨[], [], 1, [], 0⟩ : Cp).d] (.bool false) := by
  have s1 := lvalid79 [] (by simp) (by simp)
  refine enterP tabOk Tryz.func47 70 [0, 1, 2, 3, 5, 23, 25, 26, 27, 28, 43] [.tmp 2] rfl (r := [_]) rfl (h := ?_); intro E hK; simp only [go_sem]
  refine wgoF (@Cp.d.eq_1) ?_
  refine wcallF (s1) (@slsD.eq_1) ?_
  refine wgo ?_
  refine run_loop ?_
  refine wgo ?_
  exact wret
theorem sanity34 : PCall Tryz.prog 34 [] (.bool true) := by
  have k1 := key52 [97]
  have k2 := key52 [98]
  have k3 := key52 [99]
  have s1 := scrE [kE 97, kE 98, lfE, kE 99] (by decide +kernel) (by decide)
  have s2 := scrE [abE, hoE, kE 99] (by decide +kernel) (by decide)
  have s3 := scrE [abE, hoE, lfE, kE 99, coE, xxE] (by decide +kernel) (by decide)
  have d1 := doE emC em_good.1 erE (by decide +kernel)
  have d2 := doE emC em_good.1 hoE (by decide +kernel)
  have d3 := doE emC em_good.1 coE (by decide +kernel)
  rw [show [kE 97, kE 98, lfE, kE 99].length = 4 from rfl, rS1] at s1
  rw [show [abE, hoE, kE 99].length = 3 from rfl, rS2] at s2
  rw [show [abE, hoE, lfE, kE 99, coE, xxE].length = 6 from rfl, rS3] at s3
  rw [rD1] at d1
  rw [rD2] at d2
  rw [rD3] at d3
  have f1 := first72 cS1 (by decide) cS1_full.2.2.1
  have f2 := first72 cS2 (by decide) cS2_full.2.2.1
  have g1 : firstTo cS1.sl cS1.sl.length = [97, 99, 98] := by decide
  have g2 : firstTo cS2.sl cS2.sl.length = [97, 98, 99] := by decide
  rw [g1] at f1
  rw [g2] at f2
  have p1 := psame51 [⟨0, 2, -1⟩] (by simp)
  have cc1 := csame40 emC em_good.1 em_good.2.1 (fun s hs => by simp [emC] at hs)
  have v1 := valid47 cS2 cS2_full
  have v2 := bad47
  have n := new44
  have a1 : cS1.cu = 2 := rfl
  have a2 : cS1.pn = [] := rfl
  have b1 : cS2.cu = 3 := rfl
  have b2 : cS2.pn = [⟨0, 2, -1⟩] := rfl
  generalize cS1 = c1 at s1 s3 f1 a1 a2
  generalize cS2 = c2 at s2 f2 v1 b1 b2
  obtain ⟨ev1, sl1, cu1, pn1, ch1⟩ := c1
  obtain ⟨ev2, sl2, cu2, pn2, ch2⟩ := c2
  dsimp only at a1 a2 b1 b2
  subst a1 a2 b1 b2
  refine enterP tabOk Tryz.func34 152 [0, 1, 2, 3, 4, 5, 6, 7, 8, 9, 10, 12, 14, 16, 17] [.tmp 0] rfl (r := [_]) rfl (h := ?_); intro E hK; simp only [go_sem]
  refine wgo ?_
  refine wcall (n) ?_
  refine wgo ?_
  refine wcall (k1) ?_
  refine wgo ?_
  refine wcall (k2) ?_
  refine wgo ?_
  refine wcall (k3) ?_
  refine wgo ?_
  refine wcallF (s1) (And.intro (@Cp.d.eq_1) (And.intro (@emC.eq_1) (And.intro (@Brd.d.eq_1) (And.intro (@bdE.eq_1) (And.intro (@Ev.d.eq_1) (And.intro (@kE.eq_1) (@lfE.eq_1))))))) ?_
  refine wgoF (And.intro (@rC.eq_1) (And.intro (@Cp.d.eq_1) (@emC.eq_1))) ?_
  refine wcall (n) ?_
  refine wgo ?_
  refine wcall (k3) ?_
  refine wgo ?_
  refine wcallF (s2) (And.intro (@Cp.d.eq_1) (And.intro (@emC.eq_1) (And.intro (@Brd.d.eq_1) (And.intro (@bdE.eq_1) (And.intro (@Ev.d.eq_1) (And.intro (@kE.eq_1) (And.intro (@abE.eq_1) (@hoE.eq_1)))))))) ?_
  refine wgoF (And.intro (@rC.eq_1) (And.intro (@Cp.d.eq_1) (@emC.eq_1))) ?_
  refine wcall (n) ?_
  refine wgo ?_
  refine wcall (k3) ?_
  refine wgo ?_
  refine wcallF (s3) (And.intro (@Cp.d.eq_1) (And.intro (@emC.eq_1) (And.intro (@Brd.d.eq_1) (And.intro (@bdE.eq_1) (And.intro (@Ev.d.eq_1) (And.intro (@kE.eq_1) (And.intro (@abE.eq_1) (And.intro (@hoE.eq_1) (And.intro (@lfE.eq_1) (And.intro (@coE.eq_1) (@xxE.eq_1))))))))))) ?_
  refine wgoF (And.intro (@rC.eq_1) (And.intro (@Cp.d.eq_1) (@emC.eq_1))) ?_
  refine wcall (n) ?_
  refine wgo ?_
  refine wcallF (d1) (And.intro (@Cp.d.eq_1) (And.intro (@emC.eq_1) (And.intro (@Brd.d.eq_1) (And.intro (@bdE.eq_1) (And.intro (@Ev.d.eq_1) (@erE.eq_1)))))) ?_
  refine wgoF (And.intro (@rC.eq_1) (And.intro (@Cp.d.eq_1) (@emC.eq_1))) ?_
  refine wcall (n) ?_
  refine wgo ?_
  refine wcallF (d2) (And.intro (@Cp.d.eq_1) (And.intro (@emC.eq_1) (And.intro (@Brd.d.eq_1) (And.intro (@bdE.eq_1) (And.intro (@Ev.d.eq_1) (@hoE.eq_1)))))) ?_
  refine wgoF (And.intro (@rC.eq_1) (And.intro (@Cp.d.eq_1) (@emC.eq_1))) ?_
  refine wcall (n) ?_
  refine wgo ?_
  refine wcallF (d3) (And.intro (@Cp.d.eq_1) (And.intro (@emC.eq_1) (And.intro (@Brd.d.eq_1) (And.intro (@bdE.eq_1) (And.intro (@Ev.d.eq_1) (@coE.eq_1)))))) ?_
  refine wgoF (And.intro (@rC.eq_1) (And.intro (@Cp.d.eq_1) (@emC.eq_1))) ?_
  refine wcallF (f1) (@Cp.d.eq_1) ?_
  refine wgo ?_
  refine wcallF (f2) (@Cp.d.eq_1) ?_
  refine wgo ?_
  refine wcallF (f1) (@Cp.d.eq_1) ?_
  refine wgoF (And.intro (@Cp.d.eq_1) (@Pn.d.eq_1)) ?_
  refine wcallF (p1) (@Pn.d.eq_1) ?_
  refine wgo ?_
  refine wcall (n) ?_
  refine wgo ?_
  refine wcallF (cc1) (And.intro (@Cp.d.eq_1) (@emC.eq_1)) ?_
  refine wgo ?_
  refine wcallF (v1) (@Cp.d.eq_1) ?_
  refine wgo ?_
  refine wcallF (v2) (@Cp.d.eq_1) ?_
  refine wgo ?_
  exact wret
end Go.Proofs.YtojgjdcciojpeaaGreat
set_option linter.unusedSimpArgs false
set_option linter.unusedVariables false
namespace Go.Proofs.YtojgjdcciojpeaaGreat
open Go Go.PS
set_option maxRecDepth 100000
set_option maxHeartbeats 4000000
/-! Compositions on the boards of cases. -/
def csF (x : Cs) (e : Ev) : List (List Ch) × Int := slotX (madeA x.B) (tapsF x.T) e
def csF0 (x : Cs) (e : Ev) : List (List Ch) × Int := slotX (madeA x.B) [] e
theorem csF_ok {x : Cs} (hx : x.ok) (e : Ev) : slOk e (csF x e) := by
  obtain ⟨hA, hk⟩ := madeA_ok hx.1
  obtain ⟨h1, h2, h3, h4, h5⟩ := slotX_ok hA hk (tapsF x.T) e
  exact ⟨h1, fun h => (h5 h).2.2.2⟩
theorem csF0_ok {x : Cs} (hx : x.ok) (e : Ev) : slOk e (csF0 x e) := by
  obtain ⟨hA, hk⟩ := madeA_ok hx.1
  obtain ⟨h1, h2, h3, h4, h5⟩ := slotX_ok hA hk [] e
  exact ⟨h1, fun h => (h5 h).2.2.2⟩
theorem sl_100 {e : Ev} {r : List (List Ch) × Int} (h : slOk e r) : ∀ s ∈ r.1, s.length ≤ 100 := fun s hs => by have := (h.1 s hs).2.1; omega
theorem tp_nil : tpOk [] := ⟨by simp, by simp⟩
theorem doP {x : Cs} (hx : x.ok) {c : Cp} (h : c.ok) {e : Ev} (he : e.lok) : PCall Tryz.prog 38 [c.d, (madeB x.B).d, .sl 4 ((tapsF x.T).map Tap.d), e.d] (rC (doR (csF x e) c e)) :=
  do38 (madeB x.B) 4 _ c h e he (csF x e) (slotM hx.1 4 (tapsF x.T) (taps_ok hx.2.1) (fun _ => rfl) e he) (csF_ok hx e).2
theorem doQ {x : Cs} (hx : x.ok) {c : Cp} (h : c.ok) {e : Ev} (he : e.lok) : PCall Tryz.prog 39 [c.d, bdT (madeB x.B) 4 ((tapsF x.T).map Tap.d), e.d] (rC (doR (csF x e) c e)) :=
  do39 (madeB x.B) 4 _ c h e he (csF x e) (slotR hx.1 4 (tapsF x.T) (taps_ok hx.2.1) (fun _ => rfl) e he) (csF_ok hx e).2
theorem doP0 {x : Cs} (hx : x.ok) {c : Cp} (h : c.ok) {e : Ev} (he : e.lok) : PCall Tryz.prog 38 [c.d, (madeB x.B).d, .sl 0 [], e.d] (rC (doR (csF0 x e) c e)) :=
  do38 (madeB x.B) 0 [] c h e he (csF0 x e) (slotM hx.1 0 [] tp_nil (fun h => absurd rfl h) e he) (csF0_ok hx e).2
theorem doQ0 {x : Cs} (hx : x.ok) {c : Cp} (h : c.ok) {e : Ev} (he : e.lok) : PCall Tryz.prog 39 [c.d, bdT (madeB x.B) 0 [], e.d] (rC (doR (csF0 x e) c e)) :=
  do39 (madeB x.B) 0 [] c h e he (csF0 x e) (slotR hx.1 0 [] tp_nil (fun h => absurd rfl h) e he) (csF0_ok hx e).2
theorem scrP {x : Cs} (hx : x.ok) {c : Cp} (h : c.good) (l : List Ev) (hn : l.length ≤ 1000) (hl : ∀ e ∈ l, e.lok) : PCall Tryz.prog 41 [c.d, (madeB x.B).d, .sl 6 (l.map Ev.d)] (rC (scrTo (csF0 x) c l l.length)) :=
  script41 (csF0 x) (madeB x.B) c h l hn hl (fun e _ => sl_100 (csF0_ok hx e)) (fun c hc e he => doP0 hx hc (hl e he))
theorem scrQ {x : Cs} (hx : x.ok) {c : Cp} (h : c.good) (l : List Ev) (hn : l.length ≤ 1000) (hl : ∀ e ∈ l, e.lok) : PCall Tryz.prog 43 [c.d, (madeB x.B).d, .sl 6 (l.map Ev.d)] (rC (scrTo (csF0 x) c l l.length)) :=
  script43 (csF0 x) (madeB x.B) c h l hn hl (fun e _ => sl_100 (csF0_ok hx e)) (fun c hc e he => doQ0 hx hc (hl e he))
theorem begX {x : Cs} (hx : x.ok) (n : Nat) (hn : n ≤ 1000) : PCall Tryz.prog 35 [x.d, .int .i64 n] (begF (csF x) (evsR x.L n)).d :=
  begun35 (csF x) x hx n hn (fun e _ => sl_100 (csF_ok hx e)) (fun c hc e he => doQ hx hc (evsR_lok _ _ e he))
theorem scr_full {F : Ev → List (List Ch) × Int} (hF : ∀ e, slOk e (F e)) {c : Cp} (h : c.full) {l : List Ev} (hl : ∀ e ∈ l, e.lok) : ∀ i, i ≤ l.length → (scrTo F c l i).1.full
  | 0, _ => h
  | i + 1, hi => by
    have h1 := scr_full hF h hl i (by omega)
    rw [scr_step F c (by omega)]
    have hm := getD_memE (l := l) (i := i) (by omega)
    unfold stepR
    split
    · exact do_full h1 (hl _ hm) (hF _)
    · exact h1
theorem beg_full {x : Cs} (hx : x.ok) (n : Nat) : (begF (csF x) (evsR x.L n)).full := scr_full (csF_ok hx) em_full (evsR_lok _ _) _ (Nat.le_refl _)
theorem do_err (F : List (List Ch) × Int) (c : Cp) (e : Ev) (h : (doR F c e).2 ≠ 0) : (doR F c e).1 = c := by
  unfold doR at h ⊢
  split
  · rfl
  rename_i h1
  rw [if_neg h1] at h
  split
  · rename_i h2
    rw [if_pos h2] at h
    exact slot_err _ _ _ h
  rename_i h2
  rw [if_neg h2] at h
  split
  · rename_i h3
    rw [if_pos h3] at h
    exact pas_err _ _ h
  rename_i h3
  rw [if_neg h3] at h
  split
  · rename_i h4
    rw [if_pos h4] at h
    split
    · rfl
    · rename_i h5
      rw [if_neg h5] at h
      exact absurd rfl h
  rename_i h4
  rw [if_neg h4] at h
  split
  · rename_i h5
    rw [if_pos h5] at h
    exact moved_err _ _ h
  rename_i h5
  rw [if_neg h5] at h
  split
  · rename_i h6
    rw [if_pos h6] at h
    exact moved_err _ _ h
  rename_i h6
  rw [if_neg h6] at h
  split
  · rename_i h7
    rw [if_pos h7] at h
    exact held_err _ _ h
  rename_i h7
  rw [if_neg h7] at h
  split
  · rename_i h8
    rw [if_pos h8] at h
    exact absurd rfl h
  rename_i h8
  rw [if_neg h8] at h
  split
  · rename_i h9
    rw [if_pos h9] at h
    exact absurd rfl h
  · rfl
theorem full_same {c : Cp} (h : c.full) : PCall Tryz.prog 40 [c.d, c.d] (.bool true) :=
  csame40 c h.1.1 h.1.2.1 (fun s hs => by have := h.1.2.2 s hs; omega)
end Go.Proofs.YtojgjdcciojpeaaGreat
set_option linter.unusedSimpArgs false
set_option linter.unusedVariables false
namespace Go.Proofs.YtojgjdcciojpeaaGreat
open Go Go.PS
set_option maxRecDepth 100000
set_option maxHeartbeats 4000000
/-! Plain facts for the laws of compositions. -/
theorem step_do (F : Ev → List (List Ch) × Int) (r : Cp × Int) (e : Ev) : (stepR F r e).1 = (doR (F e) r.1 e).1 := by
  unfold stepR
  split
  · rfl
  · rename_i h
    exact (do_err _ _ _ h).symm
theorem del_ins (a n : Int) : ∀ {l : List Pn} {e : Int}, pvTo n l e = true → delF (insF l a) a = l.filter (fun p => decide (a ≤ p.f) || decide (p.t ≤ a))
  | [], _, _ => rfl
  | p :: r, e, h => by
    obtain ⟨h1, h2⟩ := pv_cons h
    have ih := del_ins a n h2
    rw [ins_cons, List.filter_cons]
    by_cases c1 : a ≤ p.f
    · have hk : kI a p = true := by unfold kI; rw [decide_eq_true c1]; rfl
      have hs : shI a p = ⟨p.f + 1, p.t + 1, p.w⟩ := if_pos c1
      have hd : kD a ⟨p.f + 1, p.t + 1, p.w⟩ = true := by unfold kD; rw [decide_eq_true (show a < p.f + 1 by omega)]; rfl
      have hs2 : shD a ⟨p.f + 1, p.t + 1, p.w⟩ = p := by
        have : shD a ⟨p.f + 1, p.t + 1, p.w⟩ = ⟨p.f + 1 - 1, p.t + 1 - 1, p.w⟩ := if_pos (show a < p.f + 1 by omega)
        rw [this, Int.add_sub_cancel, Int.add_sub_cancel]
      rw [if_pos hk, hs, del_cons, if_pos hd, hs2, ih, decide_eq_true c1]; rfl
    · have hs : shI a p = p := if_neg c1
      by_cases c2 : p.t ≤ a
      · have hk : kI a p = true := by unfold kI; rw [decide_eq_true c2, Bool.or_true]
        have hd : kD a p = true := by unfold kD; rw [decide_eq_true c2, Bool.or_true]
        have hs2 : shD a p = p := if_neg (by omega)
        rw [if_pos hk, hs, del_cons, if_pos hd, hs2, ih, decide_eq_true c2, Bool.or_true]; rfl
      · have hk : kI a p = false := by unfold kI; rw [decide_eq_false c1, decide_eq_false c2]; rfl
        rw [hk, if_neg (by simp), ih, decide_eq_false c1, decide_eq_false c2]; rfl
theorem del_insAt {α : Type} {l : List α} {n : Nat} (h : n ≤ l.length) (v : α) : delAt (insAt l n v) n = l := by
  have h1 : (l.take n).length = n := by simp; omega
  have e1 : List.take n (insAt l n v) = l.take n := by
    unfold insAt
    rw [List.take_append_of_le_length (by omega), List.take_of_length_le (by omega)]
  have e2 : List.drop (n + 1) (insAt l n v) = l.drop n := by
    unfold insAt
    rw [List.drop_append, List.drop_of_length_le (by omega), h1, show n + 1 - n = 1 by omega]; rfl
  unfold delAt
  rw [e1, e2, List.take_append_drop]
theorem ins_take {α : Type} {l : List α} {n : Nat} (h : n ≤ l.length) (v : α) : List.take n (insAt l n v) = l.take n := by
  unfold insAt
  rw [List.take_append_of_le_length (by simp; omega), List.take_of_length_le (by simp; omega)]
theorem ins_drop {α : Type} {l : List α} {n : Nat} (h : n ≤ l.length) (v : α) : List.drop (n + 1) (insAt l n v) = l.drop n := by
  have h1 : (l.take n).length = n := by simp; omega
  unfold insAt
  rw [List.drop_append, List.drop_of_length_le (by omega), h1, show n + 1 - n = 1 by omega]; rfl
theorem ins_at {α : Type} [Inhabited α] {l : List α} {n : Nat} (h : n ≤ l.length) (v : α) : (insAt l n v).getD n default = v := by
  have h1 : (l.take n).length = n := by simp; omega
  unfold insAt
  rw [List.getD_eq_getElem?_getD, List.getElem?_append_right (by omega), h1, Nat.sub_self]; rfl
theorem ins_length {α : Type} {l : List α} {n : Nat} (h : n ≤ l.length) (v : α) : (insAt l n v).length = l.length + 1 := by
  simp [insAt]; omega
theorem er_typed {c : Cp} (h : c.ok) (e : Ev) (s : List Ch) : erasedC (typedC c e s) = ⟨c.ev, c.sl, c.cu, c.pn.filter (fun p => decide (c.cu ≤ p.f) || decide (p.t ≤ c.cu)), 0⟩ := by
  obtain ⟨h1, h2, h3, h4, h5⟩ := h
  have e1 : (c.cu + 1 - 1) = c.cu := by omega
  have e2 : (typedC c e s).cu - 1 = c.cu := e1
  unfold erasedC
  rw [e2, show (typedC c e s).ev = insAt c.ev c.cu.toNat e from rfl, show (typedC c e s).sl = insAt c.sl c.cu.toNat s from rfl, show (typedC c e s).pn = insF c.pn c.cu from rfl,
    del_insAt (by omega), del_insAt (by omega), del_ins c.cu _ h5]
theorem do_slot {F : List (List Ch) × Int} {c : Cp} {e : Ev} (h : hasS e = true) (hv : validE e = true) : doR F c e = slotR31 F c e := by
  unfold doR
  rw [hv, if_neg (by simp), if_pos (has_iff.1 h)]
theorem do_erase {F : List (List Ch) × Int} {c : Cp} (h0 : 1 ≤ c.cu) : doR F c erE = (erasedC c, 0) := by
  unfold doR
  rw [show validE erE = true from by decide, if_neg (by simp), if_neg (by decide), if_neg (by decide), if_pos (by decide), if_neg (by omega)]
def riE : Ev := ⟨8, [], [], [], 0, 0⟩
theorem do_left {F : List (List Ch) × Int} {c : Cp} : doR F c lfE = movedR c (-1) := by
  unfold doR
  rw [show validE lfE = true from by decide, if_neg (by simp), if_neg (by decide), if_neg (by decide), if_neg (by decide), if_pos (by decide)]
theorem do_right {F : List (List Ch) × Int} {c : Cp} : doR F c riE = movedR c 1 := by
  unfold doR
  rw [show validE riE = true from by decide, if_neg (by simp), if_neg (by decide), if_neg (by decide), if_neg (by decide), if_neg (by decide), if_pos (by decide)]
theorem do_typed {F : List (List Ch) × Int} {c : Cp} {e : Ev} (h : hasS e = true) (h0 : (doR F c e).2 = 0) : validE e = true ∧ F.2 = 0 ∧ ¬ 40 ≤ c.sl.length ∧ (doR F c e).1 = typedC c e (F.1.getD 0 []) := by
  cases hv : validE e with
  | false =>
    unfold doR at h0
    rw [hv, if_pos rfl] at h0
    exact absurd h0 (by simp)
  | true =>
    rw [do_slot h hv] at h0 ⊢
    unfold slotR31 at h0 ⊢
    by_cases q1 : ¬ F.2 = 0
    · rw [if_pos q1] at h0
      exact absurd h0 q1
    · rw [if_neg q1] at h0 ⊢
      by_cases q2 : 40 ≤ c.sl.length
      · rw [if_pos q2] at h0
        exact absurd h0 (by simp)
      · rw [if_neg q2]
        exact ⟨rfl, Classical.not_not.1 q1, q2, rfl⟩
theorem moved_lr {c : Cp} (h : c.ok) (h0 : 0 < c.cu) : movedR c (-1) = ({ c with cu := c.cu - 1 }, 0) ∧ movedR { c with cu := c.cu - 1 } 1 = (c, 0) := by
  obtain ⟨h1, h2, h3, h4, h5⟩ := h
  constructor
  · unfold movedR; rw [if_neg (by omega)]; rfl
  · unfold movedR
    dsimp only
    rw [if_neg (by omega), Int.sub_add_cancel]
theorem moved_rl {c : Cp} (h : c.ok) (h0 : c.cu < c.sl.length) : movedR c 1 = ({ c with cu := c.cu + 1 }, 0) ∧ movedR { c with cu := c.cu + 1 } (-1) = (c, 0) := by
  obtain ⟨h1, h2, h3, h4, h5⟩ := h
  constructor
  · unfold movedR; rw [if_neg (by omega)]
  · unfold movedR
    dsimp only
    rw [if_neg (by omega), Int.add_neg_cancel_right]
/-- A key's slot on any board. -/
theorem slotX_key (A : List Ar) (U : List Tap) {ch : UInt8} (h : letB ch = true) : slotX A U (kE ch) = ([[byteC ch]], 0) := by
  have hv := (kE_valid h).2
  unfold slotX slotE
  rw [hv]
  rfl
theorem do_key {A : List Ar} {U : List Tap} {c : Cp} {ch : UInt8} (h : letB ch = true) (hl : c.sl.length < 40) : doR (slotX A U (kE ch)) c (kE ch) = (tyK c ch, 0) := by
  rw [do_slot (kE_valid h).1 (kE_valid h).2, slotX_key A U h]
  unfold slotR31
  rw [if_neg (by simp), if_neg (by omega)]; rfl
theorem do_key_big {A : List Ar} {U : List Tap} {c : Cp} {ch : UInt8} (h : letB ch = true) (hl : 40 ≤ c.sl.length) : doR (slotX A U (kE ch)) c (kE ch) = (c, 2) := by
  rw [do_slot (kE_valid h).1 (kE_valid h).2, slotX_key A U h]
  unfold slotR31
  rw [if_neg (by simp), if_pos hl]
def paE (t : List UInt8) : Ev := ⟨5, [], [], t, 0, 0⟩
theorem pa_valid {t : List UInt8} (h : t.all letB = true) (h1 : 1 ≤ t.length) (h2 : t.length ≤ 20) : validE (paE t) = true := by
  unfold validE paE
  rw [if_neg (show ¬ (5 : Int) = 1 by decide), if_neg (show ¬ (5 : Int) = 2 by decide), if_neg (show ¬ (5 : Int) = 3 by decide), if_neg (show ¬ (5 : Int) = 4 by decide), if_pos (show (5 : Int) = 5 from rfl)]
  simp [h, lets, Ev.noK, Ev.noP, Ev.noN, Ev.noL]
  omega
theorem do_paste {F : List (List Ch) × Int} {c : Cp} {t : List UInt8} (h : t.all letB = true) (h1 : 1 ≤ t.length) (h2 : t.length ≤ 20) : doR F c (paE t) = pasR c t := by
  unfold doR
  rw [pa_valid h h1 h2, if_neg (by simp), if_neg (by simp [paE]), if_pos (by simp [paE])]; rfl
def hlE (n l : Int) : Ev := ⟨9, [], [], [], n, l⟩
theorem do_hold {F : List (List Ch) × Int} {c : Cp} {n l : Int} (h1 : 0 ≤ n ∧ n < 40) (h2 : 1 ≤ l ∧ l ≤ 40) : doR F c (hlE n l) = heldR c (hlE n l) := by
  have hv : validE (hlE n l) = true := by
    unfold validE hlE
    rw [if_neg (show ¬ (9 : Int) = 1 by decide), if_neg (show ¬ (9 : Int) = 2 by decide), if_neg (show ¬ (9 : Int) = 3 by decide), if_neg (show ¬ (9 : Int) = 4 by decide), if_neg (show ¬ (9 : Int) = 5 by decide), if_pos (show (9 : Int) = 9 from rfl)]
    simp [Ev.noK, Ev.noP, Ev.noT]
    omega
  unfold doR
  rw [hv, if_neg (by simp), if_neg (by simp [hlE]), if_neg (by simp [hlE]), if_neg (by simp [hlE]), if_neg (by simp [hlE]), if_neg (by simp [hlE]), if_pos (by simp [hlE])]
end Go.Proofs.YtojgjdcciojpeaaGreat
set_option linter.unusedSimpArgs false
set_option linter.unusedVariables false
namespace Go.Proofs.YtojgjdcciojpeaaGreat
open Go Go.PS
set_option maxRecDepth 100000
set_option maxHeartbeats 4000000
/-- Events, as a row that grew: its spare room is its own. -/
theorem events42t (l : List Rw) (n : Nat) (hn : n ≤ 1000) (hl : rws l) : TCall Tryz.prog 42 [.sl 4 (l.map Rw.d), .int .i64 n] 26 6 ((evsR l n).map Ev.d) := by
  have hll := hl.2
  have z0 : evsR l 0 = [] := rfl
  refine enterT tabOk Tryz.func42 28 [0, 1, 4, 5, 6, 16] [.tmp 4] rfl (r := []) rfl (h := ?_); intro E hK; simp only [go_sem]
  refine wgo ?_
  (apply Run.full 5 1005 26 6; (case hi => simp only [go_sem]; rfl); (case ht => simp only [go_sem]); (case hmn => first | exact Or.inl (by decide) | exact Or.inr rfl); (case hs => simp only [go_sem]; rfl))
  refine wlpF (Run.loopC (ι := { i : Nat // i ≤ l.length ∧ i ≤ n }) (U := fun i => [(5, .own 6 ((evsR l i.1).map Ev.d) (.tok 1005)), (6, .d (.int .i64 i.1))]) (O := fun i => []) (K := fun _ => [(1005, .live 26 6)]) (μ := fun i => l.length - i.1) (i0 := ⟨0, by omega, by omega⟩)) (@z0) ?_
  rintro ⟨i, hi, hin⟩ ih
  have hel := evsR_len (l := l) (n := i)
  by_cases hlt : i < l.length ∧ i < n
  · obtain ⟨hlt, hln⟩ := hlt
    have h1 : (i : Int) < l.length := by omega
    have h2 : (i : Int) < n := by omega
    have hget := rw_get hlt
    have ee : l.getD i default = l[i] := by simp [hlt]
    have h37 := event37 _ (by have := hl.1 _ (List.getElem_mem hlt); rw [← ee] at this; exact this)
    have hst := evsR_snoc hlt
    generalize l.getD i default = x at hget h37 hst
    simp only [go_sem]
    refine wgoF (And.intro (@h1) (And.intro (@h2) (@hget))) ?_
    refine wcallF (h37) (@Rw.d.eq_1) ?_
    refine wgoF (@Ev.d.eq_1) ?_
    (apply Run.retok 26 1005; (case hk => simp only [go_sem]; rfl); (case ht => simp only [go_sem]; rfl); (case ht' => simp only [go_sem]); (case hs => simp only [go_sem]; rfl))
    exact wnxtF (ih ⟨i + 1, by omega, by omega⟩) (And.intro (@hst) (@Ev.d.eq_1))
  · have c : (decide ((i : Int) < l.length) && decide ((i : Int) < n)) = false := by
      rw [Bool.and_eq_false_iff]
      by_cases q : i < l.length
      · right; exact decide_eq_false (by omega)
      · left; exact decide_eq_false (by omega)
    have hf : evsR l i = evsR l n := by
      unfold evsR
      by_cases q : i < l.length
      · rw [show i = n by omega]
      · rw [List.take_of_length_le (by omega), List.take_of_length_le (by omega)]
    simp only [go_sem, hf]
    refine wgoF (@c) ?_
    ((first | apply ret_runT | apply ret_runT0); (case h => assumption); (case hsz => decide); (case ht => first | (simp only [go_sem]; done) | (simp only [go_sem]; rfl)); (case ho => first | (simp only [go_sem]; done) | (simp only [go_sem]; rfl)))
theorem PCall.pre {P : Program} {g : FuncId} {ds ds' : List D} {r : D} (h : DLeL ds ds') (hc : PCall P g ds' r) : PCall P g ds r :=
  ⟨hc.1, fun K w vs hk hv => hc.2 K w vs hk (h _ _ hv)⟩
def evD (z : Nat) (e : Ev) : D := .agg [.int .i64 e.kind, .str e.keys, .sl z (e.p.map Pt.d), .str e.text, .int .i64 e.n, .int .i64 e.l]
def zC3 (i : Nat) : Nat := if i = 2 then 0 else 2
theorem tailE (A B C : Ev) (hC : C.p = []) : ∀ W : List Ev, dle.dleE (List.map Ev.d W ++ [evD 2 A, evD 2 B, evD 0 C]) (List.map Ev.d W ++ [A.d, B.d, C.d]) = True
  | [] => by
    rw [List.map_nil, List.nil_append, List.nil_append]
    simp [evD, Ev.d, dle.dleE, dle.dleL, dle, hC]
  | e :: W => by
    rw [List.map_cons, List.cons_append, List.cons_append, Ev.d, dle.dleE, tailE A B C hC W]
    simp [dle.dleL, dle]
/-- The statement ComposingMatchesReference holds. -/
theorem lawMatchC (x : Cs) (y : Rw) (o : Ev) (hx : x.ok) (hy : y.ok) (ho : o.lok) : PCall Tryz.prog 8 [x.d, y.d, o.d] (.bool true) := by
  have hb := board36 x hx
  have hbg : PCall Tryz.prog 35 [x.d, .int .i64 12] (begF (csF x) (evsR x.L 12)).d := begX hx 12 (by omega)
  have hfu := beg_full hx 12
  have h37 := event37 y hy
  generalize begF (csF x) (evsR x.L 12) = c at hbg hfu
  have he := evR_lok y
  generalize evR y = e at h37 he
  have h42 : TCall Tryz.prog 42 [.sl 4 (x.L.map Rw.d), .int .i64 8] 26 6 ((evsR x.L 8).map Ev.d) := events42t x.L 8 (by omega) hx.2.2
  have hel := evsR_len (l := x.L) (n := 8)
  have hlk := evsR_lok x.L 8
  generalize evsR x.L 8 = W at h42 hel hlk
  have hco : coE.lok := ⟨by simp [coE], by simp [coE], by simp [coE]⟩
  have hal : ∀ q ∈ W ++ [e, o, coE], q.lok := fun q hq => by
    rcases List.mem_append.1 hq with h | h
    · exact hlk q h
    · simp only [List.mem_cons, List.not_mem_nil, or_false] at h
      rcases h with rfl | rfl | rfl
      · exact he
      · exact ho
      · exact hco
  have hmap : List.map Ev.d (W ++ [e, o, coE]) = List.map Ev.d W ++ [e.d, o.d, coE.d] := by simp
  have hpre : DLeL [c.d, (madeB x.B).d, .sl 6 (List.map Ev.d W ++ [evD 2 e, evD 2 o, evD 0 coE])] [c.d, (madeB x.B).d, .sl 6 (List.map Ev.d (W ++ [e, o, coE]))] := by
    rw [hmap]
    refine dleL_leL ?_
    simp only [dle.dleL, dle_self, dle, tailE e o coE rfl W]
    simp
  have s1 := PCall.pre hpre (scrP hx hfu.1 (W ++ [e, o, coE]) (by simp; omega) hal)
  have s2 := PCall.pre hpre (scrQ hx hfu.1 (W ++ [e, o, coE]) (by simp; omega) hal)
  have hsf := full_same (scr_full (csF0_ok hx) hfu hal (W ++ [e, o, coE]).length (Nat.le_refl _))
  generalize scrTo (csF0 x) c (W ++ [e, o, coE]) (W ++ [e, o, coE]).length = R at s1 s2 hsf
  obtain ⟨cr, nr⟩ := R
  have hdo : ∀ i, i < 3 → ∃ q : Cp × Int, q.1.full ∧ PCall Tryz.prog 38 [c.d, (madeB x.B).d, .sl 4 ((tapsF x.T).map Tap.d), evD (zC3 i) ([e, o, coE].getD i default)] (rC q) ∧ PCall Tryz.prog 39 [c.d, bdT (madeB x.B) 4 ((tapsF x.T).map Tap.d), evD (zC3 i) ([e, o, coE].getD i default)] (rC q) := fun i hi => by
    have hl : ([e, o, coE].getD i default).lok := by
      match i, hi with
      | 0, _ => exact he
      | 1, _ => exact ho
      | 2, _ => exact hco
    have hle : ∀ d1 d2 : D, DLeL [d1, d2, evD (zC3 i) ([e, o, coE].getD i default)] [d1, d2, ([e, o, coE].getD i default).d] := fun d1 d2 => by
      match i, hi with
      | 0, _ => exact DLeL.refl _
      | 1, _ => exact DLeL.refl _
      | 2, _ =>
        refine DLeL.cons (DLe.refl _) (DLeL.cons (DLe.refl _) (DLeL.cons (DLe.agg ?_) DLeL.nil))
        exact DLeL.cons (DLe.refl _) (DLeL.cons (DLe.refl _) (DLeL.cons (DLe.nil _ _) (DLeL.refl _)))
    refine ⟨doR (csF x ([e, o, coE].getD i default)) c ([e, o, coE].getD i default), do_full hfu hl (csF_ok hx _), ?_, PCall.pre (hle _ _) (doQ hx hfu.1.1 hl)⟩
    refine PCall.pre (DLeL.cons (DLe.refl _) (hle _ _)) (doP hx hfu.1.1 hl)
  have hget : ∀ i, i < 3 → List.getD [D.agg [.int .i64 e.kind, .str e.keys, .sl 2 (e.p.map Pt.d), .str e.text, .int .i64 e.n, .int .i64 e.l], .agg [.int .i64 o.kind, .str o.keys, .sl 2 (o.p.map Pt.d), .str o.text, .int .i64 o.n, .int .i64 o.l], .agg [.int .i64 11, .str [], .sl 0 [], .str [], .int .i64 0, .int .i64 0]] i .nilp =
      .agg [.int .i64 ([e, o, coE].getD i default).kind, .str ([e, o, coE].getD i default).keys, .sl (zC3 i) (([e, o, coE].getD i default).p.map Pt.d), .str ([e, o, coE].getD i default).text, .int .i64 ([e, o, coE].getD i default).n, .int .i64 ([e, o, coE].getD i default).l] := fun i hi => by
    match i, hi with
    | 0, _ => rfl
    | 1, _ => rfl
    | 2, _ => rfl
  generalize (tapsF x.T).map Tap.d = tp at hb hdo
  generalize madeB x.B = bb at hb hdo s1 s2
  have hz : ∀ a : Int, decide (a = a) = true := fun a => decide_eq_true rfl
  have hc1 : coE.kind = 11 := rfl
  have hc2 : coE.keys = [] := rfl
  have hc3 : coE.p = [] := rfl
  have hc4 : coE.text = [] := rfl
  have hc5 : coE.n = 0 := rfl
  have hc6 : coE.l = 0 := rfl
  obtain ⟨o1, o2, o3⟩ := ho
  cases hc : ((decide ((14 : Int) < (o.p.length : Int)) || decide ((10 : Int) < (o.keys.length : Int))) || decide ((30 : Int) < (o.text.length : Int))) with
  | true =>
    refine enterP tabOk Tryz.func8 118 [0, 1, 2, 3, 4, 5, 6, 7, 8, 9, 10, 11, 12, 13, 14, 15, 16, 17, 18, 19, 36, 48, 82] [.tmp 6] rfl (r := [_]) rfl (h := ?_); intro E hK; simp only [go_sem]
    refine wgoF (And.intro (@Cs.d.eq_1) (And.intro (@Rw.d.eq_1) (@Ev.d.eq_1))) ?_
    refine wcall (sanity34) ?_
    refine wgoF (@hc) ?_
    exact wret
  | false =>
    refine enterP tabOk Tryz.func8 118 [0, 1, 2, 3, 4, 5, 6, 7, 8, 9, 10, 11, 12, 13, 14, 15, 16, 17, 18, 19, 36, 48, 82] [.tmp 6] rfl (r := [_]) rfl (h := ?_); intro E hK; simp only [go_sem]
    refine wgoF (And.intro (@Cs.d.eq_1) (And.intro (@Rw.d.eq_1) (@Ev.d.eq_1))) ?_
    refine wcall (sanity34) ?_
    refine wgoF (And.intro (@hc) (@Cs.d.eq_1)) ?_
    refine wcallF (hbg) (@Cs.d.eq_1) ?_
    refine wgoF (@Cp.d.eq_1) ?_
    refine wcallF (hb) (@Cs.d.eq_1) ?_
    refine wgoF (@bdT.eq_1) ?_
    refine wcallF (h37) (@Rw.d.eq_1) ?_
    refine wgoF (@Ev.d.eq_1) ?_
    refine wlp (Run.loopC (ι := { i : Nat // i ≤ 3 }) (U := fun i => [(11, .d (.int .i64 i.1))]) (O := fun i => []) (K := fun _ => []) (μ := fun i => 3 - i.1) (i0 := ⟨0, by omega⟩)) ?_
    rintro ⟨i, hi⟩ ih
    by_cases hlt : i < 3
    · have h1 : (i : Int) < 3 := by omega
      have hg := hget i hlt
      obtain ⟨q, hq1, hq2, hq3⟩ := hdo i hlt
      have hsm := full_same hq1
      generalize [e, o, coE].getD i default = ev at hg hq2 hq3
      generalize zC3 i = z at hg hq2 hq3
      obtain ⟨cq, xq⟩ := q
      simp only [go_sem]
      refine wgoF (And.intro (@h1) (@hg)) ?_
      refine wcallF (hq2) (And.intro (@Cp.d.eq_1) (And.intro (@Ev.d.eq_1) (And.intro (@Brd.d.eq_1) (@evD.eq_1)))) ?_
      refine wgoF (And.intro (@rC.eq_1) (And.intro (@Cp.d.eq_1) (And.intro (@h1) (@hg)))) ?_
      refine wcallF (hq3) (And.intro (@Cp.d.eq_1) (And.intro (@Ev.d.eq_1) (And.intro (@Brd.d.eq_1) (And.intro (@bdT.eq_1) (@evD.eq_1))))) ?_
      refine wgoF (And.intro (@rC.eq_1) (@Cp.d.eq_1)) ?_
      refine wcallF (hsm) (@Cp.d.eq_1) ?_
      refine wgoF (@hz) ?_
      exact wnxt (ih ⟨i + 1, by omega⟩)
    · have h1 : ¬ (i : Int) < 3 := by omega
      obtain rfl : i = 3 := by omega
      simp only [go_sem]
      refine wgoF (@h1) ?_
      (apply rops_tcall (hcall := (h42)); (case hg => simp only [go_sem, @Rw.d.eq_1]); (case he => simp only [go_sem, @Rw.d.eq_1]; first | exact ⟨rfl, rfl⟩ | rfl); (case hle => first | exact DLeL.refl _ | (refine dleL_leL ?_; simp only [go_sem, @Rw.d.eq_1])); (case hdst => rfl); (case htk => simp only [go_sem, @Rw.d.eq_1]); (case hsz => decide); (case hd => simp only [go_sem, @Rw.d.eq_1]); (case hs => simp only [go_sem, @Rw.d.eq_1]; rfl))
      refine wgo ?_
      refine wcallF (s1) (And.intro (@Cp.d.eq_1) (And.intro (@Ev.d.eq_1) (And.intro (@Brd.d.eq_1) (And.intro (@evD.eq_1) (And.intro (@hc1) (And.intro (@hc2) (And.intro (@hc3) (And.intro (@hc4) (And.intro (@hc5) (@hc6)))))))))) ?_
      refine wgoF (And.intro (@rC.eq_1) (@Cp.d.eq_1)) ?_
      (apply rops_tcall (hcall := (h42)); (case hg => simp only [go_sem, @Rw.d.eq_1]); (case he => simp only [go_sem, @Rw.d.eq_1]; first | exact ⟨rfl, rfl⟩ | rfl); (case hle => first | exact DLeL.refl _ | (refine dleL_leL ?_; simp only [go_sem, @Rw.d.eq_1])); (case hdst => rfl); (case htk => simp only [go_sem, @Rw.d.eq_1]); (case hsz => decide); (case hd => simp only [go_sem, @Rw.d.eq_1]); (case hs => simp only [go_sem, @Rw.d.eq_1]; rfl))
      refine wgo ?_
      refine wcallF (s2) (And.intro (@Cp.d.eq_1) (And.intro (@Ev.d.eq_1) (And.intro (@Brd.d.eq_1) (And.intro (@evD.eq_1) (And.intro (@hc1) (And.intro (@hc2) (And.intro (@hc3) (And.intro (@hc4) (And.intro (@hc5) (@hc6)))))))))) ?_
      refine wgoF (And.intro (@rC.eq_1) (@Cp.d.eq_1)) ?_
      refine wcallF (hsf) (@Cp.d.eq_1) ?_
      refine wgoF (@hz) ?_
      exact wret
end Go.Proofs.YtojgjdcciojpeaaGreat
set_option linter.unusedSimpArgs false
set_option linter.unusedVariables false
namespace Go.Proofs.YtojgjdcciojpeaaGreat
open Go Go.PS Go.ChangeShapes Go.WideShapes Go.ChangeAt Go.RowKit
set_option maxRecDepth 100000
set_option maxHeartbeats 4000000
theorem knob : ownKnob Tryz.prog.godebug = Option.none := by kernel_rfl
theorem laidOut : laidOutB Tryz.prog = true := by kernel_rfl
theorem ccells119 : Tryz.prog.cellsOf 119 = 2 := by kernel_rfl
theorem ccells5 : Tryz.prog.cellsOf 5 = 1 := by kernel_rfl
theorem plain22 : plainB Tryz.prog 9 22 = true := by kernel_rfl
theorem plain41 : plainB Tryz.prog 9 41 = true := by kernel_rfl
theorem bp_of0 {zs : List D} (h : Fits Tryz.prog [119] zs) : ∃ r : Int × Int, zs = [.int .u8 r.1, .int .u8 r.2] ∧ (0 ≤ r.1 ∧ r.1 ≤ 255 ∧ 0 ≤ r.2 ∧ r.2 ≤ 255) := by
  obtain ⟨ys, xs, rfl, hy, hx⟩ := h.arr_inv Tryz.underlying119
  cases hx.nil_inv
  have hy1 : Fits Tryz.prog [5, 5] ys := hy
  obtain ⟨a, ys1, rfl, ha, hy2⟩ := hy1.int_inv Tryz.underlying5
  obtain ⟨b, ys2, rfl, hb, hy3⟩ := hy2.int_inv Tryz.underlying5
  cases hy3.nil_inv
  have h1 := u8_bd' ha
  have h2 := u8_bd' hb
  exact ⟨(a, b), rfl, h1.1, h1.2, h2.1, h2.2⟩
theorem bp_of (zs : List D) (h : Fits Tryz.prog [119] zs) : ∃ r : Int × Int, asElem Tryz.prog 119 zs = bpD r ∧ (0 ≤ r.1 ∧ r.1 ≤ 255 ∧ 0 ≤ r.2 ∧ r.2 ≤ 255) := by
  obtain ⟨r, rfl, h1⟩ := bp_of0 h
  exact ⟨r, by simp only [asElem, Tryz.underlying119, bpD], h1⟩
theorem u8_of (zs : List D) (h : Fits Tryz.prog [5] zs) : ∃ r : Int, asElem Tryz.prog 5 zs = .int .u8 r ∧ (0 ≤ r ∧ r ≤ 255) := by
  obtain ⟨a, ys, rfl, ha, hy⟩ := h.int_inv Tryz.underlying5
  cases hy.nil_inv
  exact ⟨a, by simp only [asElem, Tryz.underlying5]; rfl, u8_bd' ha⟩
theorem arg_bps {H : Type} {enc : TypeId × Value → H} {W : World} {base : Nat} {v : Value} {d : DataW H} {p : List MemPlace} {sp : Nat → Bool} (hok : Value.okWide Tryz.prog W .any base 22 v) (h : DataW.Trod enc Tryz.prog W 0 sp true 22 v d p) :
    ∃ l : List (Int × Int), bps l ∧ RepD (KAll W) (.sl 2 (l.map bpD)) v :=
  arg_slice bpD _ 9 plain22 Tryz.underlying22 ccells119 bp_of hok h
theorem arg_u8s {H : Type} {enc : TypeId × Value → H} {W : World} {base : Nat} {v : Value} {d : DataW H} {p : List MemPlace} {sp : Nat → Bool} (hok : Value.okWide Tryz.prog W .any base 41 v) (h : DataW.Trod enc Tryz.prog W 0 sp true 41 v d p) :
    ∃ l : List Int, u8s l ∧ RepD (KAll W) (.sl 1 (l.map (D.int .u8))) v :=
  arg_slice (D.int .u8) _ 9 plain41 Tryz.underlying41 ccells5 u8_of hok h
end Go.Proofs.YtojgjdcciojpeaaGreat
set_option linter.unusedSimpArgs false
set_option linter.unusedVariables false
namespace Go.Proofs.YtojgjdcciojpeaaGreat
open Go Go.PS Go.ChangeShapes Go.WideShapes Go.ChangeAt Go.RowKit
set_option maxRecDepth 100000
set_option maxHeartbeats 4000000
theorem ccells36 : Tryz.prog.cellsOf 36 = 1 := by kernel_rfl
theorem ccells37 : Tryz.prog.cellsOf 37 = 3 := by kernel_rfl
theorem ccells70 : Tryz.prog.cellsOf 70 = 2 := by kernel_rfl
theorem ccells43 : Tryz.prog.cellsOf 43 = 5 := by kernel_rfl
theorem plain38 : plainB Tryz.prog 9 38 = true := by kernel_rfl
theorem plain23 : plainB Tryz.prog 9 23 = true := by kernel_rfl
theorem plain43 : plainB Tryz.prog 9 43 = true := by kernel_rfl
theorem plain26 : plainB Tryz.prog 9 26 = true := by kernel_rfl
theorem i8_bd' {n : Int} (h : (Lit.int .i8 n).wf = true) : -128 ≤ n ∧ n ≤ 127 := by
  simpa [Lit.wf, IntKind.min, IntKind.max, IntKind.signed, IntKind.bits] using h
theorem okWide_strct {P : Program} {w : World} {r : Reach} {base : Nat} {t : TypeId} {v : Value} {fs : Array Field} (ht : P.underlying t = some (.struct fs)) (h : Value.okWide P w r base t v) : ∃ cs, v = .agg cs := by
  simp only [Value.okWide, ht] at h
  obtain ⟨cs, h1, _⟩ := h
  exact ⟨cs, h1⟩
theorem t3_of (zs : List D) (h : Fits Tryz.prog [37] zs) : ∃ r : Int × Int × Int, asElem Tryz.prog 37 zs = t3D r ∧ ((-128 ≤ r.1 ∧ r.1 ≤ 127) ∧ (-128 ≤ r.2.1 ∧ r.2.1 ≤ 127) ∧ (-128 ≤ r.2.2 ∧ r.2.2 ≤ 127)) := by
  obtain ⟨ys, xs, rfl, hy, hx⟩ := h.arr_inv Tryz.underlying37
  cases hx.nil_inv
  have hy1 : Fits Tryz.prog [36, 36, 36] ys := hy
  obtain ⟨a, ys1, rfl, ha, hy2⟩ := hy1.int_inv Tryz.underlying36
  obtain ⟨b, ys2, rfl, hb, hy3⟩ := hy2.int_inv Tryz.underlying36
  obtain ⟨c, ys3, rfl, hc, hy4⟩ := hy3.int_inv Tryz.underlying36
  cases hy4.nil_inv
  exact ⟨(a, b, c), by simp only [asElem, Tryz.underlying37, t3D]; rfl, i8_bd' ha, i8_bd' hb, i8_bd' hc⟩
theorem arg_t3s {H : Type} {enc : TypeId × Value → H} {W : World} {base : Nat} {v : Value} {d : DataW H} {p : List MemPlace} {sp : Nat → Bool} (hok : Value.okWide Tryz.prog W .any base 38 v) (h : DataW.Trod enc Tryz.prog W 0 sp true 38 v d p) :
    ∃ l : List (Int × Int × Int), t3s l ∧ RepD (KAll W) (.sl 3 (l.map t3D)) v :=
  arg_slice t3D _ 9 plain38 Tryz.underlying38 ccells37 t3_of hok h
theorem raw_of0 {xs : List D} (h : Fits Tryz.prog [43] xs) : ∃ r : Raw, xs = [.int .u8 r.kind, .sl 1 (r.L.map (D.int .u8)), .sl 2 (r.P.map bpD), .int .u8 r.N, .int .u8 r.M] ∧ r.ok := by
  obtain ⟨ys, xs, rfl, hy, hx⟩ := h.strct_inv Tryz.underlying43
  cases hx.nil_inv
  have hy1 : Fits Tryz.prog [5, 41, 22, 5, 5] ys := hy
  obtain ⟨k, ys1, rfl, hk, hy2⟩ := hy1.int_inv Tryz.underlying5
  obtain ⟨L, ys2, rfl, hL1, hL2, hy3⟩ := hy2.list_inv (D.int .u8) _ Tryz.underlying41 ccells5 u8_of
  obtain ⟨P, ys3, rfl, hP1, hP2, hy4⟩ := hy3.list_inv bpD _ Tryz.underlying22 ccells119 bp_of
  obtain ⟨n, ys4, rfl, hn, hy5⟩ := hy4.int_inv Tryz.underlying5
  obtain ⟨m, ys5, rfl, hm, hy6⟩ := hy5.int_inv Tryz.underlying5
  cases hy6.nil_inv
  exact ⟨⟨k, L, P, n, m⟩, rfl, u8_bd' hk, ⟨hL1, hL2⟩, ⟨hP1, hP2⟩, u8_bd' hn, u8_bd' hm⟩
theorem raw_of (zs : List D) (h : Fits Tryz.prog [43] zs) : ∃ r : Raw, asElem Tryz.prog 43 zs = r.d ∧ r.ok := by
  obtain ⟨r, rfl, h1⟩ := raw_of0 h
  exact ⟨r, by simp only [asElem, Tryz.underlying43, Raw.d], h1⟩
theorem arg_raws {H : Type} {enc : TypeId × Value → H} {W : World} {base : Nat} {v : Value} {d : DataW H} {p : List MemPlace} {sp : Nat → Bool} (hok : Value.okWide Tryz.prog W .any base 23 v) (h : DataW.Trod enc Tryz.prog W 0 sp true 23 v d p) :
    ∃ l : List Raw, ((∀ x ∈ l, x.ok) ∧ l.length ≤ 9223372036854775807) ∧ RepD (KAll W) (.sl 5 (l.map Raw.d)) v :=
  arg_slice Raw.d _ 9 plain23 Tryz.underlying23 ccells43 raw_of hok h
theorem arg_raw {H : Type} {enc : TypeId × Value → H} {W : World} {base : Nat} {v : Value} {d : DataW H} {p : List MemPlace} {sp : Nat → Bool} (hok : Value.okWide Tryz.prog W .any base 43 v) (h : DataW.Trod enc Tryz.prog W 0 sp true 43 v d p) :
    ∃ r : Raw, r.ok ∧ RepD (KAll W) r.d v := by
  obtain ⟨cs, rfl⟩ := okWide_strct Tryz.underlying43 hok
  obtain ⟨xs, hf, hr, _⟩ := met_of_trod 9 plain43 h
  obtain ⟨r, rfl, h1⟩ := raw_of0 hf
  exact ⟨r, h1, rep_agg (by intro x hx; simp only [List.mem_cons, List.not_mem_nil, or_false] at hx; rcases hx with rfl | rfl | rfl | rfl | rfl <;> rfl) hr⟩
theorem pt_of (zs : List D) (h : Fits Tryz.prog [70] zs) : ∃ r : Pt, asElem Tryz.prog 70 zs = r.d ∧ True := by
  obtain ⟨ys, xs, rfl, hy, hx⟩ := h.strct_inv Tryz.underlying70
  cases hx.nil_inv
  have hy1 : Fits Tryz.prog [3, 3] ys := hy
  obtain ⟨a, ys1, rfl, ha, hy2⟩ := hy1.int_inv Tryz.underlying3
  obtain ⟨b, ys2, rfl, hb, hy3⟩ := hy2.int_inv Tryz.underlying3
  cases hy3.nil_inv
  exact ⟨⟨a, b⟩, by simp only [asElem, Tryz.underlying70, Pt.d]; rfl, trivial⟩
theorem ev_of0 {xs : List D} (h : Fits Tryz.prog [26] xs) : ∃ r : Ev, xs = [.int .i64 r.kind, .str r.keys, .sl 2 (r.p.map Pt.d), .str r.text, .int .i64 r.n, .int .i64 r.l] ∧ r.lok := by
  obtain ⟨ys, xs, rfl, hy, hx⟩ := h.strct_inv Tryz.underlying26
  cases hx.nil_inv
  have hy1 : Fits Tryz.prog [3, 9, 24, 9, 3, 3] ys := hy
  obtain ⟨k, ys1, rfl, hk, hy2⟩ := hy1.int_inv Tryz.underlying3
  obtain ⟨s, ys2, rfl, hs, hy3⟩ := hy2.str_inv Tryz.underlying9
  obtain ⟨P, ys3, rfl, hP1, hP2, hy4⟩ := hy3.list_inv Pt.d _ Tryz.underlying24 ccells70 pt_of
  obtain ⟨t, ys4, rfl, ht, hy5⟩ := hy4.str_inv Tryz.underlying9
  obtain ⟨n, ys5, rfl, hn, hy6⟩ := hy5.int_inv Tryz.underlying3
  obtain ⟨m, ys6, rfl, hm, hy7⟩ := hy6.int_inv Tryz.underlying3
  cases hy7.nil_inv
  exact ⟨⟨k, s, P, t, n, m⟩, rfl, hs, hP2, ht⟩
theorem arg_ev {H : Type} {enc : TypeId × Value → H} {W : World} {base : Nat} {v : Value} {d : DataW H} {p : List MemPlace} {sp : Nat → Bool} (hok : Value.okWide Tryz.prog W .any base 26 v) (h : DataW.Trod enc Tryz.prog W 0 sp true 26 v d p) :
    ∃ r : Ev, r.lok ∧ RepD (KAll W) r.d v := by
  obtain ⟨cs, rfl⟩ := okWide_strct Tryz.underlying26 hok
  obtain ⟨xs, hf, hr, _⟩ := met_of_trod 9 plain26 h
  obtain ⟨r, rfl, h1⟩ := ev_of0 hf
  exact ⟨r, h1, rep_agg (by intro x hx; simp only [List.mem_cons, List.not_mem_nil, or_false] at hx; rcases hx with rfl | rfl | rfl | rfl | rfl | rfl <;> rfl) hr⟩
end Go.Proofs.YtojgjdcciojpeaaGreat
set_option linter.unusedSimpArgs false
set_option linter.unusedVariables false
namespace Go.Proofs.YtojgjdcciojpeaaGreat
open Go Go.PS Go.ChangeShapes Go.WideShapes Go.ChangeAt Go.RowKit
set_option maxRecDepth 100000
set_option maxHeartbeats 4000000
theorem ccells78 : Tryz.prog.cellsOf 78 = 4 := by kernel_rfl
theorem plain78 : plainB Tryz.prog 9 78 = true := by kernel_rfl
theorem plain76 : plainB Tryz.prog 9 76 = true := by kernel_rfl
theorem rw_of0 {xs : List D} (h : Fits Tryz.prog [78] xs) : ∃ r : Rw, xs = [.int .u8 r.k, .int .u8 r.a, .int .u8 r.b, .int .u8 r.c] ∧ r.ok := by
  obtain ⟨ys, xs, rfl, hy, hx⟩ := h.strct_inv Tryz.underlying78
  cases hx.nil_inv
  have hy1 : Fits Tryz.prog [5, 5, 5, 5] ys := hy
  obtain ⟨k, ys1, rfl, hk, hy2⟩ := hy1.int_inv Tryz.underlying5
  obtain ⟨a, ys2, rfl, ha, hy3⟩ := hy2.int_inv Tryz.underlying5
  obtain ⟨b, ys3, rfl, hb, hy4⟩ := hy3.int_inv Tryz.underlying5
  obtain ⟨c, ys4, rfl, hc, hy5⟩ := hy4.int_inv Tryz.underlying5
  cases hy5.nil_inv
  exact ⟨⟨k, a, b, c⟩, rfl, u8_bd' hk, u8_bd' ha, u8_bd' hb, u8_bd' hc⟩
theorem rw_of (zs : List D) (h : Fits Tryz.prog [78] zs) : ∃ r : Rw, asElem Tryz.prog 78 zs = r.d ∧ r.ok := by
  obtain ⟨r, rfl, h1⟩ := rw_of0 h
  exact ⟨r, by simp only [asElem, Tryz.underlying78, Rw.d], h1⟩
theorem arg_rw {H : Type} {enc : TypeId × Value → H} {W : World} {base : Nat} {v : Value} {d : DataW H} {p : List MemPlace} {sp : Nat → Bool} (hok : Value.okWide Tryz.prog W .any base 78 v) (h : DataW.Trod enc Tryz.prog W 0 sp true 78 v d p) :
    ∃ r : Rw, r.ok ∧ RepD (KAll W) r.d v := by
  obtain ⟨cs, rfl⟩ := okWide_strct Tryz.underlying78 hok
  obtain ⟨xs, hf, hr, _⟩ := met_of_trod 9 plain78 h
  obtain ⟨r, rfl, h1⟩ := rw_of0 hf
  exact ⟨r, h1, rep_agg (by intro x hx; simp only [List.mem_cons, List.not_mem_nil, or_false] at hx; rcases hx with rfl | rfl | rfl | rfl <;> rfl) hr⟩
theorem cs_of0 {xs : List D} (h : Fits Tryz.prog [76] xs) : ∃ r : Cs, xs = [.sl 2 (r.B.map bpD), .sl 3 (r.T.map t3D), .sl 4 (r.L.map Rw.d)] ∧ r.ok := by
  obtain ⟨ys, xs, rfl, hy, hx⟩ := h.strct_inv Tryz.underlying76
  cases hx.nil_inv
  have hy1 : Fits Tryz.prog [22, 38, 74] ys := hy
  obtain ⟨B, ys1, rfl, hB1, hB2, hy2⟩ := hy1.list_inv bpD _ Tryz.underlying22 ccells119 bp_of
  obtain ⟨U, ys2, rfl, hT1, hT2, hy3⟩ := hy2.list_inv t3D _ Tryz.underlying38 ccells37 t3_of
  obtain ⟨L, ys3, rfl, hL1, hL2, hy4⟩ := hy3.list_inv Rw.d _ Tryz.underlying74 ccells78 rw_of
  cases hy4.nil_inv
  exact ⟨⟨B, U, L⟩, rfl, ⟨hB1, hB2⟩, ⟨hT1, hT2⟩, ⟨hL1, hL2⟩⟩
theorem arg_cs {H : Type} {enc : TypeId × Value → H} {W : World} {base : Nat} {v : Value} {d : DataW H} {p : List MemPlace} {sp : Nat → Bool} (hok : Value.okWide Tryz.prog W .any base 76 v) (h : DataW.Trod enc Tryz.prog W 0 sp true 76 v d p) :
    ∃ r : Cs, r.ok ∧ RepD (KAll W) r.d v := by
  obtain ⟨cs, rfl⟩ := okWide_strct Tryz.underlying76 hok
  obtain ⟨xs, hf, hr, _⟩ := met_of_trod 9 plain76 h
  obtain ⟨r, rfl, h1⟩ := cs_of0 hf
  exact ⟨r, h1, rep_agg (by intro x hx; simp only [List.mem_cons, List.not_mem_nil, or_false] at hx; rcases hx with rfl | rfl | rfl <;> rfl) hr⟩
end Go.Proofs.YtojgjdcciojpeaaGreat

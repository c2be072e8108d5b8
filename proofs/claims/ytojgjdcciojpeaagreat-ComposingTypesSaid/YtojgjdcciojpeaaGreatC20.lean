/-
  A part of the walks of this seat: each theorem says what a function of the program gives. No condition beyond its own premises.
-/
import Derived.Test.YtojgjdcciojpeaaGreatC19
set_option linter.unusedSimpArgs false
set_option linter.unusedVariables false
namespace Go.Proofs.YtojgjdcciojpeaaGreat
open Go Go.PS
set_option maxRecDepth 100000
set_option maxHeartbeats 4000000
theorem first_in {l : List (List Ch)} {i : Nat} (h : i < l.length) (h0 : 0 < (l.getD i []).length) : firstTo l (i + 1) = firstTo l i ++ [UInt8.ofNat ((l.getD i []).getD 0 default).k.toNat] := by
  have e : l.getD i [] = l[i] := by simp [h]
  rw [e] at h0 ⊢
  unfold firstTo
  rw [List.take_succ_eq_append_getElem h, List.filter_append, List.map_append, List.filter_cons, if_pos (by simpa using h0)]; rfl
theorem first_out {l : List (List Ch)} {i : Nat} (h : i < l.length) (h0 : ¬ 0 < (l.getD i []).length) : firstTo l (i + 1) = firstTo l i := by
  have e : l.getD i [] = l[i] := by simp [h]
  rw [e] at h0
  unfold firstTo
  rw [List.take_succ_eq_append_getElem h, List.filter_append, List.map_append, List.filter_cons, if_neg (by simpa using h0)]; simp
theorem first_len (l : List (List Ch)) (i : Nat) : (firstTo l i).length ≤ i := by
  unfold firstTo
  rw [List.length_map]
  exact Nat.le_trans (List.length_filter_le _ _) (List.length_take_le _ _)
theorem first72 (c : Cp) (hl : c.sl.length ≤ 1000) (hs : ∀ s ∈ c.sl, slotOk s) : PCall Tryz.prog 72 [c.d] (.str (firstTo c.sl c.sl.length)) := by
  obtain ⟨ev, l, cu, pn, ch⟩ := c
  dsimp only at hl hs
  have e1 := mlen l
  have z0 : firstTo l 0 = [] := rfl
  refine enterP tabOk Tryz.func72 32 [0, 1, 2, 3, 4, 9, 18] [.tmp 2] rfl (r := [_]) rfl (h := ?_); intro E hK; simp only [go_sem]
  refine wgoF (@Cp.d.eq_1) ?_
  refine wlpF (Run.loopC (ι := { i : Nat // i ≤ l.length }) (U := fun i => [(3, .d (.str (firstTo l i.1))), (4, .d (.int .i64 i.1))]) (O := fun i => []) (K := fun _ => []) (μ := fun i => l.length - i.1) (i0 := ⟨0, by omega⟩)) (@z0) ?_
  rintro ⟨i, hi⟩ ih
  have hfl := first_len l i
  by_cases hlt : i < l.length
  · have h1 : (i : Int) < l.length := by omega
    have hget := sl_get hlt
    have e : l.getD i [] = l[i] := by simp [hlt]
    have hm := hs _ (List.getElem_mem hlt)
    rw [← e] at hm
    have hst := first_in hlt (by have := hm.1; omega)
    generalize l.getD i [] = s at hget hm hst
    obtain ⟨m1, m2, m3, m4⟩ := hm
    have hkt : 0 < s.length := by omega
    have c1 : (0 : Int) < s.length := by omega
    have hgk := ch_get hkt
    have ek : s.getD 0 default = s[0] := by simp [hkt]
    have hc := m3 _ (List.getElem_mem hkt)
    rw [← ek] at hc
    generalize s.getD 0 default = c at hgk hc hst
    obtain ⟨n1, n2, n3, n4⟩ := hc
    have hx : UInt8.ofNat c.k.toNat = UInt8.ofNat c.k.toNat := rfl
    simp only [go_sem]
    refine wgoF (And.intro (@h1) (And.intro (@e1) (And.intro (@hget) (And.intro (@hgk) (@c1))))) ?_
    exact wnxtF (ih ⟨i + 1, by omega⟩) (@hst)
  · have h1 : ¬ (i : Int) < l.length := by omega
    obtain rfl : i = l.length := by omega
    simp only [go_sem]
    refine wgoF (And.intro (@h1) (@e1)) ?_
    exact wret
/-! The fixed examples. -/
def bdE : Brd := ⟨0, [], 0, [], []⟩
theorem bdE_ck : ckOk bdE.cs := ⟨by simp [bdE], by intro c hc; simp [bdE] at hc⟩
def FE (e : Ev) : List (List Ch) × Int := slotE bdE.cs ([], 210) ([], 0) e
def lfE : Ev := ⟨7, [], [], [], 0, 0⟩
def erE : Ev := ⟨6, [], [], [], 0, 0⟩
def abE : Ev := ⟨5, [], [], [97, 98], 0, 0⟩
def hoE : Ev := ⟨9, [], [], [], 0, 2⟩
def coE : Ev := ⟨11, [], [], [], 0, 0⟩
def xxE : Ev := ⟨99, [], [], [], 0, 0⟩
def okE (e : Ev) : Bool := (((decide (e.keys.length ≤ 100) && decide (e.p.length ≤ 100)) && decide (e.text.length ≤ 100)) && decide (e.kind ≠ 4)) && ((FE e).1.all (fun s => decide (s.length ≤ 100)) && decide ((FE e).2 = 0 → e.kind ≠ 5 → (FE e).1.length = 1))
theorem okE_get {e : Ev} (h : okE e = true) : e.lok ∧ e.kind ≠ 4 ∧ (∀ s ∈ (FE e).1, s.length ≤ 100) ∧ ((FE e).2 = 0 → e.kind ≠ 5 → (FE e).1.length = 1) := by
  unfold okE at h
  simp only [Bool.and_eq_true, decide_eq_true_eq, List.all_eq_true] at h
  obtain ⟨⟨⟨⟨h1, h2⟩, h3⟩, h4⟩, h5, h6⟩ := h
  exact ⟨⟨by omega, by omega, by omega⟩, h4, h5, h6⟩
theorem doE (c : Cp) (h : c.ok) (e : Ev) (he : okE e = true) : PCall Tryz.prog 38 [c.d, bdE.d, .sl 0 [], e.d] (rC (doR (FE e) c e)) := by
  obtain ⟨h1, h2, h3, h4⟩ := okE_get he
  exact do38 bdE 0 [] c h e h1 (FE e) (slotEx bdE rfl bdE_ck 0 [] e h1 h2) h4
theorem scrE (l : List Ev) (hl : l.all okE = true) (hn : l.length ≤ 100) : PCall Tryz.prog 41 [emC.d, bdE.d, .sl 6 (l.map Ev.d)] (rC (scrTo FE emC l l.length)) := by
  rw [List.all_eq_true] at hl
  exact script41 FE bdE emC em_good l (by omega) (fun e he => (okE_get (hl e he)).1) (fun e he => (okE_get (hl e he)).2.2.1) (fun c hc e he => doE c hc e (hl e he))
def cS1 : Cp := ⟨[kE 97, kE 99, kE 98], [[⟨97, 0⟩], [⟨99, 0⟩], [⟨98, 0⟩]], 2, [], 0⟩
def cS2 : Cp := ⟨[kE 97, kE 98, kE 99], [[⟨97, 0⟩], [⟨98, 0⟩], [⟨99, 0⟩]], 3, [⟨0, 2, -1⟩], 0⟩
theorem rS1 : scrTo FE emC [kE 97, kE 98, lfE, kE 99] 4 = (cS1, 4) := by decide +kernel
theorem rS2 : scrTo FE emC [abE, hoE, kE 99] 3 = (cS2, 3) := by decide +kernel
theorem rS3 : scrTo FE emC [abE, hoE, lfE, kE 99, coE, xxE] 6 = (cS1, 4) := by decide +kernel
theorem rD1 : doR (FE erE) emC erE = (emC, 310) := by decide +kernel
theorem rD2 : doR (FE hoE) emC hoE = (emC, 180) := by decide +kernel
theorem rD3 : doR (FE coE) emC coE = (emC, 10) := by decide +kernel
theorem cS1_full : cS1.full := by
  refine ⟨⟨⟨rfl, by decide, by decide, by decide, by decide⟩, ?_, ?_⟩, ?_, ?_, by decide, by decide⟩
  · intro x hx
    simp only [cS1, List.mem_cons, List.not_mem_nil, or_false] at hx
    rcases hx with rfl | rfl | rfl <;> exact kE_lok _
  · intro x hx
    simp only [cS1, List.mem_cons, List.not_mem_nil, or_false] at hx
    rcases hx with rfl | rfl | rfl <;> decide
  · intro x hx
    simp only [cS1, List.mem_cons, List.not_mem_nil, or_false] at hx
    rcases hx with rfl | rfl | rfl <;> (refine kE_valid ?_; decide)
  · intro x hx
    simp only [cS1, List.mem_cons, List.not_mem_nil, or_false] at hx
    rcases hx with rfl | rfl | rfl
    · exact byte_slotOk (ch := 97) (by decide)
    · exact byte_slotOk (ch := 99) (by decide)
    · exact byte_slotOk (ch := 98) (by decide)
theorem cS2_full : cS2.full := by
  refine ⟨⟨⟨rfl, by decide, by decide, by decide, by decide⟩, ?_, ?_⟩, ?_, ?_, by decide, by decide⟩
  · intro x hx
    simp only [cS2, List.mem_cons, List.not_mem_nil, or_false] at hx
    rcases hx with rfl | rfl | rfl <;> exact kE_lok _
  · intro x hx
    simp only [cS2, List.mem_cons, List.not_mem_nil, or_false] at hx
    rcases hx with rfl | rfl | rfl <;> decide
  · intro x hx
    simp only [cS2, List.mem_cons, List.not_mem_nil, or_false] at hx
    rcases hx with rfl | rfl | rfl <;> (refine kE_valid ?_; decide)
  · intro x hx
    simp only [cS2, List.mem_cons, List.not_mem_nil, or_false] at hx
    rcases hx with rfl | rfl | rfl
    · exact byte_slotOk (ch := 97) (by decide)
    · exact byte_slotOk (ch := 98) (by decide)
    · exact byte_slotOk (ch := 99) (by decide)
theorem bad47 : PCall Tryz.prog 47 [(⟨[], [], 1, [], 0⟩ : Cp).d] (.bool false) := by
  have s1 := lvalid79 [] (by simp) (by simp)
  refine enterP tabOk Tryz.func47 70 [0, 1, 2, 3, 5, 23, 25, 26, 27, 28, 43] [.tmp 2] rfl (r := [_]) rfl (h := ?_); intro E hK; simp only [go_sem]
  refine wgoF (@Cp.d.eq_1) ?_
  refine wcallF (s1) (@slsD.eq_1) ?_
  refine wgo ?_
  refine run_loop ?_
  refine wgo ?_
  exact wret
theorem sanity34 : PCall Tryz.prog 34 [] (.bool true) := by
  have k1 := key52 [97]
  have k2 := key52 [98]
  have k3 := key52 [99]
  have s1 := scrE [kE 97, kE 98, lfE, kE 99] (by decide +kernel) (by decide)
  have s2 := scrE [abE, hoE, kE 99] (by decide +kernel) (by decide)
  have s3 := scrE [abE, hoE, lfE, kE 99, coE, xxE] (by decide +kernel) (by decide)
  have d1 := doE emC em_good.1 erE (by decide +kernel)
  have d2 := doE emC em_good.1 hoE (by decide +kernel)
  have d3 := doE emC em_good.1 coE (by decide +kernel)
  rw [show [kE 97, kE 98, lfE, kE 99].length = 4 from rfl, rS1] at s1
  rw [show [abE, hoE, kE 99].length = 3 from rfl, rS2] at s2
  rw [show [abE, hoE, lfE, kE 99, coE, xxE].length = 6 from rfl, rS3] at s3
  rw [rD1] at d1
  rw [rD2] at d2
  rw [rD3] at d3
  have f1 := first72 cS1 (by decide) cS1_full.2.2.1
  have f2 := first72 cS2 (by decide) cS2_full.2.2.1
  have g1 : firstTo cS1.sl cS1.sl.length = [97, 99, 98] := by decide
  have g2 : firstTo cS2.sl cS2.sl.length = [97, 98, 99] := by decide
  rw [g1] at f1
  rw [g2] at f2
  have p1 := psame51 [⟨0, 2, -1⟩] (by simp)
  have cc1 := csame40 emC em_good.1 em_good.2.1 (fun s hs => by simp [emC] at hs)
  have v1 := valid47 cS2 cS2_full
  have v2 := bad47
  have n := new44
  have a1 : cS1.cu = 2 := rfl
  have a2 : cS1.pn = [] := rfl
  have b1 : cS2.cu = 3 := rfl
  have b2 : cS2.pn = [⟨0, 2, -1⟩] := rfl
  generalize cS1 = c1 at s1 s3 f1 a1 a2
  generalize cS2 = c2 at s2 f2 v1 b1 b2
  obtain ⟨ev1, sl1, cu1, pn1, ch1⟩ := c1
  obtain ⟨ev2, sl2, cu2, pn2, ch2⟩ := c2
  dsimp only at a1 a2 b1 b2
  subst a1 a2 b1 b2
  refine enterP tabOk Tryz.func34 152 [0, 1, 2, 3, 4, 5, 6, 7, 8, 9, 10, 12, 14, 16, 17] [.tmp 0] rfl (r := [_]) rfl (h := ?_); intro E hK; simp only [go_sem]
  refine wgo ?_
  refine wcall (n) ?_
  refine wgo ?_
  refine wcall (k1) ?_
  refine wgo ?_
  refine wcall (k2) ?_
  refine wgo ?_
  refine wcall (k3) ?_
  refine wgo ?_
  refine wcallF (s1) (And.intro (@Cp.d.eq_1) (And.intro (@emC.eq_1) (And.intro (@Brd.d.eq_1) (And.intro (@bdE.eq_1) (And.intro (@Ev.d.eq_1) (And.intro (@kE.eq_1) (@lfE.eq_1))))))) ?_
  refine wgoF (And.intro (@rC.eq_1) (And.intro (@Cp.d.eq_1) (@emC.eq_1))) ?_
  refine wcall (n) ?_
  refine wgo ?_
  refine wcall (k3) ?_
  refine wgo ?_
  refine wcallF (s2) (And.intro (@Cp.d.eq_1) (And.intro (@emC.eq_1) (And.intro (@Brd.d.eq_1) (And.intro (@bdE.eq_1) (And.intro (@Ev.d.eq_1) (And.intro (@kE.eq_1) (And.intro (@abE.eq_1) (@hoE.eq_1)))))))) ?_
  refine wgoF (And.intro (@rC.eq_1) (And.intro (@Cp.d.eq_1) (@emC.eq_1))) ?_
  refine wcall (n) ?_
  refine wgo ?_
  refine wcall (k3) ?_
  refine wgo ?_
  refine wcallF (s3) (And.intro (@Cp.d.eq_1) (And.intro (@emC.eq_1) (And.intro (@Brd.d.eq_1) (And.intro (@bdE.eq_1) (And.intro (@Ev.d.eq_1) (And.intro (@kE.eq_1) (And.intro (@abE.eq_1) (And.intro (@hoE.eq_1) (And.intro (@lfE.eq_1) (And.intro (@coE.eq_1) (@xxE.eq_1))))))))))) ?_
  refine wgoF (And.intro (@rC.eq_1) (And.intro (@Cp.d.eq_1) (@emC.eq_1))) ?_
  refine wcall (n) ?_
  refine wgo ?_
  refine wcallF (d1) (And.intro (@Cp.d.eq_1) (And.intro (@emC.eq_1) (And.intro (@Brd.d.eq_1) (And.intro (@bdE.eq_1) (And.intro (@Ev.d.eq_1) (@erE.eq_1)))))) ?_
  refine wgoF (And.intro (@rC.eq_1) (And.intro (@Cp.d.eq_1) (@emC.eq_1))) ?_
  refine wcall (n) ?_
  refine wgo ?_
  refine wcallF (d2) (And.intro (@Cp.d.eq_1) (And.intro (@emC.eq_1) (And.intro (@Brd.d.eq_1) (And.intro (@bdE.eq_1) (And.intro (@Ev.d.eq_1) (@hoE.eq_1)))))) ?_
  refine wgoF (And.intro (@rC.eq_1) (And.intro (@Cp.d.eq_1) (@emC.eq_1))) ?_
  refine wcall (n) ?_
  refine wgo ?_
  refine wcallF (d3) (And.intro (@Cp.d.eq_1) (And.intro (@emC.eq_1) (And.intro (@Brd.d.eq_1) (And.intro (@bdE.eq_1) (And.intro (@Ev.d.eq_1) (@coE.eq_1)))))) ?_
  refine wgoF (And.intro (@rC.eq_1) (And.intro (@Cp.d.eq_1) (@emC.eq_1))) ?_
  refine wcallF (f1) (@Cp.d.eq_1) ?_
  refine wgo ?_
  refine wcallF (f2) (@Cp.d.eq_1) ?_
  refine wgo ?_
  refine wcallF (f1) (@Cp.d.eq_1) ?_
  refine wgoF (And.intro (@Cp.d.eq_1) (@Pn.d.eq_1)) ?_
  refine wcallF (p1) (@Pn.d.eq_1) ?_
  refine wgo ?_
  refine wcall (n) ?_
  refine wgo ?_
  refine wcallF (cc1) (And.intro (@Cp.d.eq_1) (@emC.eq_1)) ?_
  refine wgo ?_
  refine wcallF (v1) (@Cp.d.eq_1) ?_
  refine wgo ?_
  refine wcallF (v2) (@Cp.d.eq_1) ?_
  refine wgo ?_
  exact wret
end Go.Proofs.YtojgjdcciojpeaaGreat
set_option linter.unusedSimpArgs false
set_option linter.unusedVariables false
namespace Go.Proofs.YtojgjdcciojpeaaGreat
open Go Go.PS
set_option maxRecDepth 100000
set_option maxHeartbeats 4000000
/-! Compositions on the boards of cases. -/
def csF (x : Cs) (e : Ev) : List (List Ch) × Int := slotX (madeA x.B) (tapsF x.T) e
def csF0 (x : Cs) (e : Ev) : List (List Ch) × Int := slotX (madeA x.B) [] e
theorem csF_ok {x : Cs} (hx : x.ok) (e : Ev) : slOk e (csF x e) := by
  obtain ⟨hA, hk⟩ := madeA_ok hx.1
  obtain ⟨h1, h2, h3, h4, h5⟩ := slotX_ok hA hk (tapsF x.T) e
  exact ⟨h1, fun h => (h5 h).2.2.2⟩
theorem csF0_ok {x : Cs} (hx : x.ok) (e : Ev) : slOk e (csF0 x e) := by
  obtain ⟨hA, hk⟩ := madeA_ok hx.1
  obtain ⟨h1, h2, h3, h4, h5⟩ := slotX_ok hA hk [] e
  exact ⟨h1, fun h => (h5 h).2.2.2⟩
theorem sl_100 {e : Ev} {r : List (List Ch) × Int} (h : slOk e r) : ∀ s ∈ r.1, s.length ≤ 100 := fun s hs => by have := (h.1 s hs).2.1; omega
theorem tp_nil : tpOk [] := ⟨by simp, by simp⟩
theorem doP {x : Cs} (hx : x.ok) {c : Cp} (h : c.ok) {e : Ev} (he : e.lok) : PCall Tryz.prog 38 [c.d, (madeB x.B).d, .sl 4 ((tapsF x.T).map Tap.d), e.d] (rC (doR (csF x e) c e)) :=
  do38 (madeB x.B) 4 _ c h e he (csF x e) (slotM hx.1 4 (tapsF x.T) (taps_ok hx.2.1) (fun _ => rfl) e he) (csF_ok hx e).2
theorem doQ {x : Cs} (hx : x.ok) {c : Cp} (h : c.ok) {e : Ev} (he : e.lok) : PCall Tryz.prog 39 [c.d, bdT (madeB x.B) 4 ((tapsF x.T).map Tap.d), e.d] (rC (doR (csF x e) c e)) :=
  do39 (madeB x.B) 4 _ c h e he (csF x e) (slotR hx.1 4 (tapsF x.T) (taps_ok hx.2.1) (fun _ => rfl) e he) (csF_ok hx e).2
theorem doP0 {x : Cs} (hx : x.ok) {c : Cp} (h : c.ok) {e : Ev} (he : e.lok) : PCall Tryz.prog 38 [c.d, (madeB x.B).d, .sl 0 [], e.d] (rC (doR (csF0 x e) c e)) :=
  do38 (madeB x.B) 0 [] c h e he (csF0 x e) (slotM hx.1 0 [] tp_nil (fun h => absurd rfl h) e he) (csF0_ok hx e).2
theorem doQ0 {x : Cs} (hx : x.ok) {c : Cp} (h : c.ok) {e : Ev} (he : e.lok) : PCall Tryz.prog 39 [c.d, bdT (madeB x.B) 0 [], e.d] (rC (doR (csF0 x e) c e)) :=
  do39 (madeB x.B) 0 [] c h e he (csF0 x e) (slotR hx.1 0 [] tp_nil (fun h => absurd rfl h) e he) (csF0_ok hx e).2
theorem scrP {x : Cs} (hx : x.ok) {c : Cp} (h : c.good) (l : List Ev) (hn : l.length ≤ 1000) (hl : ∀ e ∈ l, e.lok) : PCall Tryz.prog 41 [c.d, (madeB x.B).d, .sl 6 (l.map Ev.d)] (rC (scrTo (csF0 x) c l l.length)) :=
  script41 (csF0 x) (madeB x.B) c h l hn hl (fun e _ => sl_100 (csF0_ok hx e)) (fun c hc e he => doP0 hx hc (hl e he))
theorem scrQ {x : Cs} (hx : x.ok) {c : Cp} (h : c.good) (l : List Ev) (hn : l.length ≤ 1000) (hl : ∀ e ∈ l, e.lok) : PCall Tryz.prog 43 [c.d, (madeB x.B).d, .sl 6 (l.map Ev.d)] (rC (scrTo (csF0 x) c l l.length)) :=
  script43 (csF0 x) (madeB x.B) c h l hn hl (fun e _ => sl_100 (csF0_ok hx e)) (fun c hc e he => doQ0 hx hc (hl e he))
theorem begX {x : Cs} (hx : x.ok) (n : Nat) (hn : n ≤ 1000) : PCall Tryz.prog 35 [x.d, .int .i64 n] (begF (csF x) (evsR x.L n)).d :=
  begun35 (csF x) x hx n hn (fun e _ => sl_100 (csF_ok hx e)) (fun c hc e he => doQ hx hc (evsR_lok _ _ e he))
theorem scr_full {F : Ev → List (List Ch) × Int} (hF : ∀ e, slOk e (F e)) {c : Cp} (h : c.full) {l : List Ev} (hl : ∀ e ∈ l, e.lok) : ∀ i, i ≤ l.length → (scrTo F c l i).1.full
  | 0, _ => h
  | i + 1, hi => by
    have h1 := scr_full hF h hl i (by omega)
    rw [scr_step F c (by omega)]
    have hm := getD_memE (l := l) (i := i) (by omega)
    unfold stepR
    split
    · exact do_full h1 (hl _ hm) (hF _)
    · exact h1
theorem beg_full {x : Cs} (hx : x.ok) (n : Nat) : (begF (csF x) (evsR x.L n)).full := scr_full (csF_ok hx) em_full (evsR_lok _ _) _ (Nat.le_refl _)
theorem do_err (F : List (List Ch) × Int) (c : Cp) (e : Ev) (h : (doR F c e).2 ≠ 0) : (doR F c e).1 = c := by
  unfold doR at h ⊢
  split
  · rfl
  rename_i h1
  rw [if_neg h1] at h
  split
  · rename_i h2
    rw [if_pos h2] at h
    exact slot_err _ _ _ h
  rename_i h2
  rw [if_neg h2] at h
  split
  · rename_i h3
    rw [if_pos h3] at h
    exact pas_err _ _ h
  rename_i h3
  rw [if_neg h3] at h
  split
  · rename_i h4
    rw [if_pos h4] at h
    split
    · rfl
    · rename_i h5
      rw [if_neg h5] at h
      exact absurd rfl h
  rename_i h4
  rw [if_neg h4] at h
  split
  · rename_i h5
    rw [if_pos h5] at h
    exact moved_err _ _ h
  rename_i h5
  rw [if_neg h5] at h
  split
  · rename_i h6
    rw [if_pos h6] at h
    exact moved_err _ _ h
  rename_i h6
  rw [if_neg h6] at h
  split
  · rename_i h7
    rw [if_pos h7] at h
    exact held_err _ _ h
  rename_i h7
  rw [if_neg h7] at h
  split
  · rename_i h8
    rw [if_pos h8] at h
    exact absurd rfl h
  rename_i h8
  rw [if_neg h8] at h
  split
  · rename_i h9
    rw [if_pos h9] at h
    exact absurd rfl h
  · rfl
theorem full_same {c : Cp} (h : c.full) : PCall Tryz.prog 40 [c.d, c.d] (.bool true) :=
  csame40 c h.1.1 h.1.2.1 (fun s hs => by have := h.1.2.2 s hs; omega)
end Go.Proofs.YtojgjdcciojpeaaGreat
set_option linter.unusedSimpArgs false
set_option linter.unusedVariables false
namespace Go.Proofs.YtojgjdcciojpeaaGreat
open Go Go.PS
set_option maxRecDepth 100000
set_option maxHeartbeats 4000000
/-! Plain facts for the laws of compositions. -/
theorem step_do (F : Ev → List (List Ch) × Int) (r : Cp × Int) (e : Ev) : (stepR F r e).1 = (doR (F e) r.1 e).1 := by
  unfold stepR
  split
  · rfl
  · rename_i h
    exact (do_err _ _ _ h).symm
theorem del_ins (a n : Int) : ∀ {l : List Pn} {e : Int}, pvTo n l e = true → delF (insF l a) a = l.filter (fun p => decide (a ≤ p.f) || decide (p.t ≤ a))
  | [], _, _ => rfl
  | p :: r, e, h => by
    obtain ⟨h1, h2⟩ := pv_cons h
    have ih := del_ins a n h2
    rw [ins_cons, List.filter_cons]
    by_cases c1 : a ≤ p.f
    · have hk : kI a p = true := by unfold kI; rw [decide_eq_true c1]; rfl
      have hs : shI a p = ⟨p.f + 1, p.t + 1, p.w⟩ := if_pos c1
      have hd : kD a ⟨p.f + 1, p.t + 1, p.w⟩ = true := by unfold kD; rw [decide_eq_true (show a < p.f + 1 by omega)]; rfl
      have hs2 : shD a ⟨p.f + 1, p.t + 1, p.w⟩ = p := by
        have : shD a ⟨p.f + 1, p.t + 1, p.w⟩ = ⟨p.f + 1 - 1, p.t + 1 - 1, p.w⟩ := if_pos (show a < p.f + 1 by omega)
        rw [this, Int.add_sub_cancel, Int.add_sub_cancel]
      rw [if_pos hk, hs, del_cons, if_pos hd, hs2, ih, decide_eq_true c1]; rfl
    · have hs : shI a p = p := if_neg c1
      by_cases c2 : p.t ≤ a
      · have hk : kI a p = true := by unfold kI; rw [decide_eq_true c2, Bool.or_true]
        have hd : kD a p = true := by unfold kD; rw [decide_eq_true c2, Bool.or_true]
        have hs2 : shD a p = p := if_neg (by omega)
        rw [if_pos hk, hs, del_cons, if_pos hd, hs2, ih, decide_eq_true c2, Bool.or_true]; rfl
      · have hk : kI a p = false := by unfold kI; rw [decide_eq_false c1, decide_eq_false c2]; rfl
        rw [hk, if_neg (by simp), ih, decide_eq_false c1, decide_eq_false c2]; rfl
theorem del_insAt {α : Type} {l : List α} {n : Nat} (h : n ≤ l.length) (v : α) : delAt (insAt l n v) n = l := by
  have h1 : (l.take n).length = n := by simp; omega
  have e1 : List.take n (insAt l n v) = l.take n := by
    unfold insAt
    rw [List.take_append_of_le_length (by omega), List.take_of_length_le (by omega)]
  have e2 : List.drop (n + 1) (insAt l n v) = l.drop n := by
    unfold insAt
    rw [List.drop_append, List.drop_of_length_le (by omega), h1, show n + 1 - n = 1 by omega]; rfl
  unfold delAt
  rw [e1, e2, List.take_append_drop]
theorem ins_take {α : Type} {l : List α} {n : Nat} (h : n ≤ l.length) (v : α) : List.take n (insAt l n v) = l.take n := by
  unfold insAt
  rw [List.take_append_of_le_length (by simp; omega), List.take_of_length_le (by simp; omega)]
theorem ins_drop {α : Type} {l : List α} {n : Nat} (h : n ≤ l.length) (v : α) : List.drop (n + 1) (insAt l n v) = l.drop n := by
  have h1 : (l.take n).length = n := by simp; omega
  unfold insAt
  rw [List.drop_append, List.drop_of_length_le (by omega), h1, show n + 1 - n = 1 by omega]; rfl
theorem ins_at {α : Type} [Inhabited α] {l : List α} {n : Nat} (h : n ≤ l.length) (v : α) : (insAt l n v).getD n default = v := by
  have h1 : (l.take n).length = n := by simp; omega
  unfold insAt
  rw [List.getD_eq_getElem?_getD, List.getElem?_append_right (by omega), h1, Nat.sub_self]; rfl
theorem ins_length {α : Type} {l : List α} {n : Nat} (h : n ≤ l.length) (v : α) : (insAt l n v).length = l.length + 1 := by
  simp [insAt]; omega
theorem er_typed {c : Cp} (h : c.ok) (e : Ev) (s : List Ch) : erasedC (typedC c e s) = ⟨c.ev, c.sl, c.cu, c.pn.filter (fun p => decide (c.cu ≤ p.f) || decide (p.t ≤ c.cu)), 0⟩ := by
  obtain ⟨h1, h2, h3, h4, h5⟩ := h
  have e1 : (c.cu + 1 - 1) = c.cu := by omega
  have e2 : (typedC c e s).cu - 1 = c.cu := e1
  unfold erasedC
  rw [e2, show (typedC c e s).ev = insAt c.ev c.cu.toNat e from rfl, show (typedC c e s).sl = insAt c.sl c.cu.toNat s from rfl, show (typedC c e s).pn = insF c.pn c.cu from rfl,
    del_insAt (by omega), del_insAt (by omega), del_ins c.cu _ h5]
theorem do_slot {F : List (List Ch) × Int} {c : Cp} {e : Ev} (h : hasS e = true) (hv : validE e = true) : doR F c e = slotR31 F c e := by
  unfold doR
  rw [hv, if_neg (by simp), if_pos (has_iff.1 h)]
theorem do_erase {F : List (List Ch) × Int} {c : Cp} (h0 : 1 ≤ c.cu) : doR F c erE = (erasedC c, 0) := by
  unfold doR
  rw [show validE erE = true from by decide, if_neg (by simp), if_neg (by decide), if_neg (by decide), if_pos (by decide), if_neg (by omega)]
def riE : Ev := ⟨8, [], [], [], 0, 0⟩
theorem do_left {F : List (List Ch) × Int} {c : Cp} : doR F c lfE = movedR c (-1) := by
  unfold doR
  rw [show validE lfE = true from by decide, if_neg (by simp), if_neg (by decide), if_neg (by decide), if_neg (by decide), if_pos (by decide)]
theorem do_right {F : List (List Ch) × Int} {c : Cp} : doR F c riE = movedR c 1 := by
  unfold doR
  rw [show validE riE = true from by decide, if_neg (by simp), if_neg (by decide), if_neg (by decide), if_neg (by decide), if_neg (by decide), if_pos (by decide)]
theorem do_typed {F : List (List Ch) × Int} {c : Cp} {e : Ev} (h : hasS e = true) (h0 : (doR F c e).2 = 0) : validE e = true ∧ F.2 = 0 ∧ ¬ 40 ≤ c.sl.length ∧ (doR F c e).1 = typedC c e (F.1.getD 0 []) := by
  cases hv : validE e with
  | false =>
    unfold doR at h0
    rw [hv, if_pos rfl] at h0
    exact absurd h0 (by simp)
  | true =>
    rw [do_slot h hv] at h0 ⊢
    unfold slotR31 at h0 ⊢
    by_cases q1 : ¬ F.2 = 0
    · rw [if_pos q1] at h0
      exact absurd h0 q1
    · rw [if_neg q1] at h0 ⊢
      by_cases q2 : 40 ≤ c.sl.length
      · rw [if_pos q2] at h0
        exact absurd h0 (by simp)
      · rw [if_neg q2]
        exact ⟨rfl, Classical.not_not.1 q1, q2, rfl⟩
theorem moved_lr {c : Cp} (h : c.ok) (h0 : 0 < c.cu) : movedR c (-1) = ({ c with cu := c.cu - 1 }, 0) ∧ movedR { c with cu := c.cu - 1 } 1 = (c, 0) := by
  obtain ⟨h1, h2, h3, h4, h5⟩ := h
  constructor
  · unfold movedR; rw [if_neg (by omega)]; rfl
  · unfold movedR
    dsimp only
    rw [if_neg (by omega), Int.sub_add_cancel]
theorem moved_rl {c : Cp} (h : c.ok) (h0 : c.cu < c.sl.length) : movedR c 1 = ({ c with cu := c.cu + 1 }, 0) ∧ movedR { c with cu := c.cu + 1 } (-1) = (c, 0) := by
  obtain ⟨h1, h2, h3, h4, h5⟩ := h
  constructor
  · unfold movedR; rw [if_neg (by omega)]
  · unfold movedR
    dsimp only
    rw [if_neg (by omega), Int.add_neg_cancel_right]
/-- A key's slot on any board. -/
theorem slotX_key (A : List Ar) (U : List Tap) {ch : UInt8} (h : letB ch = true) : slotX A U (kE ch) = ([[byteC ch]], 0) := by
  have hv := (kE_valid h).2
  unfold slotX slotE
  rw [hv]
  rfl
theorem do_key {A : List Ar} {U : List Tap} {c : Cp} {ch : UInt8} (h : letB ch = true) (hl : c.sl.length < 40) : doR (slotX A U (kE ch)) c (kE ch) = (tyK c ch, 0) := by
  rw [do_slot (kE_valid h).1 (kE_valid h).2, slotX_key A U h]
  unfold slotR31
  rw [if_neg (by simp), if_neg (by omega)]; rfl
theorem do_key_big {A : List Ar} {U : List Tap} {c : Cp} {ch : UInt8} (h : letB ch = true) (hl : 40 ≤ c.sl.length) : doR (slotX A U (kE ch)) c (kE ch) = (c, 2) := by
  rw [do_slot (kE_valid h).1 (kE_valid h).2, slotX_key A U h]
  unfold slotR31
  rw [if_neg (by simp), if_pos hl]
def paE (t : List UInt8) : Ev := ⟨5, [], [], t, 0, 0⟩
theorem pa_valid {t : List UInt8} (h : t.all letB = true) (h1 : 1 ≤ t.length) (h2 : t.length ≤ 20) : validE (paE t) = true := by
  unfold validE paE
  rw [if_neg (show ¬ (5 : Int) = 1 by decide), if_neg (show ¬ (5 : Int) = 2 by decide), if_neg (show ¬ (5 : Int) = 3 by decide), if_neg (show ¬ (5 : Int) = 4 by decide), if_pos (show (5 : Int) = 5 from rfl)]
  simp [h, lets, Ev.noK, Ev.noP, Ev.noN, Ev.noL]
  omega
theorem do_paste {F : List (List Ch) × Int} {c : Cp} {t : List UInt8} (h : t.all letB = true) (h1 : 1 ≤ t.length) (h2 : t.length ≤ 20) : doR F c (paE t) = pasR c t := by
  unfold doR
  rw [pa_valid h h1 h2, if_neg (by simp), if_neg (by simp [paE]), if_pos (by simp [paE])]; rfl
def hlE (n l : Int) : Ev := ⟨9, [], [], [], n, l⟩
theorem do_hold {F : List (List Ch) × Int} {c : Cp} {n l : Int} (h1 : 0 ≤ n ∧ n < 40) (h2 : 1 ≤ l ∧ l ≤ 40) : doR F c (hlE n l) = heldR c (hlE n l) := by
  have hv : validE (hlE n l) = true := by
    unfold validE hlE
    rw [if_neg (show ¬ (9 : Int) = 1 by decide), if_neg (show ¬ (9 : Int) = 2 by decide), if_neg (show ¬ (9 : Int) = 3 by decide), if_neg (show ¬ (9 : Int) = 4 by decide), if_neg (show ¬ (9 : Int) = 5 by decide), if_pos (show (9 : Int) = 9 from rfl)]
    simp [Ev.noK, Ev.noP, Ev.noT]
    omega
  unfold doR
  rw [hv, if_neg (by simp), if_neg (by simp [hlE]), if_neg (by simp [hlE]), if_neg (by simp [hlE]), if_neg (by simp [hlE]), if_neg (by simp [hlE]), if_pos (by simp [hlE])]
end Go.Proofs.YtojgjdcciojpeaaGreat
set_option linter.unusedSimpArgs false
set_option linter.unusedVariables false
namespace Go.Proofs.YtojgjdcciojpeaaGreat
open Go Go.PS
set_option maxRecDepth 100000
set_option maxHeartbeats 4000000
/-- The statement ComposingKeeps holds. -/
theorem lawKeeps (x : Cs) (hx : x.ok) : PCall Tryz.prog 9 [x.d] (.bool true) := by
  have hb := board36 x hx
  have h42 : PCall Tryz.prog 42 [.sl 4 (x.L.map Rw.d), .int .i64 16] (.sl 6 ((evsR x.L 16).map Ev.d)) := events42 x.L 16 (by omega) hx.2.2
  have hel := evsR_len (l := x.L) (n := 16)
  have hlk := evsR_lok x.L 16
  generalize evsR x.L 16 = l at h42 hel hlk
  have hP : ∀ c : Cp, c.ok → ∀ e ∈ l, PCall Tryz.prog 38 [c.d, (madeB x.B).d, .sl 4 ((tapsF x.T).map Tap.d), e.d] (rC (doR (csF x e) c e)) := fun c hc e he => doP hx hc (hlk e he)
  have hfu := scr_full (csF_ok hx) em_full hlk
  generalize csF x = F at hP hfu
  generalize (tapsF x.T).map Tap.d = tp at hb hP
  generalize madeB x.B = bb at hb hP
  have hn := new44
  have z1 : (scrTo F emC l 0).1 = emC := rfl
  have z2 : emC.ev = [] := rfl
  have z3 : emC.sl = [] := rfl
  have z4 : emC.cu = 0 := rfl
  have z5 : emC.pn = [] := rfl
  have z6 : emC.ch = 0 := rfl
  refine enterP tabOk Tryz.func9 65 [0, 1, 2, 3, 4, 5, 6, 7, 8, 9, 10, 21, 62] [.tmp 2] rfl (r := [_]) rfl (h := ?_); intro E hK; simp only [go_sem]
  refine wgoF (@Cs.d.eq_1) ?_
  refine wcall (sanity34) ?_
  refine wgo ?_
  refine wcallF (hb) (@Cs.d.eq_1) ?_
  refine wgoF (@bdT.eq_1) ?_
  refine wcallF (h42) (@Rw.d.eq_1) ?_
  refine wgo ?_
  refine wcall (hn) ?_
  refine wgoF (And.intro (@Cp.d.eq_1) (@emC.eq_1)) ?_
  refine wlpF (Run.loopC (ι := { i : Nat // i ≤ l.length }) (U := fun i => [(7, .d (.int .i64 i.1))]) (O := fun i => [(6, some (cpO (scrTo F emC l i.1).1))]) (K := fun _ => []) (μ := fun i => l.length - i.1) (i0 := ⟨0, by omega⟩)) (And.intro (@cpO.eq_1) (And.intro (@z1) (And.intro (@z2) (And.intro (@z3) (And.intro (@z4) (And.intro (@z5) (@z6))))))) ?_
  rintro ⟨i, hi⟩ ih
  have g1 := hfu i hi
  by_cases hlt : i < l.length
  · have h1 : (i : Int) < l.length := by omega
    have hget := ev_get hlt
    have hst := scr_step F emC hlt
    have hd := hP (scrTo F emC l i).1 g1.1.1 _ (getD_memE hlt)
    have g2 := hfu (i + 1) (by omega)
    have hs1 : (scrTo F emC l (i + 1)).1 = (doR (F (l.getD i default)) (scrTo F emC l i).1 (l.getD i default)).1 := by rw [hst, step_do]
    have her := do_err (F (l.getD i default)) (scrTo F emC l i).1 (l.getD i default)
    rw [hs1] at g2
    generalize (scrTo F emC l i).1 = c at g1 hd hs1 her g2
    generalize l.getD i default = e at hget hd hs1 her g2
    have hcp := copied45 c g1.1.1
    have hv1 := valid46 _ g2
    have hv2 := valid47 _ g2
    have hsm := full_same g1
    generalize doR (F e) c e = q at hd hs1 her g2 hv1 hv2
    obtain ⟨c', x'⟩ := q
    dsimp only at hs1 her hv1 hv2
    by_cases hx' : x' = 0
    · subst hx'
      simp only [go_sem, cpO]
      refine wgoF (@h1) ?_
      refine wcallF (hcp) (@Cp.d.eq_1) ?_
      refine wgoF (And.intro (@h1) (And.intro (@hget) (@Cp.d.eq_1))) ?_
      refine wcallF (hd) (And.intro (@Cp.d.eq_1) (And.intro (@Ev.d.eq_1) (@bdT.eq_1))) ?_
      refine wgoF (And.intro (@rC.eq_1) (@Cp.d.eq_1)) ?_
      refine wcallF (hv1) (@Cp.d.eq_1) ?_
      refine wgo ?_
      refine wcallF (hv2) (@Cp.d.eq_1) ?_
      refine wgo ?_
      refine wcallF (hsm) (@Cp.d.eq_1) ?_
      refine wgo ?_
      exact wnxtF (ih ⟨i + 1, by omega⟩) (And.intro (@hs1) (@cpO.eq_1))
    · obtain rfl := her hx'
      simp only [go_sem, cpO]
      refine wgoF (@h1) ?_
      refine wcallF (hcp) (@Cp.d.eq_1) ?_
      refine wgoF (And.intro (@h1) (And.intro (@hget) (@Cp.d.eq_1))) ?_
      refine wcallF (hd) (And.intro (@Cp.d.eq_1) (And.intro (@Ev.d.eq_1) (@bdT.eq_1))) ?_
      refine wgoF (And.intro (@rC.eq_1) (@Cp.d.eq_1)) ?_
      refine wcallF (hv1) (@Cp.d.eq_1) ?_
      refine wgo ?_
      refine wcallF (hv2) (@Cp.d.eq_1) ?_
      refine wgo ?_
      refine wcallF (hsm) (@Cp.d.eq_1) ?_
      refine wgoF (@hx') ?_
      refine wcallF (hsm) (@Cp.d.eq_1) ?_
      refine wgoF (@hx') ?_
      exact wnxtF (ih ⟨i + 1, by omega⟩) (And.intro (@hs1) (@cpO.eq_1))
  · have h1 : ¬ (i : Int) < l.length := by omega
    simp only [go_sem, cpO]
    refine wgoF (@h1) ?_
    exact wret
end Go.Proofs.YtojgjdcciojpeaaGreat
set_option linter.unusedSimpArgs false
set_option linter.unusedVariables false
namespace Go.Proofs.YtojgjdcciojpeaaGreat
open Go Go.PS
set_option maxRecDepth 100000
set_option maxHeartbeats 4000000
theorem filter_ok {c : Cp} (h : c.full) : c.pn.length ≤ 1000 := h.1.1.pins.1
/-- The statement ComposingErases holds. -/
theorem lawErases (x : Cs) (y : Rw) (hx : x.ok) (hy : y.ok) : PCall Tryz.prog 10 [x.d, y.d] (.bool true) := by
  have hb := board36 x hx
  have hbg : PCall Tryz.prog 35 [x.d, .int .i64 12] (begF (csF x) (evsR x.L 12)).d := begX hx 12 (by omega)
  have hfu := beg_full hx 12
  have h37 := event37 y hy
  generalize begF (csF x) (evsR x.L 12) = c at hbg hfu
  have he := evR_lok y
  generalize evR y = e at h37 he
  have hd := doP hx hfu.1.1 he
  have hdo : ∀ c : Cp, c.ok → PCall Tryz.prog 38 [c.d, (madeB x.B).d, .sl 4 ((tapsF x.T).map Tap.d), erE.d] (rC (doR (csF x erE) c erE)) := fun c hc => doP hx hc ⟨by simp [erE], by simp [erE], by simp [erE]⟩
  have hok := csF_ok hx e
  have hh := has48 e
  generalize csF x = F at hd hdo hok
  generalize (tapsF x.T).map Tap.d = tp at hb hd hdo
  generalize madeB x.B = bb at hb hd hdo
  have key := do_typed (F := F e) (c := c) (e := e)
  by_cases hx' : (doR (F e) c e).2 = 0
  · cases hs : hasS e with
    | false =>
      rw [hs] at hh
      generalize doR (F e) c e = q at hd hx'
      obtain ⟨c', x'⟩ := q
      dsimp only at hx'
      subst hx'
      refine enterP tabOk Tryz.func10 123 [0, 1, 2, 3, 4, 5, 6, 7, 8, 9, 10, 11, 12, 13, 14, 38, 55, 77] [.tmp 4] rfl (r := [_]) rfl (h := ?_); intro E hK; simp only [go_sem]
      refine wgoF (And.intro (@Cs.d.eq_1) (@Rw.d.eq_1)) ?_
      refine wcall (sanity34) ?_
      refine wgoF (@Cs.d.eq_1) ?_
      refine wcallF (hb) (@Cs.d.eq_1) ?_
      refine wgoF (@bdT.eq_1) ?_
      refine wcallF (hbg) (@Cs.d.eq_1) ?_
      refine wgoF (@Cp.d.eq_1) ?_
      refine wcallF (h37) (@Rw.d.eq_1) ?_
      refine wgoF (@Ev.d.eq_1) ?_
      refine wcallF (hd) (And.intro (@Cp.d.eq_1) (And.intro (@Ev.d.eq_1) (@Brd.d.eq_1))) ?_
      refine wgoF (And.intro (@rC.eq_1) (@Cp.d.eq_1)) ?_
      refine wcallF (hh) (@Ev.d.eq_1) ?_
      refine wgo ?_
      exact wret
    | true =>
      rw [hs] at hh
      obtain ⟨hv, hF0, hbig, hty⟩ := key hs hx'
      have hlen : c.ev.length < 40 := by have := hfu.1.1.len; omega
      have hcp := typed_cp hfu.1.1 hlen e ((F e).1.getD 0 [])
      have hdr := hdo _ hcp
      rw [do_erase (by have := hfu.1.1.lo; simp [typedC]; omega), er_typed hfu.1.1] at hdr
      have hr : doR (F e) c e = (typedC c e ((F e).1.getD 0 []), 0) := Prod.ext hty hx'
      rw [hr] at hd
      generalize typedC c e ((F e).1.getD 0 []) = c' at hd hdr
      obtain ⟨⟨⟨l1, l2, l3, l4, l5⟩, l6, l7⟩, l8, l9, l10, l11⟩ := hfu
      have s1 := sameSlots49 c.sl (by omega) (fun s hs => by have := l9 s hs; have := this.2.1; omega)
      have s2 := sameAll50 c.ev (by omega) l6
      have hpl := (pv_ok (by omega) l5).1
      have hfe : fltTo (fun p => decide (c.cu ≤ p.f) || decide (p.t ≤ c.cu)) c.pn c.pn.length = c.pn.filter (fun p => decide (c.cu ≤ p.f) || decide (p.t ≤ c.cu)) := by unfold fltTo; rw [List.take_length]
      have hz : ∀ a : Int, decide (a = a) = true := fun a => decide_eq_true rfl
      have s3 := psame51 (c.pn.filter (fun p => decide (c.cu ≤ p.f) || decide (p.t ≤ c.cu))) (Nat.le_trans (List.length_filter_le _ _) hpl)
      refine enterP tabOk Tryz.func10 123 [0, 1, 2, 3, 4, 5, 6, 7, 8, 9, 10, 11, 12, 13, 14, 38, 55, 77] [.tmp 4] rfl (r := [_]) rfl (h := ?_); intro E hK; simp only [go_sem]
      refine wgoF (And.intro (@Cs.d.eq_1) (@Rw.d.eq_1)) ?_
      refine wcall (sanity34) ?_
      refine wgoF (@Cs.d.eq_1) ?_
      refine wcallF (hb) (@Cs.d.eq_1) ?_
      refine wgoF (@bdT.eq_1) ?_
      refine wcallF (hbg) (@Cs.d.eq_1) ?_
      refine wgoF (@Cp.d.eq_1) ?_
      refine wcallF (h37) (@Rw.d.eq_1) ?_
      refine wgoF (@Ev.d.eq_1) ?_
      refine wcallF (hd) (And.intro (@Cp.d.eq_1) (And.intro (@Ev.d.eq_1) (@Brd.d.eq_1))) ?_
      refine wgoF (And.intro (@rC.eq_1) (@Cp.d.eq_1)) ?_
      refine wcallF (hh) (@Ev.d.eq_1) ?_
      refine wgo ?_
      refine wcallF (hdr) (And.intro (@Cp.d.eq_1) (And.intro (@Ev.d.eq_1) (And.intro (@Brd.d.eq_1) (@erE.eq_1)))) ?_
      refine wgoF (And.intro (@rC.eq_1) (@Cp.d.eq_1)) ?_
      (apply Run.full 13 1013 101 3; (case hi => simp only [go_sem]; rfl); (case ht => simp only [go_sem]); (case hmn => first | exact Or.inl (by decide) | exact Or.inr rfl); (case hs => simp only [go_sem]; rfl))
      have z0 : fltTo (fun p => decide (c.cu ≤ p.f) || decide (p.t ≤ c.cu)) c.pn 0 = [] := rfl
      refine wlpF (Run.loopC (ι := { i : Nat // i ≤ c.pn.length }) (U := fun i => [(13, .own 3 ((fltTo (fun p => decide (c.cu ≤ p.f) || decide (p.t ≤ c.cu)) c.pn i.1).map Pn.d) (.tok 1013)), (14, .d (.int .i64 i.1))]) (O := fun i => []) (K := fun _ => [(1013, .live 101 3)]) (μ := fun i => c.pn.length - i.1) (i0 := ⟨0, by omega⟩)) (@z0) ?_
      rintro ⟨i, hi⟩ ih
      have hfl := flt_len (fun p => decide (c.cu ≤ p.f) || decide (p.t ≤ c.cu)) c.pn i
      by_cases hlt : i < c.pn.length
      · have h1 : (i : Int) < c.pn.length := by omega
        have hget := pn_get hlt
        have e1 := flt_in (fun p => decide (c.cu ≤ p.f) || decide (p.t ≤ c.cu)) hlt
        have e2 := flt_out (fun p => decide (c.cu ≤ p.f) || decide (p.t ≤ c.cu)) hlt
        generalize c.pn.getD i default = p at hget e1 e2
        cases hq : (decide (c.cu ≤ p.f) || decide (p.t ≤ c.cu)) with
        | true =>
          have e1 := e1 hq
          simp only [go_sem]
          refine wgoF (And.intro (@h1) (And.intro (@hget) (@hq))) ?_
          (apply Run.retok 85 1013; (case hk => simp only [go_sem]; rfl); (case ht => simp only [go_sem]; rfl); (case ht' => simp only [go_sem]); (case hs => simp only [go_sem]; rfl))
          exact wnxtF (ih ⟨i + 1, by omega⟩) (And.intro (@e1) (@Pn.d.eq_1))
        | false =>
          have e2 := e2 hq
          simp only [go_sem]
          refine wgoF (And.intro (@h1) (And.intro (@hget) (@hq))) ?_
          exact wnxtF (ih ⟨i + 1, by omega⟩) (@e2)
      · have h1 : ¬ (i : Int) < c.pn.length := by omega
        obtain rfl : i = c.pn.length := by omega
        simp only [go_sem, hfe]
        refine wgoF (@h1) ?_
        refine wcallF (s1) (@slsD.eq_1) ?_
        refine wgo ?_
        refine wcall (s2) ?_
        refine wgoF (@hz) ?_
        refine wcall (s3) ?_
        refine wgo ?_
        exact wret
  · generalize doR (F e) c e = q at hd hx'
    obtain ⟨c', x'⟩ := q
    dsimp only at hx'
    refine enterP tabOk Tryz.func10 123 [0, 1, 2, 3, 4, 5, 6, 7, 8, 9, 10, 11, 12, 13, 14, 38, 55, 77] [.tmp 4] rfl (r := [_]) rfl (h := ?_); intro E hK; simp only [go_sem]
    refine wgoF (And.intro (@Cs.d.eq_1) (@Rw.d.eq_1)) ?_
    refine wcall (sanity34) ?_
    refine wgoF (@Cs.d.eq_1) ?_
    refine wcallF (hb) (@Cs.d.eq_1) ?_
    refine wgoF (@bdT.eq_1) ?_
    refine wcallF (hbg) (@Cs.d.eq_1) ?_
    refine wgoF (@Cp.d.eq_1) ?_
    refine wcallF (h37) (@Rw.d.eq_1) ?_
    refine wgoF (@Ev.d.eq_1) ?_
    refine wcallF (hd) (And.intro (@Cp.d.eq_1) (And.intro (@Ev.d.eq_1) (@Brd.d.eq_1))) ?_
    refine wgoF (And.intro (@rC.eq_1) (And.intro (@Cp.d.eq_1) (@hx'))) ?_
    exact wret
end Go.Proofs.YtojgjdcciojpeaaGreat
set_option linter.unusedSimpArgs false
set_option linter.unusedVariables false
namespace Go.Proofs.YtojgjdcciojpeaaGreat
open Go Go.PS
set_option maxRecDepth 100000
set_option maxHeartbeats 4000000
def chM (y : Rw) : UInt8 := ([97, 98, 99] : List UInt8).getD (y.a % 3).toNat 0
theorem chM_let (y : Rw) : letB (chM y) = true := by
  unfold chM
  have h : (y.a % 3).toNat < 3 := by omega
  generalize (y.a % 3).toNat = n at h
  match n, h with
  | 0, _ => decide
  | 1, _ => decide
  | 2, _ => decide
theorem chM_cut (y : Rw) : List.take ((y.a % 3 + 1).toNat - (y.a % 3).toNat) (List.drop (y.a % 3).toNat [97, 98, 99]) = [chM y] := by
  unfold chM
  have h : (y.a % 3).toNat < 3 := by omega
  rw [show (y.a % 3 + 1).toNat - (y.a % 3).toNat = 1 by omega]
  generalize (y.a % 3).toNat = n at h
  match n, h with
  | 0, _ => rfl
  | 1, _ => rfl
  | 2, _ => rfl
/-- The statement ComposingMoves holds. -/
theorem lawMoves (x : Cs) (y : Rw) (hx : x.ok) (hy : y.ok) : PCall Tryz.prog 11 [x.d, y.d] (.bool true) := by
  have hb := board36 x hx
  have hbg : PCall Tryz.prog 35 [x.d, .int .i64 12] (begF (csF x) (evsR x.L 12)).d := begX hx 12 (by omega)
  have hfu := beg_full hx 12
  generalize begF (csF x) (evsR x.L 12) = c at hbg hfu
  have lok0 : ∀ k : Int, (⟨k, [], [], [], 0, 0⟩ : Ev).lok := fun k => ⟨by simp, by simp, by simp⟩
  have hdl : ∀ c : Cp, c.ok → PCall Tryz.prog 38 [c.d, (madeB x.B).d, .sl 4 ((tapsF x.T).map Tap.d), lfE.d] (rC (movedR c (-1))) := fun c hc => (doP hx hc (lok0 7)).eq (by rw [show (⟨7, [], [], [], 0, 0⟩ : Ev) = lfE from rfl, do_left])
  have hdr : ∀ c : Cp, c.ok → PCall Tryz.prog 38 [c.d, (madeB x.B).d, .sl 4 ((tapsF x.T).map Tap.d), riE.d] (rC (movedR c 1)) := fun c hc => (doP hx hc (lok0 8)).eq (by rw [show (⟨8, [], [], [], 0, 0⟩ : Ev) = riE from rfl, do_right])
  have hdk := doP hx hfu.1.1 (kE_lok (chM y))
  have hk := key52 [chM y]
  have hcut := chM_cut y
  have hlet := chM_let y
  have hsm := full_same hfu
  have hbig : 40 ≤ c.sl.length → doR (csF x (kE (chM y))) c (kE (chM y)) = (c, 2) := fun h => do_key_big hlet h
  have hroom : c.sl.length < 40 → doR (csF x (kE (chM y))) c (kE (chM y)) = (tyK c (chM y), 0) := fun h => do_key hlet h
  generalize csF x = F at hdk hbig hroom
  generalize (tapsF x.T).map Tap.d = tp at hb hdl hdr hdk
  generalize madeB x.B = bb at hb hdl hdr hdk
  obtain ⟨⟨⟨l1, l2, l3, l4, l5⟩, l6, l7⟩, l8, l9, l10, l11⟩ := hfu
  have hok : c.ok := ⟨l1, l2, l3, l4, l5⟩
  obtain ⟨⟨y1, y2⟩, ⟨y3, y4⟩, ⟨y5, y6⟩, ⟨y7, y8⟩⟩ := hy
  have z3 : ((3 : Nat) : Int) = 3 := rfl
  have m1 : y.a % 3 < 3 := by omega
  have e1 := mlen c.sl
  have sm1 := sameSlots49 (c.sl.take c.cu.toNat) (by simp; omega) (fun s hs => by have := (l9 s (List.mem_of_mem_take hs)).2.1; omega)
  have sm2 := sameSlots49 (c.sl.drop c.cu.toNat) (by simp; omega) (fun s hs => by have := (l9 s (List.mem_of_mem_drop hs)).2.1; omega)
  have se := same53 (kE (chM y)) (kE_lok _)
  have hty : ∀ N : Cp, tyK c (chM y) = N → N.sl.length = c.sl.length + 1 ∧ N.ev.length = c.sl.length + 1 ∧ N.cu = c.cu + 1 ∧ List.take c.cu.toNat N.sl = List.take c.cu.toNat c.sl ∧ List.drop (c.cu.toNat + 1) N.sl = List.drop c.cu.toNat c.sl ∧ N.ev.getD c.cu.toNat default = kE (chM y) := by
    rintro _ rfl
    refine ⟨ins_length (by omega) _, ?_, rfl, ins_take (by omega) _, ins_drop (by omega) _, ins_at (by omega) _⟩
    have := ins_length (l := c.ev) (n := c.cu.toNat) (by omega) (kE (chM y))
    show (insAt c.ev c.cu.toNat (kE (chM y))).length = _
    omega
  have g0 : c.cu ≤ (c.sl.length : Int) := by omega
  by_cases cL : 0 < c.cu
  · by_cases cR : c.cu < (c.sl.length : Int)
    · obtain ⟨ml, mr⟩ := moved_lr hok cL
      have a1 := hdl c hok
      rw [ml] at a1
      have a2 := hdr { c with cu := c.cu - 1 } ⟨l1, l2, by dsimp only; omega, by dsimp only; omega, l5⟩
      rw [mr] at a2
      obtain ⟨nr, nl⟩ := moved_rl hok cR
      have b1 := hdr c hok
      rw [nr] at b1
      have b2 := hdl { c with cu := c.cu + 1 } ⟨l1, l2, by dsimp only; omega, by dsimp only; omega, l5⟩
      rw [nl] at b2
      by_cases hroom40 : 40 ≤ c.sl.length
      · have hq := hbig hroom40
        rw [hq] at hdk
        have d40 : decide ((c.sl.length : Int) = 40) = true := decide_eq_true (by omega)
        refine enterP tabOk Tryz.func11 179 [0, 1, 2, 3, 4, 5, 6, 7, 8, 9, 10, 11, 12, 13, 14, 15, 57, 59, 71, 91, 112, 145] [.tmp 4] rfl (r := [_]) rfl (h := ?_); intro E hK; simp only [go_sem]
        refine wgoF (And.intro (@Cs.d.eq_1) (@Rw.d.eq_1)) ?_
        refine wcall (sanity34) ?_
        refine wgoF (@Cs.d.eq_1) ?_
        refine wcallF (hb) (@Cs.d.eq_1) ?_
        refine wgoF (@bdT.eq_1) ?_
        refine wcallF (hbg) (@Cs.d.eq_1) ?_
        refine wgoF (@Cp.d.eq_1) ?_
        refine wcallF (a1) (And.intro (@Cp.d.eq_1) (And.intro (@Ev.d.eq_1) (And.intro (@Brd.d.eq_1) (@lfE.eq_1)))) ?_
        refine wgoF (And.intro (@rC.eq_1) (@Cp.d.eq_1)) ?_
        refine wcallF (b1) (And.intro (@Cp.d.eq_1) (And.intro (@Ev.d.eq_1) (And.intro (@Brd.d.eq_1) (@riE.eq_1)))) ?_
        refine wgoF (And.intro (@rC.eq_1) (And.intro (@Cp.d.eq_1) (And.intro (@cL) (And.intro (@cR) (@e1))))) ?_
        refine wcallF (a2) (And.intro (@Cp.d.eq_1) (And.intro (@Ev.d.eq_1) (And.intro (@Brd.d.eq_1) (@riE.eq_1)))) ?_
        refine wgoF (And.intro (@rC.eq_1) (@Cp.d.eq_1)) ?_
        refine wcallF (b2) (And.intro (@Cp.d.eq_1) (And.intro (@Ev.d.eq_1) (And.intro (@Brd.d.eq_1) (@lfE.eq_1)))) ?_
        refine wgoF (And.intro (@rC.eq_1) (@Cp.d.eq_1)) ?_
        refine wcallF (hsm) (@Cp.d.eq_1) ?_
        refine wgo ?_
        refine wcallF (hsm) (@Cp.d.eq_1) ?_
        refine wgoF (And.intro (@Rw.d.eq_1) (And.intro (@z3) (And.intro (@m1) (@hcut)))) ?_
        refine wcall (hk) ?_
        refine wgoF (@Ev.d.eq_1) ?_
        refine wcallF (hdk) (And.intro (@Cp.d.eq_1) (And.intro (@Ev.d.eq_1) (And.intro (@Brd.d.eq_1) (@kE.eq_1)))) ?_
        refine wgoF (And.intro (@rC.eq_1) (And.intro (@Cp.d.eq_1) (And.intro (@e1) (@d40)))) ?_
        exact wret
      · have hq := hroom (by omega)
        rw [hq] at hdk
        have hN := hty _ rfl
        generalize tyK c (chM y) = N at hdk hN
        obtain ⟨n1, n2, n3, n4, n5, n6⟩ := hN
        have hget := ev_get (l := N.ev) (i := c.cu.toNat) (by omega)
        rw [n6] at hget
        obtain ⟨ev', sl', cu', pn', ch'⟩ := N
        dsimp only at n1 n2 n3 n4 n5 n6 hget
        subst n3
        have d1 : decide ((sl'.length : Int) = (c.sl.length : Int) + 1) = true := decide_eq_true (by omega)
        have d2 : decide ((ev'.length : Int) = (sl'.length : Int)) = true := decide_eq_true (by omega)
        have d3 : decide (c.cu + 1 = c.cu + 1) = true := decide_eq_true rfl
        have g1 : c.cu ≤ (sl'.length : Int) := by omega
        have g2 : c.cu + 1 ≤ (sl'.length : Int) := by omega
        have g3 : c.cu < (ev'.length : Int) := by omega
        have t0 : (c.cu + 1).toNat = c.cu.toNat + 1 := by omega
        have t1 : List.take c.cu.toNat (List.map slD sl') = List.map slD (c.sl.take c.cu.toNat) := by rw [← List.map_take, n4]
        have t2 : List.take c.cu.toNat (List.map slD c.sl) = List.map slD (c.sl.take c.cu.toNat) := by rw [List.map_take]
        have t3 : List.drop (c.cu.toNat + 1) (List.map slD sl') = List.map slD (c.sl.drop c.cu.toNat) := by rw [← List.map_drop, n5]
        have t4 : List.drop c.cu.toNat (List.map slD c.sl) = List.map slD (c.sl.drop c.cu.toNat) := by rw [List.map_drop]
        have t5 : List.take (sl'.length - (c.cu.toNat + 1)) (List.map slD (c.sl.drop c.cu.toNat)) = List.map slD (c.sl.drop c.cu.toNat) := List.take_of_length_le (by simp; omega)
        have t6 : List.take (c.sl.length - c.cu.toNat) (List.map slD (c.sl.drop c.cu.toNat)) = List.map slD (c.sl.drop c.cu.toNat) := List.take_of_length_le (by simp)
        have e2 := mlen sl'
        refine enterP tabOk Tryz.func11 179 [0, 1, 2, 3, 4, 5, 6, 7, 8, 9, 10, 11, 12, 13, 14, 15, 57, 59, 71, 91, 112, 145] [.tmp 4] rfl (r := [_]) rfl (h := ?_); intro E hK; simp only [go_sem]
        refine wgoF (And.intro (@Cs.d.eq_1) (@Rw.d.eq_1)) ?_
        refine wcall (sanity34) ?_
        refine wgoF (@Cs.d.eq_1) ?_
        refine wcallF (hb) (@Cs.d.eq_1) ?_
        refine wgoF (@bdT.eq_1) ?_
        refine wcallF (hbg) (@Cs.d.eq_1) ?_
        refine wgoF (@Cp.d.eq_1) ?_
        refine wcallF (a1) (And.intro (@Cp.d.eq_1) (And.intro (@Ev.d.eq_1) (And.intro (@Brd.d.eq_1) (@lfE.eq_1)))) ?_
        refine wgoF (And.intro (@rC.eq_1) (@Cp.d.eq_1)) ?_
        refine wcallF (b1) (And.intro (@Cp.d.eq_1) (And.intro (@Ev.d.eq_1) (And.intro (@Brd.d.eq_1) (@riE.eq_1)))) ?_
        refine wgoF (And.intro (@rC.eq_1) (And.intro (@Cp.d.eq_1) (And.intro (@cL) (And.intro (@cR) (@e1))))) ?_
        refine wcallF (a2) (And.intro (@Cp.d.eq_1) (And.intro (@Ev.d.eq_1) (And.intro (@Brd.d.eq_1) (@riE.eq_1)))) ?_
        refine wgoF (And.intro (@rC.eq_1) (@Cp.d.eq_1)) ?_
        refine wcallF (b2) (And.intro (@Cp.d.eq_1) (And.intro (@Ev.d.eq_1) (And.intro (@Brd.d.eq_1) (@lfE.eq_1)))) ?_
        refine wgoF (And.intro (@rC.eq_1) (@Cp.d.eq_1)) ?_
        refine wcallF (hsm) (@Cp.d.eq_1) ?_
        refine wgo ?_
        refine wcallF (hsm) (@Cp.d.eq_1) ?_
        refine wgoF (And.intro (@Rw.d.eq_1) (And.intro (@z3) (And.intro (@m1) (@hcut)))) ?_
        refine wcall (hk) ?_
        refine wgoF (@Ev.d.eq_1) ?_
        refine wcallF (hdk) (And.intro (@Cp.d.eq_1) (And.intro (@Ev.d.eq_1) (And.intro (@Brd.d.eq_1) (@kE.eq_1)))) ?_
        refine wgoF (And.intro (@rC.eq_1) (And.intro (@Cp.d.eq_1) (And.intro (@e1) (And.intro (@e2) (And.intro (@d1) (And.intro (@d2) (And.intro (@d3) (And.intro (@g0) (And.intro (@g1) (And.intro (@g2) (And.intro (@g3) (And.intro (@t0) (And.intro (@t1) (And.intro (@t2) (And.intro (@t3) (And.intro (@t4) (And.intro (@t5) (@t6)))))))))))))))))) ?_
        refine wcallF (sm1) (@slsD.eq_1) ?_
        refine wgoF (And.intro (@e1) (And.intro (@e2) (And.intro (@d1) (And.intro (@d2) (And.intro (@d3) (And.intro (@g0) (And.intro (@g1) (And.intro (@g2) (And.intro (@g3) (And.intro (@t0) (And.intro (@t1) (And.intro (@t2) (And.intro (@t3) (And.intro (@t4) (And.intro (@t5) (@t6)))))))))))))))) ?_
        refine wcallF (sm2) (@slsD.eq_1) ?_
        refine wgoF (And.intro (@g3) (And.intro (@hget) (@kE.eq_1))) ?_
        refine wcallF (se) (And.intro (@Ev.d.eq_1) (@kE.eq_1)) ?_
        refine wgo ?_
        exact wret
    · obtain ⟨ml, mr⟩ := moved_lr hok cL
      have a1 := hdl c hok
      rw [ml] at a1
      have a2 := hdr { c with cu := c.cu - 1 } ⟨l1, l2, by dsimp only; omega, by dsimp only; omega, l5⟩
      rw [mr] at a2
      have nr : movedR c 1 = (c, 310) := if_pos (.inr (by omega))
      have b1 := hdr c hok
      rw [nr] at b1
      by_cases hroom40 : 40 ≤ c.sl.length
      · have hq := hbig hroom40
        rw [hq] at hdk
        have d40 : decide ((c.sl.length : Int) = 40) = true := decide_eq_true (by omega)
        refine enterP tabOk Tryz.func11 179 [0, 1, 2, 3, 4, 5, 6, 7, 8, 9, 10, 11, 12, 13, 14, 15, 57, 59, 71, 91, 112, 145] [.tmp 4] rfl (r := [_]) rfl (h := ?_); intro E hK; simp only [go_sem]
        refine wgoF (And.intro (@Cs.d.eq_1) (@Rw.d.eq_1)) ?_
        refine wcall (sanity34) ?_
        refine wgoF (@Cs.d.eq_1) ?_
        refine wcallF (hb) (@Cs.d.eq_1) ?_
        refine wgoF (@bdT.eq_1) ?_
        refine wcallF (hbg) (@Cs.d.eq_1) ?_
        refine wgoF (@Cp.d.eq_1) ?_
        refine wcallF (a1) (And.intro (@Cp.d.eq_1) (And.intro (@Ev.d.eq_1) (And.intro (@Brd.d.eq_1) (@lfE.eq_1)))) ?_
        refine wgoF (And.intro (@rC.eq_1) (@Cp.d.eq_1)) ?_
        refine wcallF (b1) (And.intro (@Cp.d.eq_1) (And.intro (@Ev.d.eq_1) (And.intro (@Brd.d.eq_1) (@riE.eq_1)))) ?_
        refine wgoF (And.intro (@rC.eq_1) (And.intro (@Cp.d.eq_1) (And.intro (@cL) (And.intro (@cR) (@e1))))) ?_
        refine wcallF (a2) (And.intro (@Cp.d.eq_1) (And.intro (@Ev.d.eq_1) (And.intro (@Brd.d.eq_1) (@riE.eq_1)))) ?_
        refine wgoF (And.intro (@rC.eq_1) (@Cp.d.eq_1)) ?_
        refine wcallF (hsm) (@Cp.d.eq_1) ?_
        refine wgo ?_
        refine wcallF (hsm) (@Cp.d.eq_1) ?_
        refine wgoF (And.intro (@Rw.d.eq_1) (And.intro (@z3) (And.intro (@m1) (@hcut)))) ?_
        refine wcall (hk) ?_
        refine wgoF (@Ev.d.eq_1) ?_
        refine wcallF (hdk) (And.intro (@Cp.d.eq_1) (And.intro (@Ev.d.eq_1) (And.intro (@Brd.d.eq_1) (@kE.eq_1)))) ?_
        refine wgoF (And.intro (@rC.eq_1) (And.intro (@Cp.d.eq_1) (And.intro (@e1) (@d40)))) ?_
        exact wret
      · have hq := hroom (by omega)
        rw [hq] at hdk
        have hN := hty _ rfl
        generalize tyK c (chM y) = N at hdk hN
        obtain ⟨n1, n2, n3, n4, n5, n6⟩ := hN
        have hget := ev_get (l := N.ev) (i := c.cu.toNat) (by omega)
        rw [n6] at hget
        obtain ⟨ev', sl', cu', pn', ch'⟩ := N
        dsimp only at n1 n2 n3 n4 n5 n6 hget
        subst n3
        have d1 : decide ((sl'.length : Int) = (c.sl.length : Int) + 1) = true := decide_eq_true (by omega)
        have d2 : decide ((ev'.length : Int) = (sl'.length : Int)) = true := decide_eq_true (by omega)
        have d3 : decide (c.cu + 1 = c.cu + 1) = true := decide_eq_true rfl
        have g1 : c.cu ≤ (sl'.length : Int) := by omega
        have g2 : c.cu + 1 ≤ (sl'.length : Int) := by omega
        have g3 : c.cu < (ev'.length : Int) := by omega
        have t0 : (c.cu + 1).toNat = c.cu.toNat + 1 := by omega
        have t1 : List.take c.cu.toNat (List.map slD sl') = List.map slD (c.sl.take c.cu.toNat) := by rw [← List.map_take, n4]
        have t2 : List.take c.cu.toNat (List.map slD c.sl) = List.map slD (c.sl.take c.cu.toNat) := by rw [List.map_take]
        have t3 : List.drop (c.cu.toNat + 1) (List.map slD sl') = List.map slD (c.sl.drop c.cu.toNat) := by rw [← List.map_drop, n5]
        have t4 : List.drop c.cu.toNat (List.map slD c.sl) = List.map slD (c.sl.drop c.cu.toNat) := by rw [List.map_drop]
        have t5 : List.take (sl'.length - (c.cu.toNat + 1)) (List.map slD (c.sl.drop c.cu.toNat)) = List.map slD (c.sl.drop c.cu.toNat) := List.take_of_length_le (by simp; omega)
        have t6 : List.take (c.sl.length - c.cu.toNat) (List.map slD (c.sl.drop c.cu.toNat)) = List.map slD (c.sl.drop c.cu.toNat) := List.take_of_length_le (by simp)
        have e2 := mlen sl'
        refine enterP tabOk Tryz.func11 179 [0, 1, 2, 3, 4, 5, 6, 7, 8, 9, 10, 11, 12, 13, 14, 15, 57, 59, 71, 91, 112, 145] [.tmp 4] rfl (r := [_]) rfl (h := ?_); intro E hK; simp only [go_sem]
        refine wgoF (And.intro (@Cs.d.eq_1) (@Rw.d.eq_1)) ?_
        refine wcall (sanity34) ?_
        refine wgoF (@Cs.d.eq_1) ?_
        refine wcallF (hb) (@Cs.d.eq_1) ?_
        refine wgoF (@bdT.eq_1) ?_
        refine wcallF (hbg) (@Cs.d.eq_1) ?_
        refine wgoF (@Cp.d.eq_1) ?_
        refine wcallF (a1) (And.intro (@Cp.d.eq_1) (And.intro (@Ev.d.eq_1) (And.intro (@Brd.d.eq_1) (@lfE.eq_1)))) ?_
        refine wgoF (And.intro (@rC.eq_1) (@Cp.d.eq_1)) ?_
        refine wcallF (b1) (And.intro (@Cp.d.eq_1) (And.intro (@Ev.d.eq_1) (And.intro (@Brd.d.eq_1) (@riE.eq_1)))) ?_
        refine wgoF (And.intro (@rC.eq_1) (And.intro (@Cp.d.eq_1) (And.intro (@cL) (And.intro (@cR) (@e1))))) ?_
        refine wcallF (a2) (And.intro (@Cp.d.eq_1) (And.intro (@Ev.d.eq_1) (And.intro (@Brd.d.eq_1) (@riE.eq_1)))) ?_
        refine wgoF (And.intro (@rC.eq_1) (@Cp.d.eq_1)) ?_
        refine wcallF (hsm) (@Cp.d.eq_1) ?_
        refine wgo ?_
        refine wcallF (hsm) (@Cp.d.eq_1) ?_
        refine wgoF (And.intro (@Rw.d.eq_1) (And.intro (@z3) (And.intro (@m1) (@hcut)))) ?_
        refine wcall (hk) ?_
        refine wgoF (@Ev.d.eq_1) ?_
        refine wcallF (hdk) (And.intro (@Cp.d.eq_1) (And.intro (@Ev.d.eq_1) (And.intro (@Brd.d.eq_1) (@kE.eq_1)))) ?_
        refine wgoF (And.intro (@rC.eq_1) (And.intro (@Cp.d.eq_1) (And.intro (@e1) (And.intro (@e2) (And.intro (@d1) (And.intro (@d2) (And.intro (@d3) (And.intro (@g0) (And.intro (@g1) (And.intro (@g2) (And.intro (@g3) (And.intro (@t0) (And.intro (@t1) (And.intro (@t2) (And.intro (@t3) (And.intro (@t4) (And.intro (@t5) (@t6)))))))))))))))))) ?_
        refine wcallF (sm1) (@slsD.eq_1) ?_
        refine wgoF (And.intro (@e1) (And.intro (@e2) (And.intro (@d1) (And.intro (@d2) (And.intro (@d3) (And.intro (@g0) (And.intro (@g1) (And.intro (@g2) (And.intro (@g3) (And.intro (@t0) (And.intro (@t1) (And.intro (@t2) (And.intro (@t3) (And.intro (@t4) (And.intro (@t5) (@t6)))))))))))))))) ?_
        refine wcallF (sm2) (@slsD.eq_1) ?_
        refine wgoF (And.intro (@g3) (And.intro (@hget) (@kE.eq_1))) ?_
        refine wcallF (se) (And.intro (@Ev.d.eq_1) (@kE.eq_1)) ?_
        refine wgo ?_
        exact wret
  · by_cases cR : c.cu < (c.sl.length : Int)
    · have ml : movedR c (-1) = (c, 310) := if_pos (.inl (by omega))
      have a1 := hdl c hok
      rw [ml] at a1
      obtain ⟨nr, nl⟩ := moved_rl hok cR
      have b1 := hdr c hok
      rw [nr] at b1
      have b2 := hdl { c with cu := c.cu + 1 } ⟨l1, l2, by dsimp only; omega, by dsimp only; omega, l5⟩
      rw [nl] at b2
      by_cases hroom40 : 40 ≤ c.sl.length
      · have hq := hbig hroom40
        rw [hq] at hdk
        have d40 : decide ((c.sl.length : Int) = 40) = true := decide_eq_true (by omega)
        refine enterP tabOk Tryz.func11 179 [0, 1, 2, 3, 4, 5, 6, 7, 8, 9, 10, 11, 12, 13, 14, 15, 57, 59, 71, 91, 112, 145] [.tmp 4] rfl (r := [_]) rfl (h := ?_); intro E hK; simp only [go_sem]
        refine wgoF (And.intro (@Cs.d.eq_1) (@Rw.d.eq_1)) ?_
        refine wcall (sanity34) ?_
        refine wgoF (@Cs.d.eq_1) ?_
        refine wcallF (hb) (@Cs.d.eq_1) ?_
        refine wgoF (@bdT.eq_1) ?_
        refine wcallF (hbg) (@Cs.d.eq_1) ?_
        refine wgoF (@Cp.d.eq_1) ?_
        refine wcallF (a1) (And.intro (@Cp.d.eq_1) (And.intro (@Ev.d.eq_1) (And.intro (@Brd.d.eq_1) (@lfE.eq_1)))) ?_
        refine wgoF (And.intro (@rC.eq_1) (@Cp.d.eq_1)) ?_
        refine wcallF (b1) (And.intro (@Cp.d.eq_1) (And.intro (@Ev.d.eq_1) (And.intro (@Brd.d.eq_1) (@riE.eq_1)))) ?_
        refine wgoF (And.intro (@rC.eq_1) (And.intro (@Cp.d.eq_1) (And.intro (@cL) (And.intro (@cR) (@e1))))) ?_
        refine wcallF (b2) (And.intro (@Cp.d.eq_1) (And.intro (@Ev.d.eq_1) (And.intro (@Brd.d.eq_1) (@lfE.eq_1)))) ?_
        refine wgoF (And.intro (@rC.eq_1) (@Cp.d.eq_1)) ?_
        refine wcallF (hsm) (@Cp.d.eq_1) ?_
        refine wgo ?_
        refine wcallF (hsm) (@Cp.d.eq_1) ?_
        refine wgoF (And.intro (@Rw.d.eq_1) (And.intro (@z3) (And.intro (@m1) (@hcut)))) ?_
        refine wcall (hk) ?_
        refine wgoF (@Ev.d.eq_1) ?_
        refine wcallF (hdk) (And.intro (@Cp.d.eq_1) (And.intro (@Ev.d.eq_1) (And.intro (@Brd.d.eq_1) (@kE.eq_1)))) ?_
        refine wgoF (And.intro (@rC.eq_1) (And.intro (@Cp.d.eq_1) (And.intro (@e1) (@d40)))) ?_
        exact wret
      · have hq := hroom (by omega)
        rw [hq] at hdk
        have hN := hty _ rfl
        generalize tyK c (chM y) = N at hdk hN
        obtain ⟨n1, n2, n3, n4, n5, n6⟩ := hN
        have hget := ev_get (l := N.ev) (i := c.cu.toNat) (by omega)
        rw [n6] at hget
        obtain ⟨ev', sl', cu', pn', ch'⟩ := N
        dsimp only at n1 n2 n3 n4 n5 n6 hget
        subst n3
        have d1 : decide ((sl'.length : Int) = (c.sl.length : Int) + 1) = true := decide_eq_true (by omega)
        have d2 : decide ((ev'.length : Int) = (sl'.length : Int)) = true := decide_eq_true (by omega)
        have d3 : decide (c.cu + 1 = c.cu + 1) = true := decide_eq_true rfl
        have g1 : c.cu ≤ (sl'.length : Int) := by omega
        have g2 : c.cu + 1 ≤ (sl'.length : Int) := by omega
        have g3 : c.cu < (ev'.length : Int) := by omega
        have t0 : (c.cu + 1).toNat = c.cu.toNat + 1 := by omega
        have t1 : List.take c.cu.toNat (List.map slD sl') = List.map slD (c.sl.take c.cu.toNat) := by rw [← List.map_take, n4]
        have t2 : List.take c.cu.toNat (List.map slD c.sl) = List.map slD (c.sl.take c.cu.toNat) := by rw [List.map_take]
        have t3 : List.drop (c.cu.toNat + 1) (List.map slD sl') = List.map slD (c.sl.drop c.cu.toNat) := by rw [← List.map_drop, n5]
        have t4 : List.drop c.cu.toNat (List.map slD c.sl) = List.map slD (c.sl.drop c.cu.toNat) := by rw [List.map_drop]
        have t5 : List.take (sl'.length - (c.cu.toNat + 1)) (List.map slD (c.sl.drop c.cu.toNat)) = List.map slD (c.sl.drop c.cu.toNat) := List.take_of_length_le (by simp; omega)
        have t6 : List.take (c.sl.length - c.cu.toNat) (List.map slD (c.sl.drop c.cu.toNat)) = List.map slD (c.sl.drop c.cu.toNat) := List.take_of_length_le (by simp)
        have e2 := mlen sl'
        refine enterP tabOk Tryz.func11 179 [0, 1, 2, 3, 4, 5, 6, 7, 8, 9, 10, 11, 12, 13, 14, 15, 57, 59, 71, 91, 112, 145] [.tmp 4] rfl (r := [_]) rfl (h := ?_); intro E hK; simp only [go_sem]
        refine wgoF (And.intro (@Cs.d.eq_1) (@Rw.d.eq_1)) ?_
        refine wcall (sanity34) ?_
        refine wgoF (@Cs.d.eq_1) ?_
        refine wcallF (hb) (@Cs.d.eq_1) ?_
        refine wgoF (@bdT.eq_1) ?_
        refine wcallF (hbg) (@Cs.d.eq_1) ?_
        refine wgoF (@Cp.d.eq_1) ?_
        refine wcallF (a1) (And.intro (@Cp.d.eq_1) (And.intro (@Ev.d.eq_1) (And.intro (@Brd.d.eq_1) (@lfE.eq_1)))) ?_
        refine wgoF (And.intro (@rC.eq_1) (@Cp.d.eq_1)) ?_
        refine wcallF (b1) (And.intro (@Cp.d.eq_1) (And.intro (@Ev.d.eq_1) (And.intro (@Brd.d.eq_1) (@riE.eq_1)))) ?_
        refine wgoF (And.intro (@rC.eq_1) (And.intro (@Cp.d.eq_1) (And.intro (@cL) (And.intro (@cR) (@e1))))) ?_
        refine wcallF (b2) (And.intro (@Cp.d.eq_1) (And.intro (@Ev.d.eq_1) (And.intro (@Brd.d.eq_1) (@lfE.eq_1)))) ?_
        refine wgoF (And.intro (@rC.eq_1) (@Cp.d.eq_1)) ?_
        refine wcallF (hsm) (@Cp.d.eq_1) ?_
        refine wgo ?_
        refine wcallF (hsm) (@Cp.d.eq_1) ?_
        refine wgoF (And.intro (@Rw.d.eq_1) (And.intro (@z3) (And.intro (@m1) (@hcut)))) ?_
        refine wcall (hk) ?_
        refine wgoF (@Ev.d.eq_1) ?_
        refine wcallF (hdk) (And.intro (@Cp.d.eq_1) (And.intro (@Ev.d.eq_1) (And.intro (@Brd.d.eq_1) (@kE.eq_1)))) ?_
        refine wgoF (And.intro (@rC.eq_1) (And.intro (@Cp.d.eq_1) (And.intro (@e1) (And.intro (@e2) (And.intro (@d1) (And.intro (@d2) (And.intro (@d3) (And.intro (@g0) (And.intro (@g1) (And.intro (@g2) (And.intro (@g3) (And.intro (@t0) (And.intro (@t1) (And.intro (@t2) (And.intro (@t3) (And.intro (@t4) (And.intro (@t5) (@t6)))))))))))))))))) ?_
        refine wcallF (sm1) (@slsD.eq_1) ?_
        refine wgoF (And.intro (@e1) (And.intro (@e2) (And.intro (@d1) (And.intro (@d2) (And.intro (@d3) (And.intro (@g0) (And.intro (@g1) (And.intro (@g2) (And.intro (@g3) (And.intro (@t0) (And.intro (@t1) (And.intro (@t2) (And.intro (@t3) (And.intro (@t4) (And.intro (@t5) (@t6)))))))))))))))) ?_
        refine wcallF (sm2) (@slsD.eq_1) ?_
        refine wgoF (And.intro (@g3) (And.intro (@hget) (@kE.eq_1))) ?_
        refine wcallF (se) (And.intro (@Ev.d.eq_1) (@kE.eq_1)) ?_
        refine wgo ?_
        exact wret
    · have ml : movedR c (-1) = (c, 310) := if_pos (.inl (by omega))
      have a1 := hdl c hok
      rw [ml] at a1
      have nr : movedR c 1 = (c, 310) := if_pos (.inr (by omega))
      have b1 := hdr c hok
      rw [nr] at b1
      by_cases hroom40 : 40 ≤ c.sl.length
      · have hq := hbig hroom40
        rw [hq] at hdk
        have d40 : decide ((c.sl.length : Int) = 40) = true := decide_eq_true (by omega)
        refine enterP tabOk Tryz.func11 179 [0, 1, 2, 3, 4, 5, 6, 7, 8, 9, 10, 11, 12, 13, 14, 15, 57, 59, 71, 91, 112, 145] [.tmp 4] rfl (r := [_]) rfl (h := ?_); intro E hK; simp only [go_sem]
        refine wgoF (And.intro (@Cs.d.eq_1) (@Rw.d.eq_1)) ?_
        refine wcall (sanity34) ?_
        refine wgoF (@Cs.d.eq_1) ?_
        refine wcallF (hb) (@Cs.d.eq_1) ?_
        refine wgoF (@bdT.eq_1) ?_
        refine wcallF (hbg) (@Cs.d.eq_1) ?_
        refine wgoF (@Cp.d.eq_1) ?_
        refine wcallF (a1) (And.intro (@Cp.d.eq_1) (And.intro (@Ev.d.eq_1) (And.intro (@Brd.d.eq_1) (@lfE.eq_1)))) ?_
        refine wgoF (And.intro (@rC.eq_1) (@Cp.d.eq_1)) ?_
        refine wcallF (b1) (And.intro (@Cp.d.eq_1) (And.intro (@Ev.d.eq_1) (And.intro (@Brd.d.eq_1) (@riE.eq_1)))) ?_
        refine wgoF (And.intro (@rC.eq_1) (And.intro (@Cp.d.eq_1) (And.intro (@cL) (And.intro (@cR) (@e1))))) ?_
        refine wcallF (hsm) (@Cp.d.eq_1) ?_
        refine wgo ?_
        refine wcallF (hsm) (@Cp.d.eq_1) ?_
        refine wgoF (And.intro (@Rw.d.eq_1) (And.intro (@z3) (And.intro (@m1) (@hcut)))) ?_
        refine wcall (hk) ?_
        refine wgoF (@Ev.d.eq_1) ?_
        refine wcallF (hdk) (And.intro (@Cp.d.eq_1) (And.intro (@Ev.d.eq_1) (And.intro (@Brd.d.eq_1) (@kE.eq_1)))) ?_
        refine wgoF (And.intro (@rC.eq_1) (And.intro (@Cp.d.eq_1) (And.intro (@e1) (@d40)))) ?_
        exact wret
      · have hq := hroom (by omega)
        rw [hq] at hdk
        have hN := hty _ rfl
        generalize tyK c (chM y) = N at hdk hN
        obtain ⟨n1, n2, n3, n4, n5, n6⟩ := hN
        have hget := ev_get (l := N.ev) (i := c.cu.toNat) (by omega)
        rw [n6] at hget
        obtain ⟨ev', sl', cu', pn', ch'⟩ := N
        dsimp only at n1 n2 n3 n4 n5 n6 hget
        subst n3
        have d1 : decide ((sl'.length : Int) = (c.sl.length : Int) + 1) = true := decide_eq_true (by omega)
        have d2 : decide ((ev'.length : Int) = (sl'.length : Int)) = true := decide_eq_true (by omega)
        have d3 : decide (c.cu + 1 = c.cu + 1) = true := decide_eq_true rfl
        have g1 : c.cu ≤ (sl'.length : Int) := by omega
        have g2 : c.cu + 1 ≤ (sl'.length : Int) := by omega
        have g3 : c.cu < (ev'.length : Int) := by omega
        have t0 : (c.cu + 1).toNat = c.cu.toNat + 1 := by omega
        have t1 : List.take c.cu.toNat (List.map slD sl') = List.map slD (c.sl.take c.cu.toNat) := by rw [← List.map_take, n4]
        have t2 : List.take c.cu.toNat (List.map slD c.sl) = List.map slD (c.sl.take c.cu.toNat) := by rw [List.map_take]
        have t3 : List.drop (c.cu.toNat + 1) (List.map slD sl') = List.map slD (c.sl.drop c.cu.toNat) := by rw [← List.map_drop, n5]
        have t4 : List.drop c.cu.toNat (List.map slD c.sl) = List.map slD (c.sl.drop c.cu.toNat) := by rw [List.map_drop]
        have t5 : List.take (sl'.length - (c.cu.toNat + 1)) (List.map slD (c.sl.drop c.cu.toNat)) = List.map slD (c.sl.drop c.cu.toNat) := List.take_of_length_le (by simp; omega)
        have t6 : List.take (c.sl.length - c.cu.toNat) (List.map slD (c.sl.drop c.cu.toNat)) = List.map slD (c.sl.drop c.cu.toNat) := List.take_of_length_le (by simp)
        have e2 := mlen sl'
        refine enterP tabOk Tryz.func11 179 [0, 1, 2, 3, 4, 5, 6, 7, 8, 9, 10, 11, 12, 13, 14, 15, 57, 59, 71, 91, 112, 145] [.tmp 4] rfl (r := [_]) rfl (h := ?_); intro E hK; simp only [go_sem]
        refine wgoF (And.intro (@Cs.d.eq_1) (@Rw.d.eq_1)) ?_
        refine wcall (sanity34) ?_
        refine wgoF (@Cs.d.eq_1) ?_
        refine wcallF (hb) (@Cs.d.eq_1) ?_
        refine wgoF (@bdT.eq_1) ?_
        refine wcallF (hbg) (@Cs.d.eq_1) ?_
        refine wgoF (@Cp.d.eq_1) ?_
        refine wcallF (a1) (And.intro (@Cp.d.eq_1) (And.intro (@Ev.d.eq_1) (And.intro (@Brd.d.eq_1) (@lfE.eq_1)))) ?_
        refine wgoF (And.intro (@rC.eq_1) (@Cp.d.eq_1)) ?_
        refine wcallF (b1) (And.intro (@Cp.d.eq_1) (And.intro (@Ev.d.eq_1) (And.intro (@Brd.d.eq_1) (@riE.eq_1)))) ?_
        refine wgoF (And.intro (@rC.eq_1) (And.intro (@Cp.d.eq_1) (And.intro (@cL) (And.intro (@cR) (@e1))))) ?_
        refine wcallF (hsm) (@Cp.d.eq_1) ?_
        refine wgo ?_
        refine wcallF (hsm) (@Cp.d.eq_1) ?_
        refine wgoF (And.intro (@Rw.d.eq_1) (And.intro (@z3) (And.intro (@m1) (@hcut)))) ?_
        refine wcall (hk) ?_
        refine wgoF (@Ev.d.eq_1) ?_
        refine wcallF (hdk) (And.intro (@Cp.d.eq_1) (And.intro (@Ev.d.eq_1) (And.intro (@Brd.d.eq_1) (@kE.eq_1)))) ?_
        refine wgoF (And.intro (@rC.eq_1) (And.intro (@Cp.d.eq_1) (And.intro (@e1) (And.intro (@e2) (And.intro (@d1) (And.intro (@d2) (And.intro (@d3) (And.intro (@g0) (And.intro (@g1) (And.intro (@g2) (And.intro (@g3) (And.intro (@t0) (And.intro (@t1) (And.intro (@t2) (And.intro (@t3) (And.intro (@t4) (And.intro (@t5) (@t6)))))))))))))))))) ?_
        refine wcallF (sm1) (@slsD.eq_1) ?_
        refine wgoF (And.intro (@e1) (And.intro (@e2) (And.intro (@d1) (And.intro (@d2) (And.intro (@d3) (And.intro (@g0) (And.intro (@g1) (And.intro (@g2) (And.intro (@g3) (And.intro (@t0) (And.intro (@t1) (And.intro (@t2) (And.intro (@t3) (And.intro (@t4) (And.intro (@t5) (@t6)))))))))))))))) ?_
        refine wcallF (sm2) (@slsD.eq_1) ?_
        refine wgoF (And.intro (@g3) (And.intro (@hget) (@kE.eq_1))) ?_
        refine wcallF (se) (And.intro (@Ev.d.eq_1) (@kE.eq_1)) ?_
        refine wgo ?_
        exact wret
end Go.Proofs.YtojgjdcciojpeaaGreat

/-
  The law MixedMatchesReference: for every input the call returns true, and the arguments read afterwards as before. No condition.
-/
import Derived.Test.YtojgjdcciojpeaaGreatB16
set_option linter.unusedSimpArgs false
set_option linter.unusedVariables false
namespace Go.Proofs.YtojgjdcciojpeaaGreat
open Go Go.PS
set_option maxRecDepth 100000
set_option maxHeartbeats 4000000
def tL3 : List (Int × Int × Int) := [(5, -3, 20), (0, 9, 2)]
theorem tL3_ok : t3s tL3 := ⟨by intro e he; simp only [tL3, List.mem_cons, List.not_mem_nil, or_false] at he; rcases he with rfl | rfl <;> decide, by simp [tL3]⟩
def evsTo (l : List Raw) (n : Nat) : List Ev := (l.take n).map evF
theorem evs_snoc {l : List Raw} {i : Nat} (h : i < l.length) : evsTo l (i + 1) = evsTo l i ++ [evF (l.getD i default)] := by
  have e : l.getD i default = l[i] := by simp [h]
  unfold evsTo
  rw [List.take_succ_eq_append_getElem h, List.map_append, e]; rfl
theorem evs_len {l : List Raw} {i : Nat} (h : i ≤ l.length) : (evsTo l i).length = i := by simp [evsTo]; omega
theorem evs_small {l : List Raw} (hl : raws l) (n : Nat) : ∀ e ∈ evsTo l n, e.keys.length ≤ 5 ∧ e.p.length ≤ 6 ∧ e.text.length ≤ 5 := by
  intro e he
  obtain ⟨x, hx, rfl⟩ := List.mem_map.1 he
  exact evF_small (hl.1 x (List.mem_of_mem_take hx))
theorem get_last (m : List Ev) (v : D) {i : Nat} (h : m.length = i) : (List.map Ev.d m ++ [v]).getD i .nilp = v := by
  subst h
  simp
/-- The statement MixedMatchesReference holds. -/
theorem lawMatch (x : List (Int × Int)) (l : List Raw) (e : Ev) (hx : bps x) (hl : raws l) (he : e.lok) : PCall Tryz.prog 3 [.sl 2 (x.map bpD), .sl 5 (l.map Raw.d), e.d] (.bool true) := by
  have hm := made16 x hx
  have h17 := taps17 tL3 tL3_ok
  have hT := taps_ok tL3_ok
  obtain ⟨hA, hk⟩ := madeA_ok hx
  have hll := hl.2
  have hM := fun e he => slotM hx 4 (tapsF tL3) hT (fun _ => rfl) e he
  have hR := fun e he => slotR hx 4 (tapsF tL3) hT (fun _ => rfl) e he
  have hX := slotX_ok hA hk (tapsF tL3)
  generalize tapsF tL3 = T at h17 hM hR hX
  generalize slotX (madeA x) T = F at hM hR hX
  have hXs : ∀ e, sok (F e).1 := fun e => sok_ok (hX e).1 (by have := (hX e).2.1; omega)
  have hSame : ∀ e, PCall Tryz.prog 21 [slsD (F e).1, slsD (F e).1] (.bool true) := fun e => by
    have h := same21 (F e).1 (F e).1 (hXs e).1 (hXs e).1 (hXs e).2 (hXs e).2
    rw [decide_eq_true rfl] at h
    exact h
  have z0 : evsTo l 0 = [] := rfl
  refine enterP tabOk Tryz.func3 156 [0, 1, 2, 5, 6, 7, 8, 9, 10, 11, 12, 13, 14, 15, 16, 17, 18, 19, 20, 21, 22, 23, 24, 40, 79, 95] [.tmp 6] rfl (r := [_]) rfl (h := ?_); intro E hK; simp only [go_sem]
  refine wgoF (@Ev.d.eq_1) ?_
  refine wcall (sanity15) ?_
  refine wgo ?_
  refine wcall (hm) ?_
  refine wgo ?_
  refine wcallF (h17) (And.intro (@tL3.eq_1) (@t3D.eq_1)) ?_
  refine wgoF (@Brd.d.eq_1) ?_
  (apply Run.full 10 1010 26 6; (case hi => simp only [go_sem]; rfl); (case ht => simp only [go_sem]); (case hmn => first | exact Or.inl (by decide) | exact Or.inr rfl); (case hs => simp only [go_sem]; rfl))
  refine wlpF (Run.loopC (ι := { i : Nat // i ≤ l.length ∧ i ≤ 8 }) (U := fun i => [(10, .own 6 ((evsTo l i.1).map Ev.d) (.tok 1010)), (11, .d (.int .i64 i.1))]) (O := fun i => []) (K := fun _ => [(1010, .live 26 6)]) (μ := fun i => l.length - i.1) (i0 := ⟨0, by omega, by omega⟩)) (@z0) ?_
  rintro ⟨i, hi, hi8⟩ ih
  have hel := evs_len hi
  by_cases hlt : i < l.length ∧ i < 8
  · obtain ⟨hlt, hl8⟩ := hlt
    have h1 : (i : Int) < l.length := by omega
    have h2 : (i : Int) < 8 := by omega
    have hget := raw_get hlt
    have ee : l.getD i default = l[i] := by simp [hlt]
    have hxo : (l.getD i default).ok := by rw [ee]; exact hl.1 _ (List.getElem_mem hlt)
    have h18 := event18 _ hxo
    have hst := evs_snoc hlt
    have hlk := evF_lok hxo
    generalize l.getD i default = y at hget h18 hst hlk
    generalize evF y = v at h18 hst hlk
    have hMv := hM v hlk
    have hRv := hR v hlk
    have hSv := hSame v
    generalize F v = r at hMv hRv hSv
    obtain ⟨S, z⟩ := r
    dsimp only at hSv
    have hz : decide (z = z) = true := decide_eq_true rfl
    have hg := get_last (evsTo l i) (.agg [.int .i64 v.kind, .str v.keys, .sl 2 (v.p.map Pt.d), .str v.text, .int .i64 v.n, .int .i64 v.l]) hel
    generalize evsTo l i = m at hel hst hg
    have e1 : (List.map Ev.d m).length = i := by simp [hel]
    have e2 : (i : Int) < (i : Int) + 1 := by omega
    have e3 : (i : Int) < ((i + 1 : Nat) : Int) := by omega
    simp only [go_sem]
    refine wgoF (And.intro (@h1) (And.intro (@h2) (@hget))) ?_
    refine wcallF (h18) (@Raw.d.eq_1) ?_
    refine wgoF (And.intro (@Ev.d.eq_1) (And.intro (@e1) (And.intro (@e2) (And.intro (@e3) (@hg))))) ?_
    refine wcallF (hMv) (And.intro (@Brd.d.eq_1) (@Ev.d.eq_1)) ?_
    refine wgoF (And.intro (@rD.eq_1) (And.intro (@slsD.eq_1) (And.intro (@e1) (And.intro (@e2) (And.intro (@e3) (@hg)))))) ?_
    refine wcallF (hRv) (And.intro (@Brd.d.eq_1) (@Ev.d.eq_1)) ?_
    refine wgoF (And.intro (@rD.eq_1) (@slsD.eq_1)) ?_
    refine wcallF (hSv) (@slsD.eq_1) ?_
    refine wgoF (@hz) ?_
    (apply Run.retok 50 1010; (case hk => simp only [go_sem]; rfl); (case ht => simp only [go_sem]; rfl); (case ht' => simp only [go_sem]); (case hs => simp only [go_sem]; rfl))
    exact wnxtF (ih ⟨i + 1, by omega, by omega⟩) (And.intro (@hst) (@Ev.d.eq_1))
  · have c : (decide ((i : Int) < l.length) && decide ((i : Int) < 8)) = false := by
      rw [Bool.and_eq_false_iff]
      by_cases q : i < l.length
      · right; exact decide_eq_false (by omega)
      · left; exact decide_eq_false (by omega)
    have hsml := evs_small hl i
    generalize evsTo l i = W at hel hsml
    have hWs := slots26 F (madeB x) 4 (T.map Tap.d) W (by omega) (fun e he => hM e (small_lok (hsml e he))) (fun e he => by have := (hX e).2.1; omega)
    have hWr := slots22 F (madeB x) 4 (T.map Tap.d) W (by omega) (fun e he => hR e (small_lok (hsml e he))) (fun e he => by have := (hX e).2.1; omega)
    obtain ⟨k1, k2⟩ := slotsF_ok F W 0 [] (fun e he => (hX e).1) (by simp) (by simp)
    generalize slotsF F W 0 [] = R at hWs hWr k1 k2
    obtain ⟨L, N, z⟩ := R
    dsimp only at k1 k2
    have hc1 := cost23 L [97, 98, 99] (by omega) (cheap_ok k1)
    have hc2 := cost24 L [97, 98, 99] (by omega) (cheap_ok k1)
    generalize costF L [97, 98, 99] = C at hc1 hc2
    have hsR := same25 (L, N, z) (L, N, z) (sok_ok k1 k2) (sok_ok k1 k2)
    rw [decide_eq_true rfl] at hsR
    have hMv := hM e he
    have hRv := hR e he
    have hSv := hSame e
    generalize F e = r at hMv hRv hSv
    obtain ⟨S, y⟩ := r
    dsimp only at hSv
    have hy : decide (y = y) = true := decide_eq_true rfl
    have hC1 : decide (C.getD 0 = C.getD 0) = true := decide_eq_true rfl
    have hC2 : decide (C.isSome = C.isSome) = true := decide_eq_true rfl
    obtain ⟨kd, keys, p, text, n, el⟩ := e
    obtain ⟨p1, p2, p3⟩ := he
    dsimp only at p1 p2 p3
    by_cases q1 : 20 < p.length
    · have c1 : (20 : Int) < p.length := by omega
      simp only [go_sem]
      refine wgoF (And.intro (@c) (@c1)) ?_
      exact wret
    by_cases q2 : 40 < text.length
    · have c1 : ¬ (20 : Int) < p.length := by omega
      have c2 : (40 : Int) < text.length := by omega
      simp only [go_sem]
      refine wgoF (And.intro (@c) (And.intro (@c1) (@c2))) ?_
      exact wret
    by_cases q3 : 40 < keys.length
    · have c1 : ¬ (20 : Int) < p.length := by omega
      have c2 : ¬ (40 : Int) < text.length := by omega
      have c3 : (40 : Int) < keys.length := by omega
      simp only [go_sem]
      refine wgoF (And.intro (@c) (And.intro (@c1) (And.intro (@c2) (@c3)))) ?_
      exact wret
    · have c1 : ¬ (20 : Int) < p.length := by omega
      have c2 : ¬ (40 : Int) < text.length := by omega
      have c3 : ¬ (40 : Int) < keys.length := by omega
      simp only [go_sem]
      refine wgoF (And.intro (@c) (And.intro (@c1) (And.intro (@c2) (@c3)))) ?_
      refine wcallF (hMv) (And.intro (@Brd.d.eq_1) (@Ev.d.eq_1)) ?_
      refine wgoF (And.intro (@rD.eq_1) (@slsD.eq_1)) ?_
      refine wcallF (hRv) (And.intro (@Brd.d.eq_1) (@Ev.d.eq_1)) ?_
      refine wgoF (And.intro (@rD.eq_1) (@slsD.eq_1)) ?_
      refine wcallF (hWr) (@Brd.d.eq_1) ?_
      refine wgoF (And.intro (@r3A.eq_1) (@slsD.eq_1)) ?_
      refine wcallF (hc1) (@slsD.eq_1) ?_
      refine wgoF (@choR.eq_1) ?_
      refine wcallF (hc2) (@slsD.eq_1) ?_
      refine wgoF (@choR.eq_1) ?_
      refine wcallF (hSv) (@slsD.eq_1) ?_
      refine wgoF (@hy) ?_
      refine wcallF (hWs) (@Brd.d.eq_1) ?_
      refine wgoF (And.intro (@r3A.eq_1) (@slsD.eq_1)) ?_
      refine wcallF (hsR) (And.intro (@r3A.eq_1) (@slsD.eq_1)) ?_
      refine wgoF (And.intro (@hC1) (@hC2)) ?_
      exact wret
end Go.Proofs.YtojgjdcciojpeaaGreat

set_option linter.unusedSimpArgs false
set_option linter.unusedVariables false
namespace Go.Proofs.YtojgjdcciojpeaaGreat
open Go Go.PS Go.ChangeShapes Go.WideShapes Go.ChangeAt Go.RowKit
set_option maxRecDepth 100000
set_option maxHeartbeats 4000000
theorem mixedMatchesReference_lifted (os : Os) (started : os.Started) (H : Type) (enc : TypeId × Value → H) :
    ReturnsInHanded {} Tryz.checked os 3 .any (Rows.mixedMatchesReferenceSpec.pre6 enc Tryz.prog Tryz.f3 Rows.mixedMatchesReferenceRow.domain false) (Rows.mixedMatchesReferenceSpec.post enc Tryz.prog Tryz.f3 false true false false) := by
  refine returnsInHanded_of_change (C := Tryz.checked) knob started (by kernel_rfl) Tryz.func3
    (ChangeSpec.witness6 (enc := enc) (C := Tryz.checked) false ⟨#[], #[.slice none 0 0, .slice none 0 0, .agg #[.int .i64 0, .string ⟨#[]⟩, .slice none 0 0, .string ⟨#[]⟩, .int .i64 0, .int .i64 0]], []⟩ 8 (by kernel_rfl) (by kernel_rfl) (by kernel_rfl) (by kernel_rfl)) ?_
  intro W base args ds gs before hval0 hW hcnd _
  have hval : ∀ (j : Nat) t v, Tryz.f3.params[j]? = some t → args[j]? = some v → Value.okWide Tryz.prog W .any base t v := hval0
  have hW' := hW
  obtain ⟨p, q, hA0, hV, rfl, hfz, hnd⟩ := hW
  have hA : DataW.TrodAll enc Tryz.prog W 0 (fun _ => true) true Tryz.f3.params.toList args.toList ds p := hA0
  rw [Tryz.params3] at hA hval
  obtain ⟨v0, vs0, d0, ds0, p0, q0, hargs, rfl, rfl, h0, r0⟩ := trodAll_cons hA
  obtain ⟨v1, vs1, d1, ds1, p1, q1, rfl, rfl, rfl, h1, r1⟩ := trodAll_cons r0
  obtain ⟨v2, vs2, d2, ds2, p2, q2, rfl, rfl, rfl, h2, r2⟩ := trodAll_cons r1
  obtain ⟨rfl, rfl, rfl⟩ := trodAll_nil r2
  obtain rfl : args = #[v0, v1, v2] := by cases args; simp_all
  obtain ⟨rfl, rfl⟩ := trodVars_none hV
  have k0 := h0
  have lt0 : ∀ x ∈ p0, x.block < W.heap.size := by obtain ⟨m, hm⟩ := k0; exact DataW.trod_lt m _ _ _ hm
  obtain ⟨x0, g0, e0⟩ := arg_bps (hval 0 22 v0 rfl rfl) h0
  have k1 := h1
  have lt1 : ∀ x ∈ p1, x.block < W.heap.size := by obtain ⟨m, hm⟩ := k1; exact DataW.trod_lt m _ _ _ hm
  obtain ⟨x1, g1, e1⟩ := arg_raws (hval 1 23 v1 rfl rfl) h1
  have k2 := h2
  have lt2 : ∀ x ∈ p2, x.block < W.heap.size := by obtain ⟨m, hm⟩ := k2; exact DataW.trod_lt m _ _ _ hm
  obtain ⟨x2, g2, e2⟩ := arg_ev (hval 2 26 v2 rfl rfl) h2
  clear hA0 hval0
  refine (law_calls (lawMatch x0 x1 x2 g0 g1 g2) (w := W) (RepDL.cons e0 (RepDL.cons e1 (RepDL.cons e2 RepDL.nil)))).mono fun e W' ⟨he, bel⟩ => ?_
  subst he
  exact ⟨_, rfl, _, _, _, [], _, [], hW', trodAll_mk1 (shut_bool Tryz.underlying4 _), (trodAll_cons_mk (Below.trod laidOut (by kernel_rfl) (of_decide_eq_true (by kernel_rfl)) k0 bel lt0) (trodAll_cons_mk (Below.trod laidOut (by kernel_rfl) (of_decide_eq_true (by kernel_rfl)) k1 bel lt1) (trodAll_cons_mk (Below.trod laidOut (by kernel_rfl) (of_decide_eq_true (by kernel_rfl)) k2 bel lt2) trodAll_mk0))), rfl, bel.frame _, fun h => by cases h⟩
theorem mixedMatchesReference_holds : Rows.MixedMatchesReferenceSaid :=
  OpenClaim.holds_of_wide 3 Tryz.f3 rfl rfl rfl rfl rfl rfl rfl ⟨rfl, rfl, rfl, rfl, rfl⟩ rfl rfl rfl rfl rfl (by kernel_rfl) Tryz.func3 mmClosed
    (of_decide_eq_true (by kernel_rfl)) (by unfold Func.isWrapper; first | (rw [if_pos (by decide +kernel)]; kernel_rfl) | (rw [if_neg (by decide +kernel)]; exact ⟨rfl, rfl⟩))
    (fun os started H enc _ => mixedMatchesReference_lifted os started H enc)

end Go.Proofs.YtojgjdcciojpeaaGreat

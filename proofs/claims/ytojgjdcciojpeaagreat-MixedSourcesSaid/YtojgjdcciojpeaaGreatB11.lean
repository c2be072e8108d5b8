/-
  A part of the walks of this seat: each theorem says what a function of the program gives. No condition beyond its own premises.
-/
import Derived.Shelf.SlIterI.Collect
import Derived.Test.YtojgjdcciojpeaaGreatB10
set_option linter.unusedSimpArgs false
set_option linter.unusedVariables false
namespace Go.Proofs.YtojgjdcciojpeaaGreat
open Go Go.PS
set_option maxRecDepth 100000
set_option maxHeartbeats 4000000
/-! Events that the reference makes of numbers. -/
structure Raw where
  kind : Int
  L : List Int
  P : List (Int × Int)
  N : Int
  M : Int
  deriving DecidableEq, Inhabited
def Raw.d (x : Raw) : D := .agg [.int .u8 x.kind, .sl 1 (x.L.map (D.int .u8)), .sl 2 (x.P.map bpD), .int .u8 x.N, .int .u8 x.M]
def Raw.ok (x : Raw) : Prop := (0 ≤ x.kind ∧ x.kind ≤ 255) ∧ u8s x.L ∧ bps x.P ∧ (0 ≤ x.N ∧ x.N ≤ 255) ∧ (0 ≤ x.M ∧ x.M ≤ 255)
def textA (x : Raw) (k : Int) : List UInt8 := if textF x.L 5 k = [] then [97] else textF x.L 5 k
def quadP (e : Int × Int) : Pt := ⟨4 * e.1 % 1001, 4 * e.2 % 1001⟩
def basF (l : List (Int × Int)) : List Pt := (l.take 6).map quadP
def padF (N : Int) : List Pt → List Pt
  | [] => [⟨0, N⟩, ⟨30, N⟩]
  | [a] => [a, ⟨30, N⟩]
  | l => l
def ptsF (x : Raw) : List Pt := padF x.N (basF x.P)
def chFn (n m : Int) (i : Nat) : UInt8 := letU (n % 20 + (i : Int) * (1 + m / 3 % 2))
def chTo (n m : Int) (i : Nat) : List UInt8 := (List.range i).map (chFn n m)
def chordF (n m : Int) : List UInt8 := chTo n m (2 + (m % 3).toNat)
theorem chTo_succ (n m : Int) (i : Nat) : chTo n m (i + 1) = chTo n m i ++ [letU (n % 20 + (i : Int) * (1 + m / 3 % 2))] := by
  unfold chTo; rw [List.range_succ, List.map_append]; rfl
theorem chTo_len (n m : Int) (i : Nat) : (chTo n m i).length = i := by simp [chTo]
def madeK (x : Raw) (tA : List UInt8) (q : List Pt) (kd : Int) : Ev :=
  if kd = 1 then ⟨1, tA.take 1, [], [], 0, 0⟩
  else if kd = 2 then ⟨2, chordF x.N x.M, [], [], 0, 0⟩
  else if kd = 3 then ⟨3, [], q.take 1, [], 0, 0⟩
  else if kd = 4 then ⟨4, [], q, [], 0, 0⟩
  else if kd = 5 then ⟨5, [], [], tA, 0, 0⟩
  else if kd = 9 then ⟨9, [], [], [], x.N % 40, 1 + x.M % 40⟩
  else if kd = 10 then ⟨10, [], [], [], x.N % 50, 0⟩
  else ⟨kd, [], [], [], 0, 0⟩
def madeE (x : Raw) (k : Int) : Ev := madeK x (textA x k) (ptsF x) (1 + x.kind % 12)
theorem chord82 (n m : Int) (hn : 0 ≤ n ∧ n ≤ 255) (hm : 0 ≤ m ∧ m ≤ 255) : PCall Tryz.prog 82 [.int .u8 n, .int .u8 m] (.str (chordF n m)) := by
  obtain ⟨n1, n2⟩ := hn
  obtain ⟨m1, m2⟩ := hm
  have d3 : divT m 3 = m / 3 := divT_nn m1
  have z0 : chTo n m 0 = [] := rfl
  refine enterP tabOk Tryz.func82 42 [0, 1, 4, 5, 6, 7, 8, 9, 23] [.tmp 4] rfl (r := [_]) rfl (h := ?_); intro E hK; simp only [go_sem]
  refine wgoF (@d3) ?_
  refine wlpF (Run.loopC (ι := { i : Nat // i ≤ 2 + (m % 3).toNat }) (U := fun i => [(8, .d (.str (chTo n m i.1))), (9, .d (.int .i64 i.1))]) (O := fun i => []) (K := fun _ => []) (μ := fun i => 2 + (m % 3).toNat - i.1) (i0 := ⟨0, by omega⟩)) (@z0) ?_
  rintro ⟨i, hi⟩ ih
  by_cases hlt : i < 2 + (m % 3).toNat
  · have h1 : (i : Int) < 2 + m % 3 := by omega
    have hb : 0 ≤ (i : Int) * (1 + m / 3 % 2) ∧ (i : Int) * (1 + m / 3 % 2) ≤ 6 := by
      rcases (show m / 3 % 2 = 0 ∨ m / 3 % 2 = 1 by omega) with h | h <;> rw [h] <;> omega
    obtain ⟨hb1, hb2⟩ := hb
    have ha := abc_at (n := n % 20 + (i : Int) * (1 + m / 3 % 2)) ⟨by omega, by omega⟩
    have hst := chTo_succ n m i
    have hlen := chTo_len n m i
    generalize chTo n m i = out at hst hlen
    have ha2 : List.take ((n % 20 + (i : Int) * (1 + m / 3 % 2) + 1).toNat - (n % 20 + (i : Int) * (1 + m / 3 % 2)).toNat) (List.drop (n % 20 + (i : Int) * (1 + m / 3 % 2)).toNat [97, 98, 99, 100, 101, 102, 103, 104, 105, 106, 107, 108, 109, 110, 111, 112, 113, 114, 115, 116, 117, 118, 119, 120, 121, 122]) = [letU (n % 20 + (i : Int) * (1 + m / 3 % 2))] := ha
    simp only [go_sem]
    refine wgoF (@h1) ?_
    exact wnxtF (ih ⟨i + 1, by omega⟩) (And.intro (@hst) (@ha2))
  · have h1 : ¬ (i : Int) < 2 + m % 3 := by omega
    have hi2 : chTo n m i = chordF n m := by unfold chordF; rw [show i = 2 + (m % 3).toNat by omega]
    simp only [go_sem, hi2]
    refine wgoF (@h1) ?_
    exact wret
theorem bas_snoc {l : List (Int × Int)} {i : Nat} (h : i < l.length) (h6 : i < 6) : basF (l.take (i + 1)) = basF (l.take i) ++ [quadP (l.getD i default)] := by
  have e : l.getD i default = l[i] := by simp [h]
  unfold basF
  rw [List.take_take, List.take_take, Nat.min_eq_right (by omega), Nat.min_eq_right (by omega), List.take_succ_eq_append_getElem h, e, List.map_append]
  rfl
theorem bas_len (l : List (Int × Int)) : (basF l).length ≤ 6 := by simp [basF]; omega
theorem bas_in {l : List (Int × Int)} (hl : bps l) : ∀ p ∈ basF l, 0 ≤ p.x ∧ p.x ≤ 1000 ∧ 0 ≤ p.y ∧ p.y ≤ 1000 := by
  intro p hp
  obtain ⟨e, he, rfl⟩ := List.mem_map.1 hp
  unfold quadP
  dsimp only
  omega
theorem pad_big {N : Int} {q : List Pt} (h : ¬ q.length < 2) : padF N q = q := by
  match q, h with
  | [], h => simp at h
  | [_], h => simp at h
  | _ :: _ :: _, _ => rfl
theorem pad_step {N : Int} {q : List Pt} (h : q.length < 2) : padF N (q ++ [⟨30 * (q.length : Int), N⟩]) = padF N q := by
  match q, h with
  | [], _ => rfl
  | [_], _ => rfl
  | _ :: _ :: _, h => exfalso; simp only [List.length_cons] at h; omega
theorem take1_app {α : Type} [Inhabited α] {l : List α} (h : 0 < l.length) : l.take 1 = [l.getD 0 default] := by
  match l, h with
  | a :: _, _ => rfl
theorem textA_len (x : Raw) (k : Int) : (textA x k).length ≤ 5 ∧ 1 ≤ (textA x k).length := by
  unfold textA
  have h := text_len x.L 5 k
  split
  · simp
  · rename_i h0
    have := List.length_pos_iff.2 h0
    omega
theorem made61 (x : Raw) (hx : x.ok) (k : Int) (hk : 0 < k ∧ k ≤ 26) : PCall Tryz.prog 61 [x.d, .int .i64 k] (madeE x k).d := by
  obtain ⟨⟨k1, k2⟩, hL, hP, ⟨n1, n2⟩, ⟨m1, m2⟩⟩ := hx
  have ht := text54 x.L 5 k hL (by omega) hk
  have hc := chord82 x.N x.M ⟨n1, n2⟩ ⟨m1, m2⟩
  have htl := textA_len x k
  have hPl := hP.2
  obtain ⟨kd, hkd⟩ : ∃ kd, 1 + x.kind % 12 = kd := ⟨_, rfl⟩
  have hme : madeE x k = madeK x (textA x k) (ptsF x) kd := by unfold madeE; rw [hkd]
  have z0 : basF [] = [] := rfl
  have z1 : (List.map Pt.d ([] : List Pt)) = [] := rfl
  rcases (show (decide (textF x.L 5 k = []) = true ∧ [97] = textA x k) ∨ (decide (textF x.L 5 k = []) = false ∧ textF x.L 5 k = textA x k) by
    unfold textA
    by_cases c : textF x.L 5 k = []
    · exact .inl ⟨decide_eq_true c, by rw [if_pos c]⟩
    · exact .inr ⟨decide_eq_false c, by rw [if_neg c]⟩) with ⟨ct, et⟩ | ⟨ct, et⟩
  all_goals
    refine enterP tabOk Tryz.func61 117 [0, 1, 2, 4, 5, 6, 7, 8, 20, 30, 57, 69, 70, 75, 83, 88, 92, 96, 109] [.cell 4 26] rfl (r := [_]) rfl (h := ?_); intro E hK; simp only [go_sem]
    refine wgoF (And.intro (@Raw.d.eq_1) (@hkd)) ?_
    refine wcall (ht) ?_
    refine wgoF (@ct) ?_
    (apply Run.full 7 1007 70 2; (case hi => simp only [go_sem]; rfl); (case ht => simp only [go_sem]); (case hmn => first | exact Or.inl (by decide) | exact Or.inr rfl); (case hs => simp only [go_sem]; rfl))
    rw [et]
    generalize textA x k = tA at hme htl
    clear et ct ht
    refine wlpF (Run.loopC (ι := { i : Nat // i ≤ x.P.length ∧ i ≤ 6 }) (U := fun i => [(7, .own 2 ((basF (x.P.take i.1)).map Pt.d) (.tok 1007)), (8, .d (.int .i64 i.1))]) (O := fun i => []) (K := fun _ => [(1007, .live 70 2)]) (μ := fun i => x.P.length - i.1) (i0 := ⟨0, by omega, by omega⟩)) (@z0) ?_
    rintro ⟨i, hi, hi6⟩ ih
    by_cases hlt : i < x.P.length ∧ i < 6
    · obtain ⟨hlt, hl6⟩ := hlt
      have h1 : (i : Int) < x.P.length := by omega
      have h2 : (i : Int) < 6 := by omega
      have hget := bp_get hlt
      obtain ⟨b1, b2, b3, b4⟩ := bp_at hP hlt
      have hbl := bas_len (x.P.take i)
      have hst := bas_snoc hlt hl6
      generalize x.P.getD i default = e at hget b1 b2 b3 b4 hst
      simp only [go_sem]
      refine wgoF (And.intro (@h1) (And.intro (@h2) (@hget))) ?_
      (apply Run.retok 54 1007; (case hk => simp only [go_sem]; rfl); (case ht => simp only [go_sem]; rfl); (case ht' => simp only [go_sem]); (case hs => simp only [go_sem]; rfl))
      exact wnxtF (ih ⟨i + 1, by omega, by omega⟩) (And.intro (@hst) (And.intro (@quadP.eq_1) (@Pt.d.eq_1)))
    · have c : (decide ((i : Int) < x.P.length) && decide ((i : Int) < 6)) = false := by
        rw [Bool.and_eq_false_iff]
        by_cases q : i < x.P.length
        · right; exact decide_eq_false (by omega)
        · left; exact decide_eq_false (by omega)
      have hb : basF (x.P.take i) = basF x.P := by
        unfold basF
        by_cases q : i < x.P.length
        · rw [List.take_take, show i = 6 by omega]; rfl
        · have e : x.P.take i = x.P := List.take_of_length_le (by omega)
          rw [e]
      have hbl := bas_len x.P
      simp only [go_sem, hb]
      refine wgoF (@c) ?_
      refine wlp (Run.loopC (ι := { q : List Pt // padF x.N q = ptsF x ∧ q.length ≤ 6 }) (U := fun q => [(7, .own 2 (q.1.map Pt.d) (.tok 1007))]) (O := fun i => []) (K := fun _ => [(1007, .live 70 2)]) (μ := fun q => 2 - q.1.length) (i0 := ⟨basF x.P, rfl, hbl⟩)) ?_
      rintro ⟨q, hq, hql⟩ ih
      by_cases h2 : q.length < 2
      · have h3 : (q.length : Int) < 2 := by omega
        have hst := pad_step (N := x.N) h2
        simp only [go_sem]
        refine wgoF (@h3) ?_
        (apply Run.retok 67 1007; (case hk => simp only [go_sem]; rfl); (case ht => simp only [go_sem]; rfl); (case ht' => simp only [go_sem]); (case hs => simp only [go_sem]; rfl))
        exact wnxtF (ih ⟨q ++ [⟨30 * (q.length : Int), x.N⟩], by rw [hst]; exact hq, by simp; omega⟩) (@Pt.d.eq_1)
      · have h3 : ¬ (q.length : Int) < 2 := by omega
        rw [pad_big h2] at hq
        have hq1 := take1_app (l := q) (by omega)
        have hq2 : List.take 1 (List.map Pt.d q) = List.map Pt.d (q.take 1) := by rw [List.map_take]
        have hq3 : 1 ≤ (q.length : Int) := by omega
        have ht3 : 1 ≤ (tA.length : Int) := by omega
        rw [← hq] at hme
        have hkr : 1 ≤ kd ∧ kd ≤ 12 := by omega
        simp only [go_sem]
        rcases (show kd = 1 ∨ kd = 2 ∨ kd = 3 ∨ kd = 4 ∨ kd = 5 ∨ kd = 9 ∨ kd = 10 ∨ kd = 6 ∨ kd = 7 ∨ kd = 8 ∨ kd = 11 ∨ kd = 12 by omega) with rfl | rfl | rfl | rfl | rfl | rfl | rfl | rfl | rfl | rfl | rfl | rfl
        · have hr : madeE x k = ⟨1, tA.take 1, [], [], 0, 0⟩ := hme
          refine wgoF (And.intro (@h3) (@ht3)) ?_
          exact wretF (And.intro (@hr) (@Ev.d.eq_1))
        · have hr : madeE x k = ⟨2, chordF x.N x.M, [], [], 0, 0⟩ := hme
          refine wgoF (@h3) ?_
          refine wcall (hc) ?_
          refine wgo ?_
          exact wretF (And.intro (@hr) (@Ev.d.eq_1))
        · have hr : madeE x k = ⟨3, [], q.take 1, [], 0, 0⟩ := hme
          refine wgoF (And.intro (@h3) (And.intro (@hq3) (@hq2))) ?_
          exact wretF (And.intro (@hr) (@Ev.d.eq_1))
        · have hr : madeE x k = ⟨4, [], q, [], 0, 0⟩ := hme
          refine wgoF (@h3) ?_
          exact wretF (And.intro (@hr) (@Ev.d.eq_1))
        · have hr : madeE x k = ⟨5, [], [], tA, 0, 0⟩ := hme
          refine wgoF (@h3) ?_
          exact wretF (And.intro (@hr) (@Ev.d.eq_1))
        · have hr : madeE x k = ⟨9, [], [], [], x.N % 40, 1 + x.M % 40⟩ := hme
          refine wgoF (@h3) ?_
          exact wretF (And.intro (@hr) (@Ev.d.eq_1))
        · have hr : madeE x k = ⟨10, [], [], [], x.N % 50, 0⟩ := hme
          refine wgoF (@h3) ?_
          exact wretF (And.intro (@hr) (@Ev.d.eq_1))
        · have hr : madeE x k = ⟨6, [], [], [], 0, 0⟩ := hme
          refine wgoF (@h3) ?_
          exact wretF (And.intro (@hr) (@Ev.d.eq_1))
        · have hr : madeE x k = ⟨7, [], [], [], 0, 0⟩ := hme
          refine wgoF (@h3) ?_
          exact wretF (And.intro (@hr) (@Ev.d.eq_1))
        · have hr : madeE x k = ⟨8, [], [], [], 0, 0⟩ := hme
          refine wgoF (@h3) ?_
          exact wretF (And.intro (@hr) (@Ev.d.eq_1))
        · have hr : madeE x k = ⟨11, [], [], [], 0, 0⟩ := hme
          refine wgoF (@h3) ?_
          exact wretF (And.intro (@hr) (@Ev.d.eq_1))
        · have hr : madeE x k = ⟨12, [], [], [], 0, 0⟩ := hme
          refine wgoF (@h3) ?_
          exact wretF (And.intro (@hr) (@Ev.d.eq_1))
end Go.Proofs.YtojgjdcciojpeaaGreat
set_option linter.unusedSimpArgs false
set_option linter.unusedVariables false
namespace Go.Proofs.YtojgjdcciojpeaaGreat
open Go Go.PS
set_option maxRecDepth 100000
set_option maxHeartbeats 4000000

def Pt.ok (p : Pt) : Prop := -100000 ≤ p.x ∧ p.x ≤ 100000 ∧ -100000 ≤ p.y ∧ p.y ≤ 100000
def gap (p q : Pt) : Int := max (p.x - q.x) (q.x - p.x) + max (p.y - q.y) (q.y - p.y)

theorem gap33 (p q : Pt) (hp : p.ok) (hq : q.ok) : PCall Tryz.prog 152 [p.d, q.d] (.int .i64 (gap p q)) := by
  obtain ⟨p1, p2, p3, p4⟩ := hp
  obtain ⟨q1, q2, q3, q4⟩ := hq
  refine enterP tabOk Tryz.func152 28 [0, 1, 2, 3, 4] [.tmp 4] rfl (r := [_]) rfl (h := ?_); intro E hK; simp only [go_sem, Pt.d]
  refine wgoF (@Pt.d.eq_1) ?_
  exact wretF (And.intro (@gap.eq_1) (@Pt.d.eq_1))
theorem gap20 (p q : Pt) (hp : p.ok) (hq : q.ok) : PCall Tryz.prog 115 [p.d, q.d] (.int .i64 (gap p q)) := by
  obtain ⟨p1, p2, p3, p4⟩ := hp
  obtain ⟨q1, q2, q3, q4⟩ := hq
  refine enterP tabOk Tryz.func115 28 [0, 1, 2, 3, 4] [.tmp 4] rfl (r := [_]) rfl (h := ?_); intro E hK; simp only [go_sem, Pt.d]
  refine wgoF (@Pt.d.eq_1) ?_
  exact wretF (And.intro (@gap.eq_1) (@Pt.d.eq_1))

/-- The least of some numbers. -/
def leastI (a : Int) : List Int → Int
  | [] => a
  | v :: l => leastI (if v < a then v else a) l
def smallH (l : List Int) (b : Int) (k : Nat) : SL := SL.mk [(0, .d (.int .i64 b)), (7, .d (.sl 1 (l.map iD))), (8, .d (.int .i64 l.length)), (9, .d (.int .i64 k))] [] []

theorem smallest (a : Int) (l : List Int) (hl : l.length ≤ 100000) : PCall Tryz.prog 132 [.int .i64 a, .sl 1 (l.map iD)] (.int .i64 (leastI a l)) := by
  refine enterP tabOk Tryz.func132 19 [0, 1, 4, 6, 7, 8, 9, 10, 15] [.tmp 4] rfl (r := [_]) rfl (h := ?_); intro E hK; simp only [go_sem, Pt.d, smallH]
  refine wgoF (And.intro (@Pt.d.eq_1) (@smallH.eq_1)) ?_
  refine wlpF (Run.loop (ι := { x : Nat × Int // x.1 ≤ l.length ∧ leastI x.2 (l.drop x.1) = leastI a l }) (H := fun i => smallH l i.1.2 i.1.1) (μ := fun i => l.length - i.1.1) (i0 := ⟨(0, a), by simp⟩)) (And.intro (@Pt.d.eq_1) (@smallH.eq_1)) ?_
  rintro ⟨⟨k, b⟩, hk, hb⟩ ih
  by_cases hlt : k < l.length
  · have hi : (k : Int) < l.length := by omega
    have hget : (List.map iD l).getD k .nilp = .int .i64 l[k] := by simp [hlt, iD]
    have hdrop : l.drop k = l[k] :: l.drop (k + 1) := (List.drop_eq_getElem_cons hlt)
    by_cases hlb : l[k] < b
    · have hb2 : leastI l[k] (l.drop (k + 1)) = leastI a l := by rw [hdrop, leastI, if_pos hlb] at hb; exact hb
      simp only [go_sem, Pt.d, smallH]
      refine wgoF (And.intro (@hi) (And.intro (@hget) (And.intro (@hlb) (And.intro (@Pt.d.eq_1) (@smallH.eq_1))))) ?_
      exact wnxtF (ih ⟨(k + 1, l[k]), by omega, hb2⟩) (And.intro (@Pt.d.eq_1) (@smallH.eq_1))
    · have hb2 : leastI b (l.drop (k + 1)) = leastI a l := by rw [hdrop, leastI, if_neg hlb] at hb; exact hb
      simp only [go_sem, Pt.d, smallH]
      refine wgoF (And.intro (@hi) (And.intro (@hget) (And.intro (@hlb) (And.intro (@Pt.d.eq_1) (@smallH.eq_1))))) ?_
      exact wnxtF (ih ⟨(k + 1, b), by omega, hb2⟩) (And.intro (@Pt.d.eq_1) (@smallH.eq_1))
  · have hi : ¬ (k : Int) < l.length := by omega
    have hk2 : l.drop k = [] := List.drop_eq_nil_of_le (by omega)
    have hb2 : b = leastI a l := by simpa [hk2, leastI] using hb
    simp only [go_sem, Pt.d, smallH]
    refine wgoF (And.intro (@hi) (And.intro (@Pt.d.eq_1) (@smallH.eq_1))) ?_
    exact wretF (And.intro (@hb2) (And.intro (@Pt.d.eq_1) (@smallH.eq_1)))
end Go.Proofs.YtojgjdcciojpeaaGreat
set_option linter.unusedSimpArgs false
set_option linter.unusedVariables false
namespace Go.Proofs.YtojgjdcciojpeaaGreat
open Go Go.PS
set_option maxRecDepth 100000
set_option maxHeartbeats 4000000
/-- The least sum of a walk to i and j. -/
def W (g : Nat → Nat → Int) : Nat → Nat → Int
  | 0, 0 => g 0 0
  | 0, j + 1 => W g 0 j + g 0 (j + 1)
  | i + 1, 0 => W g i 0 + g (i + 1) 0
  | i + 1, j + 1 => min (W g i j) (min (W g i (j + 1)) (W g (i + 1) j)) + g (i + 1) (j + 1)
termination_by i j => i + j
def gp (a b : List Pt) (i j : Nat) : Int := gap (a.getD i default) (b.getD j default)
def dist (a b : List Pt) : Int := W (gp a b) (a.length - 1) (b.length - 1)

theorem W_bound {g : Nat → Nat → Int} {B : Int} (h : ∀ i j, 0 ≤ g i j ∧ g i j ≤ B) : ∀ (n i j : Nat), i + j = n → 0 ≤ W g i j ∧ W g i j ≤ (n + 1) * B := by
  intro n
  induction n using Nat.strongRecOn with
  | _ n ih =>
  intro i j hn
  have hg := h i j
  have step : ∀ (m : Nat) (x : Int), m + 1 = n → 0 ≤ x → x ≤ ((m : Int) + 1) * B → 0 ≤ x + g i j ∧ x + g i j ≤ ((n : Int) + 1) * B := by
    intro m x hm h1 h2
    have : ((n : Int) + 1) * B = ((m : Int) + 1) * B + B := by
      rw [← hm]; push_cast; rw [Int.add_mul ((m : Int) + 1) 1 B]; omega
    omega
  match i, j with
  | 0, 0 =>
    subst hn
    rw [W]; simp; omega
  | 0, j + 1 =>
    rw [W]
    obtain ⟨h1, h2⟩ := ih (0 + j) (by omega) 0 j rfl
    exact step (0 + j) _ (by omega) h1 h2
  | i + 1, 0 =>
    rw [W]
    obtain ⟨h1, h2⟩ := ih (i + 0) (by omega) i 0 rfl
    exact step (i + 0) _ (by omega) h1 h2
  | i + 1, j + 1 =>
    rw [W]
    obtain ⟨h1, h2⟩ := ih (i + (j + 1)) (by omega) i (j + 1) rfl
    obtain ⟨h3, h4⟩ := ih (i + 1 + j) (by omega) (i + 1) j rfl
    obtain ⟨h5, h6⟩ := ih (i + j) (by omega) i j rfl
    refine step (i + (j + 1)) _ (by omega) ?_ ?_
    · omega
    · exact Int.le_trans (Int.min_le_right _ _) (Int.le_trans (Int.min_le_left _ _) h2)

def okL (l : List Pt) : Prop := ∀ p ∈ l, p.ok
theorem ok_default : (default : Pt).ok := by unfold Pt.ok; decide
theorem okL_getD {l : List Pt} (h : okL l) (i : Nat) : (l.getD i default).ok := by
  by_cases hi : i < l.length
  · have e : l.getD i default = l[i] := by simp [hi]
    rw [e]; exact h _ (List.getElem_mem hi)
  · have e : l.getD i default = default := by simp [hi]
    rw [e]; exact ok_default
theorem gap_bound {p q : Pt} (hp : p.ok) (hq : q.ok) : 0 ≤ gap p q ∧ gap p q ≤ 400000 := by
  obtain ⟨p1, p2, p3, p4⟩ := hp
  obtain ⟨q1, q2, q3, q4⟩ := hq
  unfold gap; omega
theorem Wg_bound {a b : List Pt} (ha : okL a) (hb : okL b) {i j : Nat} (hi : i ≤ 2000) (hj : j ≤ 2000) : 0 ≤ W (gp a b) i j ∧ W (gp a b) i j ≤ 10000000000 := by
  obtain ⟨h1, h2⟩ := W_bound (g := gp a b) (B := 400000) (fun i j => gap_bound (okL_getD ha i) (okL_getD hb j)) (i + j) i j rfl
  refine ⟨h1, Int.le_trans h2 ?_⟩
  omega

def rO (l : List Int) : OB := ⟨3, 1, rI l⟩
def pO (p : Pt) : OB := ⟨70, 2, [.agg [.d (.int .i64 p.x), .d (.int .i64 p.y)]]⟩
def pL (l : List Pt) : PV := .d (.sl 2 (l.map Pt.d))
def RowAt (g : Nat → Nat → Int) (i m : Nat) (r : List Int) : Prop := r.length = m ∧ ∀ k, k < m → r.getD k 0 = W g i k
def outerH (a b : List Pt) (i : Nat) (r z : List Int) : SL :=
  SL.mk [(1, pL b), (5, .hrow 22 1 0 b.length b.length), (6, .hrow 25 1 0 b.length b.length), (26, pL a), (27, .d (.int .i64 a.length)), (28, .d (.int .i64 i))] [(22, some (rO r)), (25, some (rO z))] []
def innerH (a b : List Pt) (i : Nat) (r z : List Int) (j : Nat) : SL :=
  SL.mk [(1, pL b), (5, .hrow 22 1 0 b.length b.length), (6, .hrow 25 1 0 b.length b.length), (7, .d (.int .i64 i)), (8, .hp 8 0 0), (26, pL a), (27, .d (.int .i64 a.length)), (28, .d (.int .i64 i)), (33, pL b), (34, .d (.int .i64 b.length)), (35, .d (.int .i64 j))]
    [(8, some (pO (a.getD i default))), (22, some (rO r)), (25, some (rO z))] []
theorem least3 (x y z : Int) : leastI x [y, z] = min x (min y z) := by
  simp only [leastI]; split <;> split <;> omega

theorem setI {z : List Int} {j : Nat} (v : Int) (k : Nat) (h : j < z.length) : (z.set j v).getD k 0 = if k = j then v else z.getD k 0 := by
  simp only [List.getD, List.getElem?_set]
  by_cases hk : j = k
  · subst hk; simp [h]
  · rw [if_neg hk, if_neg (Ne.symm hk)]


theorem dist15 (a b : List Pt) (ha : okL a) (hb : okL b) (la : a.length ≤ 1000) (lb : b.length ≤ 1000) (na : 0 < a.length) (nb : 0 < b.length) :
    PCall Tryz.prog 133 [.sl 2 (a.map Pt.d), .sl 2 (b.map Pt.d)] (.int .i64 (dist a b)) := by
  have hna : ¬ ((a.length : Int) = 0) := by omega
  have hnb : ¬ ((b.length : Int) = 0) := by omega
  refine enterP tabOk Tryz.func133 96 [0, 1, 4, 5, 6, 7, 8, 9, 10, 11, 19, 26, 27, 28, 29, 33, 34, 35, 36, 40, 63, 70] [.tmp 4] rfl (r := [_]) rfl (h := ?_); intro E hK; simp only [go_sem, Pt.d, outerH, innerH, rO, pO, pL]
  refine wgoF (And.intro (@hna) (And.intro (@hnb) (And.intro (@Pt.d.eq_1) (And.intro (@outerH.eq_1) (And.intro (@innerH.eq_1) (And.intro (@rO.eq_1) (And.intro (@pO.eq_1) (@pL.eq_1)))))))) ?_
  refine wlpF (Run.loop (ι := { x : Nat × List Int × List Int // x.1 ≤ a.length ∧ x.2.1.length = b.length ∧ x.2.2.length = b.length ∧ ∀ i', x.1 = i' + 1 → RowAt (gp a b) i' b.length x.2.1 }) (H := fun i => outerH a b i.1.1 i.1.2.1 i.1.2.2) (μ := fun i => a.length - i.1.1) (i0 := ⟨(0, List.replicate b.length 0, List.replicate b.length 0), by omega, by simp, by simp, by omega⟩)) (And.intro (@Pt.d.eq_1) (And.intro (@outerH.eq_1) (And.intro (@innerH.eq_1) (And.intro (@rO.eq_1) (And.intro (@pO.eq_1) (@pL.eq_1)))))) ?_
  rintro ⟨⟨i, r, z⟩, hi, hr, hz, hrow⟩ ih0
  dsimp only at hi hr hz hrow
  by_cases hlt : i < a.length
  · have h1 : (i : Int) < a.length := by omega
    have hga := pt_get hlt
    simp only [go_sem, Pt.d, outerH, innerH, rO, pO, pL]
    refine wgoF (And.intro (@h1) (And.intro (@hga) (And.intro (@Pt.d.eq_1) (And.intro (@outerH.eq_1) (And.intro (@innerH.eq_1) (And.intro (@rO.eq_1) (And.intro (@pO.eq_1) (@pL.eq_1)))))))) ?_
    refine wlpF (Run.loop (ι := { x : Nat × List Int // x.1 ≤ b.length ∧ x.2.length = b.length ∧ ∀ k, k < x.1 → x.2.getD k 0 = W (gp a b) i k }) (H := fun j => innerH a b i r j.1.2 j.1.1) (μ := fun j => b.length - j.1.1) (i0 := ⟨(0, z), by omega, hz, by omega⟩)) (And.intro (@Pt.d.eq_1) (And.intro (@outerH.eq_1) (And.intro (@innerH.eq_1) (And.intro (@rO.eq_1) (And.intro (@pO.eq_1) (@pL.eq_1)))))) ?_
    rintro ⟨⟨j, z⟩, hj, hz, hzk⟩ ih
    dsimp only at hj hz hzk
    by_cases hjt : j < b.length
    · have h2 : (j : Int) < b.length := by omega
      have hgb := pt_get hjt
      have hgap := gap33 (a.getD i default) (b.getD j default) (okL_getD ha i) (okL_getD hb j)
      have hgb0 := gap_bound (okL_getD ha i) (okL_getD hb j)
      have hsz : j < z.length := by omega
      have key : ∀ k, k < j + 1 → (z.set j (W (gp a b) i j)).getD k 0 = W (gp a b) i k := by
        intro k hk
        rw [setI _ _ hsz]
        split
        · rename_i e; subst e; rfl
        · exact hzk k (by omega)
      have hW0 := Wg_bound ha hb (i := i) (j := j) (by omega) (by omega)
      have e0 : (rI z).getD j .any = .d (.int .i64 (z.getD j 0)) := rI_get hsz
      have hg0 : gap (a.getD i default) (b.getD j default) = gp a b i j := rfl
      by_cases hi0 : i = 0
      · have p1 : ¬ (0 : Int) < (i : Int) := by omega
        by_cases hj0 : j = 0
        · have p2 : ¬ (0 : Int) < (j : Int) := by omega
          have hW : 0 + gap (a.getD i default) (b.getD j default) = W (gp a b) i j := by
            have : W (gp a b) i j = gap (a.getD i default) (b.getD j default) := by subst hi0; subst hj0; rw [W]; rfl
            omega
          simp only [go_sem, Pt.d, outerH, innerH, rO, pO, pL]
          refine wgoF (And.intro (@h2) (And.intro (@hgb) (And.intro (@p1) (And.intro (@p2) (And.intro (@Pt.d.eq_1) (And.intro (@outerH.eq_1) (And.intro (@innerH.eq_1) (And.intro (@rO.eq_1) (And.intro (@pO.eq_1) (@pL.eq_1)))))))))) ?_
          refine wcallF (hgap) (And.intro (@Pt.d.eq_1) (And.intro (@outerH.eq_1) (And.intro (@innerH.eq_1) (And.intro (@rO.eq_1) (And.intro (@pO.eq_1) (@pL.eq_1)))))) ?_
          refine wgoF (And.intro (@hW) (And.intro (@e0) (And.intro (@Pt.d.eq_1) (And.intro (@outerH.eq_1) (And.intro (@innerH.eq_1) (And.intro (@rO.eq_1) (And.intro (@pO.eq_1) (@pL.eq_1)))))))) ?_
          exact wnxtF (ih ⟨(j + 1, z.set j (W (gp a b) i j)), by omega, by simpa using hz, key⟩) (And.intro (@Pt.d.eq_1) (And.intro (@outerH.eq_1) (And.intro (@innerH.eq_1) (And.intro (@rO.eq_1) (And.intro (@pO.eq_1) (@pL.eq_1))))))
        · have p2 : (0 : Int) < (j : Int) := by omega
          have m1 : ((j : Int) - 1).toNat = j - 1 := by omega
          have e1 : (rI z).getD (j - 1) .any = .d (.int .i64 (W (gp a b) i (j - 1))) := by rw [rI_get (by omega), hzk _ (by omega)]
          have hW : W (gp a b) i (j - 1) + gap (a.getD i default) (b.getD j default) = W (gp a b) i j := by
            obtain ⟨j', rfl⟩ : ∃ j', j = j' + 1 := ⟨j - 1, by omega⟩
            subst hi0
            rw [hg0, W]; rfl
          simp only [go_sem, Pt.d, outerH, innerH, rO, pO, pL]
          refine wgoF (And.intro (@h2) (And.intro (@hgb) (And.intro (@p1) (And.intro (@p2) (And.intro (@m1) (And.intro (@e1) (And.intro (@Pt.d.eq_1) (And.intro (@outerH.eq_1) (And.intro (@innerH.eq_1) (And.intro (@rO.eq_1) (And.intro (@pO.eq_1) (@pL.eq_1)))))))))))) ?_
          refine wcallF (hgap) (And.intro (@Pt.d.eq_1) (And.intro (@outerH.eq_1) (And.intro (@innerH.eq_1) (And.intro (@rO.eq_1) (And.intro (@pO.eq_1) (@pL.eq_1)))))) ?_
          refine wgoF (And.intro (@hW) (And.intro (@e0) (And.intro (@Pt.d.eq_1) (And.intro (@outerH.eq_1) (And.intro (@innerH.eq_1) (And.intro (@rO.eq_1) (And.intro (@pO.eq_1) (@pL.eq_1)))))))) ?_
          exact wnxtF (ih ⟨(j + 1, z.set j (W (gp a b) i j)), by omega, by simpa using hz, key⟩) (And.intro (@Pt.d.eq_1) (And.intro (@outerH.eq_1) (And.intro (@innerH.eq_1) (And.intro (@rO.eq_1) (And.intro (@pO.eq_1) (@pL.eq_1))))))
      · have p1 : (0 : Int) < (i : Int) := by omega
        obtain ⟨hrl, hrk⟩ := hrow (i - 1) (by omega)
        have hrj : (rI r).getD j .any = .d (.int .i64 (W (gp a b) (i - 1) j)) := by rw [rI_get (by omega), hrk _ (by omega)]
        by_cases hj0 : j = 0
        · have p2 : ¬ (0 : Int) < (j : Int) := by omega
          have hW : W (gp a b) (i - 1) j + gap (a.getD i default) (b.getD j default) = W (gp a b) i j := by
            obtain ⟨i', rfl⟩ : ∃ i', i = i' + 1 := ⟨i - 1, by omega⟩
            subst hj0
            rw [hg0, W]; rfl
          simp only [go_sem, Pt.d, outerH, innerH, rO, pO, pL]
          refine wgoF (And.intro (@h2) (And.intro (@hgb) (And.intro (@p1) (And.intro (@p2) (And.intro (@hrj) (And.intro (@Pt.d.eq_1) (And.intro (@outerH.eq_1) (And.intro (@innerH.eq_1) (And.intro (@rO.eq_1) (And.intro (@pO.eq_1) (@pL.eq_1))))))))))) ?_
          refine wcallF (hgap) (And.intro (@Pt.d.eq_1) (And.intro (@outerH.eq_1) (And.intro (@innerH.eq_1) (And.intro (@rO.eq_1) (And.intro (@pO.eq_1) (@pL.eq_1)))))) ?_
          refine wgoF (And.intro (@hW) (And.intro (@e0) (And.intro (@Pt.d.eq_1) (And.intro (@outerH.eq_1) (And.intro (@innerH.eq_1) (And.intro (@rO.eq_1) (And.intro (@pO.eq_1) (@pL.eq_1)))))))) ?_
          exact wnxtF (ih ⟨(j + 1, z.set j (W (gp a b) i j)), by omega, by simpa using hz, key⟩) (And.intro (@Pt.d.eq_1) (And.intro (@outerH.eq_1) (And.intro (@innerH.eq_1) (And.intro (@rO.eq_1) (And.intro (@pO.eq_1) (@pL.eq_1))))))
        · have p2 : (0 : Int) < (j : Int) := by omega
          have m1 : ((j : Int) - 1).toNat = j - 1 := by omega
          have e1 : (rI z).getD (j - 1) .any = .d (.int .i64 (W (gp a b) i (j - 1))) := by rw [rI_get (by omega), hzk _ (by omega)]
          have e2 : (rI r).getD (j - 1) .any = .d (.int .i64 (W (gp a b) (i - 1) (j - 1))) := by rw [rI_get (by omega), hrk _ (by omega)]
          have hW : leastI (W (gp a b) (i - 1) (j - 1)) [W (gp a b) (i - 1) j, W (gp a b) i (j - 1)] + gap (a.getD i default) (b.getD j default) = W (gp a b) i j := by
            obtain ⟨i', rfl⟩ : ∃ i', i = i' + 1 := ⟨i - 1, by omega⟩
            obtain ⟨j', rfl⟩ : ∃ j', j = j' + 1 := ⟨j - 1, by omega⟩
            rw [hg0, least3, W]; rfl
          simp only [go_sem, Pt.d, outerH, innerH, rO, pO, pL]
          refine wgoF (And.intro (@h2) (And.intro (@hgb) (And.intro (@p1) (And.intro (@p2) (And.intro (@m1) (And.intro (@e1) (And.intro (@e2) (And.intro (@hrj) (And.intro (@Pt.d.eq_1) (And.intro (@outerH.eq_1) (And.intro (@innerH.eq_1) (And.intro (@rO.eq_1) (And.intro (@pO.eq_1) (@pL.eq_1)))))))))))))) ?_
          refine wcallF (smallest (W (gp a b) (i - 1) (j - 1)) [W (gp a b) (i - 1) j, W (gp a b) i (j - 1)] (by simp)) (And.intro (@Pt.d.eq_1) (And.intro (@outerH.eq_1) (And.intro (@innerH.eq_1) (And.intro (@rO.eq_1) (And.intro (@pO.eq_1) (@pL.eq_1)))))) ?_
          refine wgoF (And.intro (@Pt.d.eq_1) (And.intro (@outerH.eq_1) (And.intro (@innerH.eq_1) (And.intro (@rO.eq_1) (And.intro (@pO.eq_1) (@pL.eq_1)))))) ?_
          refine wcallF (hgap) (And.intro (@Pt.d.eq_1) (And.intro (@outerH.eq_1) (And.intro (@innerH.eq_1) (And.intro (@rO.eq_1) (And.intro (@pO.eq_1) (@pL.eq_1)))))) ?_
          refine wgoF (And.intro (@hW) (And.intro (@e0) (And.intro (@Pt.d.eq_1) (And.intro (@outerH.eq_1) (And.intro (@innerH.eq_1) (And.intro (@rO.eq_1) (And.intro (@pO.eq_1) (@pL.eq_1)))))))) ?_
          exact wnxtF (ih ⟨(j + 1, z.set j (W (gp a b) i j)), by omega, by simpa using hz, key⟩) (And.intro (@Pt.d.eq_1) (And.intro (@outerH.eq_1) (And.intro (@innerH.eq_1) (And.intro (@rO.eq_1) (And.intro (@pO.eq_1) (@pL.eq_1))))))
    · have h2 : ¬ (j : Int) < b.length := by omega
      have hjm : j = b.length := by omega
      simp only [go_sem, Pt.d, outerH, innerH, rO, pO, pL]
      refine wgoF (And.intro (@h2) (And.intro (@Pt.d.eq_1) (And.intro (@outerH.eq_1) (And.intro (@innerH.eq_1) (And.intro (@rO.eq_1) (And.intro (@pO.eq_1) (@pL.eq_1))))))) ?_
      (apply Run.swap 22 25 (by omega) (by omega); (case hs => simp only [go_sem, Pt.d, outerH, innerH, rO, pO, pL]; rfl))
      exact wnxtF (ih0 ⟨(i + 1, z, r), by omega, hz, hr, fun i' hi' => ⟨hz, fun k hk => by rw [hzk k (by omega)]; congr 1; simpa using hi'⟩⟩) (And.intro (@Pt.d.eq_1) (And.intro (@outerH.eq_1) (And.intro (@innerH.eq_1) (And.intro (@rO.eq_1) (And.intro (@pO.eq_1) (@pL.eq_1))))))
  · have h1 : ¬ (i : Int) < a.length := by omega
    obtain ⟨hrl, hrk⟩ := hrow (a.length - 1) (by omega)
    have m1 : ((b.length : Int) - 1).toNat = b.length - 1 := by omega
    have e1 : (rI r).getD (b.length - 1) .any = .d (.int .i64 (dist a b)) := by rw [rI_get (by omega), hrk _ (by omega)]; rfl
    simp only [go_sem, Pt.d, outerH, innerH, rO, pO, pL]
    refine wgoF (And.intro (@h1) (And.intro (@m1) (And.intro (@e1) (And.intro (@Pt.d.eq_1) (And.intro (@outerH.eq_1) (And.intro (@innerH.eq_1) (And.intro (@rO.eq_1) (And.intro (@pO.eq_1) (@pL.eq_1))))))))) ?_
    exact wretF (And.intro (@Pt.d.eq_1) (And.intro (@outerH.eq_1) (And.intro (@innerH.eq_1) (And.intro (@rO.eq_1) (And.intro (@pO.eq_1) (@pL.eq_1))))))
end Go.Proofs.YtojgjdcciojpeaaGreat
set_option linter.unusedSimpArgs false
set_option linter.unusedVariables false
namespace Go.Proofs.YtojgjdcciojpeaaGreat
open Go Go.PS
set_option maxRecDepth 100000
set_option maxHeartbeats 4000000
def Pt.ok0 (p : Pt) : Prop := 0 ≤ p.x ∧ p.x ≤ 1000 ∧ 0 ≤ p.y ∧ p.y ≤ 1000
def okL0 (l : List Pt) : Prop := ∀ p ∈ l, p.ok0
theorem Pt.ok0.ok {p : Pt} (h : p.ok0) : p.ok := by obtain ⟨h1, h2, h3, h4⟩ := h; unfold Pt.ok; omega
theorem okL0.ok {l : List Pt} (h : okL0 l) : okL l := fun p hp => (h p hp).ok
theorem okL0_getD {l : List Pt} (h : okL0 l) (i : Nat) : (l.getD i default).ok0 := by
  by_cases hi : i < l.length
  · have e : l.getD i default = l[i] := by simp [hi]
    rw [e]; exact h _ (List.getElem_mem hi)
  · have e : l.getD i default = default := by simp [hi]
    rw [e]; unfold Pt.ok0; decide
theorem gap_bound0 {p q : Pt} (hp : p.ok0) (hq : q.ok0) : 0 ≤ gap p q ∧ gap p q ≤ 2000 := by
  obtain ⟨p1, p2, p3, p4⟩ := hp
  obtain ⟨q1, q2, q3, q4⟩ := hq
  unfold gap; omega
theorem Wg_bound0 {a b : List Pt} (ha : okL0 a) (hb : okL0 b) {i j : Nat} (hi : i ≤ 100) (hj : j ≤ 100) : 0 ≤ W (gp a b) i j ∧ W (gp a b) i j ≤ 1000000 := by
  obtain ⟨h1, h2⟩ := W_bound (g := gp a b) (B := 2000) (fun i j => gap_bound0 (okL0_getD ha i) (okL0_getD hb j)) (i + j) i j rfl
  refine ⟨h1, Int.le_trans h2 ?_⟩
  omega
def rowW (g : Nat → Nat → Int) (m i : Nat) : List Int := (List.range m).map (W g i)
theorem rowAt_eq {g : Nat → Nat → Int} {i m : Nat} {z : List Int} (h : RowAt g i m z) : z = rowW g m i := by
  apply List.ext_getElem?
  intro k
  obtain ⟨h1, h2⟩ := h
  by_cases hk : k < m
  · have := h2 k hk
    have e : z[k]? = some (z.getD k 0) := by simp [show k < z.length by omega]
    rw [e, this]; simp [rowW, hk]
  · rw [List.getElem?_eq_none (by omega), List.getElem?_eq_none (by simp [rowW]; omega)]
theorem rowW_len (g : Nat → Nat → Int) (m i : Nat) : (rowW g m i).length = m := by simp [rowW]
theorem rowW_get {g : Nat → Nat → Int} {m i k : Nat} (h : k < m) : (List.map iD (rowW g m i)).getD k .nilp = .int .i64 (W g i k) := by simp [rowW, h, iD]
def rowsO (R : List D) : OB := ⟨136, 1, R.map PV.ofD.PV.ofD1⟩
def rowsO' (R : List D) (i m : Nat) : OB := ⟨136, 1, (R.map PV.ofD.PV.ofD1).set i (.hrow 22 1 0 m m)⟩
def refOuterH (a b : List Pt) (i : Nat) (R : List D) : SL :=
  SL.mk [(0, pL a), (1, pL b), (5, .hrow 11 1 0 a.length a.length), (6, .d (.int .i64 i))] [(11, some (rowsO R))] []
def refInnerH (a b : List Pt) (i : Nat) (R : List D) (z : List Int) (j : Nat) : SL :=
  SL.mk [(0, pL a), (1, pL b), (5, .hrow 11 1 0 a.length a.length), (6, .d (.int .i64 i)), (7, .d (.int .i64 j))] [(11, some (rowsO' R i b.length)), (22, some (rO z))] []

theorem dist16 (a b : List Pt) (ha0 : okL0 a) (hb0 : okL0 b) (la : a.length ≤ 100) (lb : b.length ≤ 100) (na : 0 < a.length) (nb : 0 < b.length) :
    PCall Tryz.prog 97 [.sl 2 (a.map Pt.d), .sl 2 (b.map Pt.d)] (.int .i64 (dist a b)) := by
  have hna : ¬ ((a.length : Int) = 0) := by omega
  have hnb : ¬ ((b.length : Int) = 0) := by omega
  have ha := ha0.ok
  have hb := hb0.ok
  refine enterP tabOk Tryz.func97 105 [0, 1, 4, 5, 6, 7, 8, 15, 27, 35, 37, 49, 65] [.tmp 4] rfl (r := [_]) rfl (h := ?_); intro E hK; simp only [go_sem, Pt.d, refOuterH, refInnerH, rowsO, rowsO', rO, pO, pL]
  refine wgoF (And.intro (@hna) (And.intro (@hnb) (And.intro (@Pt.d.eq_1) (And.intro (@refOuterH.eq_1) (And.intro (@refInnerH.eq_1) (And.intro (@rowsO.eq_1) (And.intro (@rowsO'.eq_1) (And.intro (@rO.eq_1) (And.intro (@pO.eq_1) (@pL.eq_1)))))))))) ?_
  (apply Run.reOb 11 (List.map PV.ofD.PV.ofD1 (List.replicate a.length (D.sl 1 []))); (case ho => simp only [go_sem, Pt.d, refOuterH, refInnerH, rowsO, rowsO', rO, pO, pL]; rfl); (case h => exact reOb_nils _ _ _ _); (case hs => simp [PV.ofD.PV.ofD1, PV.cells]); (case hss => simp only [go_sem, Pt.d, refOuterH, refInnerH, rowsO, rowsO', rO, pO, pL]; rfl))
  refine wlpF (Run.loop (ι := { x : Nat × List D // x.1 ≤ a.length ∧ x.2.length = a.length ∧ (∀ i', i' < x.1 → x.2.getD i' .nilp = .sl 1 ((rowW (gp a b) b.length i').map iD)) ∧ ∀ i', x.1 ≤ i' → i' < a.length → x.2.getD i' .nilp = .sl 1 [] }) (H := fun i => refOuterH a b i.1.1 i.1.2) (μ := fun i => a.length - i.1.1) (i0 := ⟨(0, List.replicate a.length (D.sl 1 [])), by omega, by simp, by omega, fun i' _ hi' => by simp [hi']⟩)) (And.intro (@Pt.d.eq_1) (And.intro (@refOuterH.eq_1) (And.intro (@refInnerH.eq_1) (And.intro (@rowsO.eq_1) (And.intro (@rowsO'.eq_1) (And.intro (@rO.eq_1) (And.intro (@pO.eq_1) (@pL.eq_1)))))))) ?_
  rintro ⟨⟨i, R⟩, hi, hR, hRk, hRn⟩ ih0
  dsimp only at hi hR hRk hRn
  by_cases hlt : i < a.length
  · have h1 : (i : Int) < a.length := by omega
    have hga := pt_get hlt
    have eR : (List.map PV.ofD.PV.ofD1 R).getD i .any = .d (.sl 1 []) := by
      have := hRn i (Nat.le_refl _) hlt
      simp only [List.getD, List.getElem?_map] at this ⊢
      cases hg : R[i]? with
      | none => rw [hg] at this; cases this
      | some x => rw [hg] at this; simp only [Option.getD_some] at this; subst this; rfl
    have eii : (((List.map PV.ofD.PV.ofD1 R).set i (.hrow 22 1 0 b.length b.length)).getD i .any) = .hrow 22 1 0 b.length b.length := by simp [show i < R.length by omega]
    simp only [go_sem, Pt.d, refOuterH, refInnerH, rowsO, rowsO', rO, pO, pL]
    refine wgoF (And.intro (@h1) (And.intro (@hnb) (And.intro (@eR) (And.intro (@Pt.d.eq_1) (And.intro (@refOuterH.eq_1) (And.intro (@refInnerH.eq_1) (And.intro (@rowsO.eq_1) (And.intro (@rowsO'.eq_1) (And.intro (@rO.eq_1) (And.intro (@pO.eq_1) (@pL.eq_1))))))))))) ?_
    refine wlpF (Run.loop (ι := { x : Nat × List Int // x.1 ≤ b.length ∧ x.2.length = b.length ∧ ∀ k, k < x.1 → x.2.getD k 0 = W (gp a b) i k }) (H := fun j => refInnerH a b i R j.1.2 j.1.1) (μ := fun j => b.length - j.1.1) (i0 := ⟨(0, List.replicate b.length 0), by omega, by simp, by omega⟩)) (And.intro (@Pt.d.eq_1) (And.intro (@refOuterH.eq_1) (And.intro (@refInnerH.eq_1) (And.intro (@rowsO.eq_1) (And.intro (@rowsO'.eq_1) (And.intro (@rO.eq_1) (And.intro (@pO.eq_1) (@pL.eq_1)))))))) ?_
    rintro ⟨⟨j, z⟩, hj, hz, hzk⟩ ih
    dsimp only at hj hz hzk
    by_cases hjt : j < b.length
    · have h2 : (j : Int) < b.length := by omega
      have hgb := pt_get hjt
      have hgap := gap20 (a.getD i default) (b.getD j default) (okL_getD ha i) (okL_getD hb j)
      have hgb0 := gap_bound0 (okL0_getD ha0 i) (okL0_getD hb0 j)
      have hsz : j < z.length := by omega
      have key : ∀ k, k < j + 1 → (z.set j (W (gp a b) i j)).getD k 0 = W (gp a b) i k := by
        intro k hk
        rw [setI _ _ hsz]
        split
        · rename_i e; subst e; rfl
        · exact hzk k (by omega)
      have hW0 := Wg_bound0 ha0 hb0 (i := i) (j := j) (by omega) (by omega)
      have hW1 := Wg_bound0 ha0 hb0 (i := i - 1) (j := j) (by omega) (by omega)
      have hW2 := Wg_bound0 ha0 hb0 (i := i) (j := j - 1) (by omega) (by omega)
      have hW3 := Wg_bound0 ha0 hb0 (i := i - 1) (j := j - 1) (by omega) (by omega)
      have e0 : (rI z).getD j .any = .d (.int .i64 (z.getD j 0)) := rI_get hsz
      have hg0 : gap (a.getD i default) (b.getD j default) = gp a b i j := rfl
      by_cases hi0 : i = 0
      · have p0 : decide ((i : Int) = 0) = true := by simp; omega
        have p1 : ¬ (0 : Int) < (i : Int) := by omega
        by_cases hj0 : j = 0
        · have p2 : ¬ (0 : Int) < (j : Int) := by omega
          have p3 : decide ((j : Int) = 0) = true := by simp; omega
          have hW : 0 + gap (a.getD i default) (b.getD j default) = W (gp a b) i j := by
            have : W (gp a b) i j = gap (a.getD i default) (b.getD j default) := by subst hi0; subst hj0; rw [W]; rfl
            omega
          simp only [go_sem, Pt.d, refOuterH, refInnerH, rowsO, rowsO', rO, pO, pL]
          refine wgoF (And.intro (@h2) (And.intro (@hga) (And.intro (@hgb) (And.intro (@p0) (And.intro (@p1) (And.intro (@p2) (And.intro (@p3) (And.intro (@eii) (And.intro (@Pt.d.eq_1) (And.intro (@refOuterH.eq_1) (And.intro (@refInnerH.eq_1) (And.intro (@rowsO.eq_1) (And.intro (@rowsO'.eq_1) (And.intro (@rO.eq_1) (And.intro (@pO.eq_1) (@pL.eq_1)))))))))))))))) ?_
          refine wcallF (hgap) (And.intro (@Pt.d.eq_1) (And.intro (@refOuterH.eq_1) (And.intro (@refInnerH.eq_1) (And.intro (@rowsO.eq_1) (And.intro (@rowsO'.eq_1) (And.intro (@rO.eq_1) (And.intro (@pO.eq_1) (@pL.eq_1)))))))) ?_
          refine wgoF (And.intro (@hW) (And.intro (@e0) (And.intro (@Pt.d.eq_1) (And.intro (@refOuterH.eq_1) (And.intro (@refInnerH.eq_1) (And.intro (@rowsO.eq_1) (And.intro (@rowsO'.eq_1) (And.intro (@rO.eq_1) (And.intro (@pO.eq_1) (@pL.eq_1)))))))))) ?_
          exact wnxtF (ih ⟨(j + 1, z.set j (W (gp a b) i j)), by omega, by simpa using hz, key⟩) (And.intro (@Pt.d.eq_1) (And.intro (@refOuterH.eq_1) (And.intro (@refInnerH.eq_1) (And.intro (@rowsO.eq_1) (And.intro (@rowsO'.eq_1) (And.intro (@rO.eq_1) (And.intro (@pO.eq_1) (@pL.eq_1))))))))
        · have p2 : (0 : Int) < (j : Int) := by omega
          have p3 : ¬ (j : Int) = 0 := by omega
          have m1 : ((j : Int) - 1).toNat = j - 1 := by omega
          have e1 : (rI z).getD (j - 1) .any = .d (.int .i64 (W (gp a b) i (j - 1))) := by rw [rI_get (by omega), hzk _ (by omega)]
          have hW : min 1000000 (W (gp a b) i (j - 1)) + gap (a.getD i default) (b.getD j default) = W (gp a b) i j := by
            have : W (gp a b) i j = W (gp a b) i (j - 1) + gap (a.getD i default) (b.getD j default) := by
              obtain ⟨j', rfl⟩ : ∃ j', j = j' + 1 := ⟨j - 1, by omega⟩
              subst hi0
              rw [hg0, W]; rfl
            omega
          simp only [go_sem, Pt.d, refOuterH, refInnerH, rowsO, rowsO', rO, pO, pL]
          refine wgoF (And.intro (@h2) (And.intro (@hga) (And.intro (@hgb) (And.intro (@p0) (And.intro (@p1) (And.intro (@p2) (And.intro (@p3) (And.intro (@eii) (And.intro (@m1) (And.intro (@e1) (And.intro (@Pt.d.eq_1) (And.intro (@refOuterH.eq_1) (And.intro (@refInnerH.eq_1) (And.intro (@rowsO.eq_1) (And.intro (@rowsO'.eq_1) (And.intro (@rO.eq_1) (And.intro (@pO.eq_1) (@pL.eq_1)))))))))))))))))) ?_
          refine wcallF (hgap) (And.intro (@Pt.d.eq_1) (And.intro (@refOuterH.eq_1) (And.intro (@refInnerH.eq_1) (And.intro (@rowsO.eq_1) (And.intro (@rowsO'.eq_1) (And.intro (@rO.eq_1) (And.intro (@pO.eq_1) (@pL.eq_1)))))))) ?_
          refine wgoF (And.intro (@hW) (And.intro (@e0) (And.intro (@Pt.d.eq_1) (And.intro (@refOuterH.eq_1) (And.intro (@refInnerH.eq_1) (And.intro (@rowsO.eq_1) (And.intro (@rowsO'.eq_1) (And.intro (@rO.eq_1) (And.intro (@pO.eq_1) (@pL.eq_1)))))))))) ?_
          exact wnxtF (ih ⟨(j + 1, z.set j (W (gp a b) i j)), by omega, by simpa using hz, key⟩) (And.intro (@Pt.d.eq_1) (And.intro (@refOuterH.eq_1) (And.intro (@refInnerH.eq_1) (And.intro (@rowsO.eq_1) (And.intro (@rowsO'.eq_1) (And.intro (@rO.eq_1) (And.intro (@pO.eq_1) (@pL.eq_1))))))))
      · have p0 : ¬ (i : Int) = 0 := by omega
        have p1 : (0 : Int) < (i : Int) := by omega
        have m2 : ((i : Int) - 1).toNat = i - 1 := by omega
        have eim : (((List.map PV.ofD.PV.ofD1 R).set i (.hrow 22 1 0 b.length b.length)).getD (i - 1) .any) = .d (.sl 1 ((rowW (gp a b) b.length (i - 1)).map iD)) := by
          have := hRk (i - 1) (by omega)
          simp only [List.getD, List.getElem?_set, List.getElem?_map] at this ⊢
          rw [if_neg (by omega)]
          cases hg : R[i - 1]? with
          | none => rw [hg] at this; cases this
          | some x => rw [hg] at this; simp only [Option.getD_some] at this; subst this; rfl
        have hrl : ((rowW (gp a b) b.length (i - 1)).map iD).length = b.length := by rw [List.length_map, rowW_len]
        have hrj := rowW_get (g := gp a b) (i := i - 1) hjt
        by_cases hj0 : j = 0
        · have p2 : ¬ (0 : Int) < (j : Int) := by omega
          have p3 : decide ((j : Int) = 0) = true := by simp; omega
          have hW : min 1000000 (W (gp a b) (i - 1) j) + gap (a.getD i default) (b.getD j default) = W (gp a b) i j := by
            have : W (gp a b) i j = W (gp a b) (i - 1) j + gap (a.getD i default) (b.getD j default) := by
              obtain ⟨i', rfl⟩ : ∃ i', i = i' + 1 := ⟨i - 1, by omega⟩
              subst hj0
              rw [hg0, W]; rfl
            omega
          simp only [go_sem, Pt.d, refOuterH, refInnerH, rowsO, rowsO', rO, pO, pL]
          refine wgoF (And.intro (@h2) (And.intro (@hga) (And.intro (@hgb) (And.intro (@p0) (And.intro (@p1) (And.intro (@p2) (And.intro (@p3) (And.intro (@eii) (And.intro (@eim) (And.intro (@m2) (And.intro (@hrj) (And.intro (@rowW_len) (And.intro (@Pt.d.eq_1) (And.intro (@refOuterH.eq_1) (And.intro (@refInnerH.eq_1) (And.intro (@rowsO.eq_1) (And.intro (@rowsO'.eq_1) (And.intro (@rO.eq_1) (And.intro (@pO.eq_1) (@pL.eq_1)))))))))))))))))))) ?_
          refine wcallF (hgap) (And.intro (@Pt.d.eq_1) (And.intro (@refOuterH.eq_1) (And.intro (@refInnerH.eq_1) (And.intro (@rowsO.eq_1) (And.intro (@rowsO'.eq_1) (And.intro (@rO.eq_1) (And.intro (@pO.eq_1) (@pL.eq_1)))))))) ?_
          refine wgoF (And.intro (@hW) (And.intro (@e0) (And.intro (@Pt.d.eq_1) (And.intro (@refOuterH.eq_1) (And.intro (@refInnerH.eq_1) (And.intro (@rowsO.eq_1) (And.intro (@rowsO'.eq_1) (And.intro (@rO.eq_1) (And.intro (@pO.eq_1) (@pL.eq_1)))))))))) ?_
          exact wnxtF (ih ⟨(j + 1, z.set j (W (gp a b) i j)), by omega, by simpa using hz, key⟩) (And.intro (@Pt.d.eq_1) (And.intro (@refOuterH.eq_1) (And.intro (@refInnerH.eq_1) (And.intro (@rowsO.eq_1) (And.intro (@rowsO'.eq_1) (And.intro (@rO.eq_1) (And.intro (@pO.eq_1) (@pL.eq_1))))))))
        · have p2 : (0 : Int) < (j : Int) := by omega
          have p3 : ¬ (j : Int) = 0 := by omega
          have m1 : ((j : Int) - 1).toNat = j - 1 := by omega
          have e1 : (rI z).getD (j - 1) .any = .d (.int .i64 (W (gp a b) i (j - 1))) := by rw [rI_get (by omega), hzk _ (by omega)]
          have hrm := rowW_get (g := gp a b) (i := i - 1) (show j - 1 < b.length by omega)
          have hW : min (min (min 1000000 (W (gp a b) (i - 1) j)) (W (gp a b) i (j - 1))) (W (gp a b) (i - 1) (j - 1)) + gap (a.getD i default) (b.getD j default) = W (gp a b) i j := by
            have : W (gp a b) i j = min (W (gp a b) (i - 1) (j - 1)) (min (W (gp a b) (i - 1) j) (W (gp a b) i (j - 1))) + gap (a.getD i default) (b.getD j default) := by
              obtain ⟨i', rfl⟩ : ∃ i', i = i' + 1 := ⟨i - 1, by omega⟩
              obtain ⟨j', rfl⟩ : ∃ j', j = j' + 1 := ⟨j - 1, by omega⟩
              rw [hg0, W]; rfl
            omega
          simp only [go_sem, Pt.d, refOuterH, refInnerH, rowsO, rowsO', rO, pO, pL]
          refine wgoF (And.intro (@h2) (And.intro (@hga) (And.intro (@hgb) (And.intro (@p0) (And.intro (@p1) (And.intro (@p2) (And.intro (@p3) (And.intro (@eii) (And.intro (@eim) (And.intro (@m1) (And.intro (@m2) (And.intro (@e1) (And.intro (@hrj) (And.intro (@hrm) (And.intro (@rowW_len) (And.intro (@Pt.d.eq_1) (And.intro (@refOuterH.eq_1) (And.intro (@refInnerH.eq_1) (And.intro (@rowsO.eq_1) (And.intro (@rowsO'.eq_1) (And.intro (@rO.eq_1) (And.intro (@pO.eq_1) (@pL.eq_1))))))))))))))))))))))) ?_
          refine wcallF (hgap) (And.intro (@Pt.d.eq_1) (And.intro (@refOuterH.eq_1) (And.intro (@refInnerH.eq_1) (And.intro (@rowsO.eq_1) (And.intro (@rowsO'.eq_1) (And.intro (@rO.eq_1) (And.intro (@pO.eq_1) (@pL.eq_1)))))))) ?_
          refine wgoF (And.intro (@hW) (And.intro (@e0) (And.intro (@Pt.d.eq_1) (And.intro (@refOuterH.eq_1) (And.intro (@refInnerH.eq_1) (And.intro (@rowsO.eq_1) (And.intro (@rowsO'.eq_1) (And.intro (@rO.eq_1) (And.intro (@pO.eq_1) (@pL.eq_1)))))))))) ?_
          exact wnxtF (ih ⟨(j + 1, z.set j (W (gp a b) i j)), by omega, by simpa using hz, key⟩) (And.intro (@Pt.d.eq_1) (And.intro (@refOuterH.eq_1) (And.intro (@refInnerH.eq_1) (And.intro (@rowsO.eq_1) (And.intro (@rowsO'.eq_1) (And.intro (@rO.eq_1) (And.intro (@pO.eq_1) (@pL.eq_1))))))))
    · have h2 : ¬ (j : Int) < b.length := by omega
      have hjm : j = b.length := by omega
      have hze : z = rowW (gp a b) b.length i := rowAt_eq ⟨hz, fun k hk => hzk k (by omega)⟩
      subst hze
      simp only [go_sem, Pt.d, refOuterH, refInnerH, rowsO, rowsO', rO, pO, pL]
      refine wgoF (And.intro (@h2) (And.intro (@Pt.d.eq_1) (And.intro (@refOuterH.eq_1) (And.intro (@refInnerH.eq_1) (And.intro (@rowsO.eq_1) (And.intro (@rowsO'.eq_1) (And.intro (@rO.eq_1) (And.intro (@pO.eq_1) (@pL.eq_1))))))))) ?_
      rw [rI_ofD1]
      have htk : List.take b.length (List.map iD (rowW (gp a b) b.length i)) = List.map iD (rowW (gp a b) b.length i) := List.take_of_length_le (by rw [List.length_map, rowW_len]; exact Nat.le_refl _)
      have hle : 0 + b.length ≤ (List.map iD (rowW (gp a b) b.length i)).length := by rw [List.length_map, rowW_len]; omega
      have hset : ∀ i', (R.set i (D.sl 1 (List.map iD (rowW (gp a b) b.length i)))).getD i' .nilp = if i' = i then D.sl 1 (List.map iD (rowW (gp a b) b.length i)) else R.getD i' .nilp := by
        intro i'
        simp only [List.getD, List.getElem?_set]
        by_cases hii : i = i'
        · subst hii; simp [show i < R.length by omega]
        · rw [if_neg hii, if_neg (Ne.symm hii)]
      (apply Run.freezeRow 22; (case ho => simp only [go_sem, Pt.d, refOuterH, refInnerH, rowsO, rowsO', rO, pO, pL]; rfl); (case hsz => intro e he; obtain ⟨x, _, rfl⟩ := List.mem_map.1 he; rfl); (case hit => rfl); (case hs => simp only [go_sem, Pt.d, refOuterH, refInnerH, rowsO, rowsO', rO, pO, pL]; rfl))
      rw [frz_rowIn _ _ _ _ _ _ _ _ _ hle]
      simp only [go_sem, Pt.d, refOuterH, refInnerH, rowsO, rowsO', rO, pO, pL]
      exact wnxtF (ih0 ⟨(i + 1, R.set i (D.sl 1 (List.map iD (rowW (gp a b) b.length i)))), by omega, by simpa using hR, fun i' hi' => by rw [hset]; split; (· rename_i e; rw [e]); exact hRk i' (by omega), fun i' h1 h2 => by rw [hset, if_neg (by omega)]; exact hRn i' (by omega) h2⟩) (And.intro (@htk) (And.intro (@Pt.d.eq_1) (And.intro (@refOuterH.eq_1) (And.intro (@refInnerH.eq_1) (And.intro (@rowsO.eq_1) (And.intro (@rowsO'.eq_1) (And.intro (@rO.eq_1) (And.intro (@pO.eq_1) (@pL.eq_1)))))))))
  · have h1 : ¬ (i : Int) < a.length := by omega
    have m1 : ((a.length : Int) - 1).toNat = a.length - 1 := by omega
    have m2 : ((b.length : Int) - 1).toNat = b.length - 1 := by omega
    have eim : (List.map PV.ofD.PV.ofD1 R).getD (a.length - 1) .any = .d (.sl 1 ((rowW (gp a b) b.length (a.length - 1)).map iD)) := by
      have := hRk (a.length - 1) (by omega)
      simp only [List.getD, List.getElem?_map] at this ⊢
      cases hg : R[a.length - 1]? with
      | none => rw [hg] at this; cases this
      | some x => rw [hg] at this; simp only [Option.getD_some] at this; subst this; rfl
    have hrm := rowW_get (g := gp a b) (i := a.length - 1) (show b.length - 1 < b.length by omega)
    have hd : W (gp a b) (a.length - 1) (b.length - 1) = dist a b := rfl
    simp only [go_sem, Pt.d, refOuterH, refInnerH, rowsO, rowsO', rO, pO, pL]
    refine wgoF (And.intro (@h1) (And.intro (@m1) (And.intro (@m2) (And.intro (@eim) (And.intro (@hrm) (And.intro (@rowW_len) (And.intro (@Pt.d.eq_1) (And.intro (@refOuterH.eq_1) (And.intro (@refInnerH.eq_1) (And.intro (@rowsO.eq_1) (And.intro (@rowsO'.eq_1) (And.intro (@rO.eq_1) (And.intro (@pO.eq_1) (@pL.eq_1)))))))))))))) ?_
    exact wretF (And.intro (@hd) (And.intro (@Pt.d.eq_1) (And.intro (@refOuterH.eq_1) (And.intro (@refInnerH.eq_1) (And.intro (@rowsO.eq_1) (And.intro (@rowsO'.eq_1) (And.intro (@rO.eq_1) (And.intro (@pO.eq_1) (@pL.eq_1)))))))))
end Go.Proofs.YtojgjdcciojpeaaGreat
set_option linter.unusedSimpArgs false
set_option linter.unusedVariables false
namespace Go.Proofs.YtojgjdcciojpeaaGreat
open Go Go.PS
set_option maxRecDepth 100000
set_option maxHeartbeats 4000000
def validB (p : List Pt) : Bool := decide (2 ≤ p.length) && decide (p.length ≤ 12) && p.all Pt.inB
def v19H (p : List Pt) (k : Nat) : SL := SL.mk [(13, pL p), (14, .d (.int .i64 p.length)), (15, .d (.int .i64 k))] [] []

theorem valid19 (p : List Pt) : PCall Tryz.prog 131 [.sl 2 (p.map Pt.d)] (.bool (validB p)) := by
  by_cases hl : (p.length : Int) < 2
  · have hr : validB p = false := by simp [validB]; omega
    refine enterP tabOk Tryz.func131 38 [0, 2, 4, 12, 13, 14, 15, 16, 36] [.tmp 2] rfl (r := [_]) rfl (h := ?_); intro E hK; simp only [go_sem, Pt.d, pL, v19H]
    refine wgoF (And.intro (@hl) (And.intro (@Pt.d.eq_1) (And.intro (@pL.eq_1) (@v19H.eq_1)))) ?_
    exact wretF (And.intro (@hr) (And.intro (@Pt.d.eq_1) (And.intro (@pL.eq_1) (@v19H.eq_1))))
  · by_cases hm : (12 : Int) < p.length
    · have hr : validB p = false := by simp [validB]; omega
      refine enterP tabOk Tryz.func131 38 [0, 2, 4, 12, 13, 14, 15, 16, 36] [.tmp 2] rfl (r := [_]) rfl (h := ?_); intro E hK; simp only [go_sem, Pt.d, pL, v19H]
      refine wgoF (And.intro (@hl) (And.intro (@hm) (And.intro (@Pt.d.eq_1) (And.intro (@pL.eq_1) (@v19H.eq_1))))) ?_
      exact wretF (And.intro (@hr) (And.intro (@Pt.d.eq_1) (And.intro (@pL.eq_1) (@v19H.eq_1))))
    · refine enterP tabOk Tryz.func131 38 [0, 2, 4, 12, 13, 14, 15, 16, 36] [.tmp 2] rfl (r := [_]) rfl (h := ?_); intro E hK; simp only [go_sem, Pt.d, pL, v19H]
      refine wgoF (And.intro (@hl) (And.intro (@hm) (And.intro (@Pt.d.eq_1) (And.intro (@pL.eq_1) (@v19H.eq_1))))) ?_
      refine wlpF (Run.loop (ι := { k : Nat // k ≤ p.length ∧ (p.take k).all Pt.inB = true }) (H := fun i => v19H p i.1) (μ := fun i => p.length - i.1) (i0 := ⟨0, by omega, by simp⟩)) (And.intro (@Pt.d.eq_1) (And.intro (@pL.eq_1) (@v19H.eq_1))) ?_
      rintro ⟨k, hk, hall⟩ ih
      by_cases hlt : k < p.length
      · have h1 : (k : Int) < p.length := by omega
        have hget := pt_get hlt
        have hout : (p.getD k default).inB = false → validB p = false := fun h => by simp [validB, all_out hlt h]
        by_cases c1 : (p.getD k default).x < 0
        · have hr := hout (inB_out (.inl c1))
          simp only [go_sem, Pt.d, pL, v19H]
          refine wgoF (And.intro (@h1) (And.intro (@hget) (And.intro (@c1) (And.intro (@Pt.d.eq_1) (And.intro (@pL.eq_1) (@v19H.eq_1)))))) ?_
          exact wretF (And.intro (@hr) (And.intro (@Pt.d.eq_1) (And.intro (@pL.eq_1) (@v19H.eq_1))))
        · by_cases c2 : 1000 < (p.getD k default).x
          · have hr := hout (inB_out (.inr (.inl c2)))
            simp only [go_sem, Pt.d, pL, v19H]
            refine wgoF (And.intro (@h1) (And.intro (@hget) (And.intro (@c1) (And.intro (@c2) (And.intro (@Pt.d.eq_1) (And.intro (@pL.eq_1) (@v19H.eq_1))))))) ?_
            exact wretF (And.intro (@hr) (And.intro (@Pt.d.eq_1) (And.intro (@pL.eq_1) (@v19H.eq_1))))
          · by_cases c3 : (p.getD k default).y < 0
            · have hr := hout (inB_out (.inr (.inr (.inl c3))))
              simp only [go_sem, Pt.d, pL, v19H]
              refine wgoF (And.intro (@h1) (And.intro (@hget) (And.intro (@c1) (And.intro (@c2) (And.intro (@c3) (And.intro (@Pt.d.eq_1) (And.intro (@pL.eq_1) (@v19H.eq_1)))))))) ?_
              exact wretF (And.intro (@hr) (And.intro (@Pt.d.eq_1) (And.intro (@pL.eq_1) (@v19H.eq_1))))
            · by_cases c4 : 1000 < (p.getD k default).y
              · have hr := hout (inB_out (.inr (.inr (.inr c4))))
                simp only [go_sem, Pt.d, pL, v19H]
                refine wgoF (And.intro (@h1) (And.intro (@hget) (And.intro (@c1) (And.intro (@c2) (And.intro (@c3) (And.intro (@c4) (And.intro (@Pt.d.eq_1) (And.intro (@pL.eq_1) (@v19H.eq_1))))))))) ?_
                exact wretF (And.intro (@hr) (And.intro (@Pt.d.eq_1) (And.intro (@pL.eq_1) (@v19H.eq_1))))
              · have hin := all_take hlt hall (inB_in c1 c2 c3 c4)
                simp only [go_sem, Pt.d, pL, v19H]
                refine wgoF (And.intro (@h1) (And.intro (@hget) (And.intro (@c1) (And.intro (@c2) (And.intro (@c3) (And.intro (@c4) (And.intro (@Pt.d.eq_1) (And.intro (@pL.eq_1) (@v19H.eq_1))))))))) ?_
                exact wnxtF (ih ⟨k + 1, by omega, hin⟩) (And.intro (@Pt.d.eq_1) (And.intro (@pL.eq_1) (@v19H.eq_1)))
      · have h1 : ¬ (k : Int) < p.length := by omega
        have hkl : p.take k = p := List.take_of_length_le (by omega)
        have hr : validB p = true := by rw [hkl] at hall; simp only [validB, hall, Bool.and_true, Bool.and_eq_true, decide_eq_true_eq]; omega
        simp only [go_sem, Pt.d, pL, v19H]
        refine wgoF (And.intro (@h1) (And.intro (@Pt.d.eq_1) (And.intro (@pL.eq_1) (@v19H.eq_1)))) ?_
        exact wretF (And.intro (@hr) (And.intro (@Pt.d.eq_1) (And.intro (@pL.eq_1) (@v19H.eq_1))))
def v18H (p : List Pt) (k : Nat) : SL := SL.mk [(0, pL p), (3, .d (.int .i64 k))] [] []

theorem valid18 (p : List Pt) (hl0 : p.length ≤ 1000000) : PCall Tryz.prog 69 [.sl 2 (p.map Pt.d)] (.bool (validB p)) := by
  refine enterP tabOk Tryz.func69 48 [0, 2, 3, 7, 39] [.tmp 2] rfl (r := [_]) rfl (h := ?_); intro E hK; simp only [go_sem, Pt.d, pL, v18H]
  refine wgoF (And.intro (@Pt.d.eq_1) (And.intro (@pL.eq_1) (@v18H.eq_1))) ?_
  refine wlpF (Run.loop (ι := { k : Nat // k ≤ p.length ∧ (p.take k).all Pt.inB = true }) (H := fun i => v18H p i.1) (μ := fun i => p.length - i.1) (i0 := ⟨0, by omega, by simp⟩)) (And.intro (@Pt.d.eq_1) (And.intro (@pL.eq_1) (@v18H.eq_1))) ?_
  rintro ⟨k, hk, hall⟩ ih
  by_cases hlt : k < p.length
  · have h1 : (k : Int) < p.length := by omega
    have hget := pt_get hlt
    have hout : (p.getD k default).inB = false → validB p = false := fun h => by simp [validB, all_out hlt h]
    by_cases c1 : (p.getD k default).x < 0
    · have hr := hout (inB_out (.inl c1))
      simp only [go_sem, Pt.d, pL, v18H]
      refine wgoF (And.intro (@h1) (And.intro (@hget) (And.intro (@c1) (And.intro (@Pt.d.eq_1) (And.intro (@pL.eq_1) (@v18H.eq_1)))))) ?_
      exact wretF (And.intro (@hr) (And.intro (@Pt.d.eq_1) (And.intro (@pL.eq_1) (@v18H.eq_1))))
    · by_cases c2 : 1000 < (p.getD k default).x
      · have hr := hout (inB_out (.inr (.inl c2)))
        simp only [go_sem, Pt.d, pL, v18H]
        refine wgoF (And.intro (@h1) (And.intro (@hget) (And.intro (@c1) (And.intro (@c2) (And.intro (@Pt.d.eq_1) (And.intro (@pL.eq_1) (@v18H.eq_1))))))) ?_
        exact wretF (And.intro (@hr) (And.intro (@Pt.d.eq_1) (And.intro (@pL.eq_1) (@v18H.eq_1))))
      · by_cases c3 : (p.getD k default).y < 0
        · have hr := hout (inB_out (.inr (.inr (.inl c3))))
          simp only [go_sem, Pt.d, pL, v18H]
          refine wgoF (And.intro (@h1) (And.intro (@hget) (And.intro (@c1) (And.intro (@c2) (And.intro (@c3) (And.intro (@Pt.d.eq_1) (And.intro (@pL.eq_1) (@v18H.eq_1)))))))) ?_
          exact wretF (And.intro (@hr) (And.intro (@Pt.d.eq_1) (And.intro (@pL.eq_1) (@v18H.eq_1))))
        · by_cases c4 : 1000 < (p.getD k default).y
          · have hr := hout (inB_out (.inr (.inr (.inr c4))))
            simp only [go_sem, Pt.d, pL, v18H]
            refine wgoF (And.intro (@h1) (And.intro (@hget) (And.intro (@c1) (And.intro (@c2) (And.intro (@c3) (And.intro (@c4) (And.intro (@Pt.d.eq_1) (And.intro (@pL.eq_1) (@v18H.eq_1))))))))) ?_
            exact wretF (And.intro (@hr) (And.intro (@Pt.d.eq_1) (And.intro (@pL.eq_1) (@v18H.eq_1))))
          · have hin := all_take hlt hall (inB_in c1 c2 c3 c4)
            simp only [go_sem, Pt.d, pL, v18H]
            refine wgoF (And.intro (@h1) (And.intro (@hget) (And.intro (@c1) (And.intro (@c2) (And.intro (@c3) (And.intro (@c4) (And.intro (@Pt.d.eq_1) (And.intro (@pL.eq_1) (@v18H.eq_1))))))))) ?_
            exact wnxtF (ih ⟨k + 1, by omega, hin⟩) (And.intro (@Pt.d.eq_1) (And.intro (@pL.eq_1) (@v18H.eq_1)))
  · have h1 : ¬ (k : Int) < p.length := by omega
    have hkl : p.take k = p := List.take_of_length_le (by omega)
    rw [hkl] at hall
    by_cases hl : (2 : Int) ≤ p.length
    · by_cases hm : (p.length : Int) ≤ 12
      · have hr : validB p = true := by simp only [validB, hall, Bool.and_true, Bool.and_eq_true, decide_eq_true_eq]; omega
        simp only [go_sem, Pt.d, pL, v18H]
        refine wgoF (And.intro (@h1) (And.intro (@hl) (And.intro (@hm) (And.intro (@Pt.d.eq_1) (And.intro (@pL.eq_1) (@v18H.eq_1)))))) ?_
        exact wretF (And.intro (@hr) (And.intro (@Pt.d.eq_1) (And.intro (@pL.eq_1) (@v18H.eq_1))))
      · have hr : validB p = false := by simp [validB]; omega
        simp only [go_sem, Pt.d, pL, v18H]
        refine wgoF (And.intro (@h1) (And.intro (@hl) (And.intro (@hm) (And.intro (@Pt.d.eq_1) (And.intro (@pL.eq_1) (@v18H.eq_1)))))) ?_
        exact wretF (And.intro (@hr) (And.intro (@Pt.d.eq_1) (And.intro (@pL.eq_1) (@v18H.eq_1))))
    · have hr : validB p = false := by simp [validB]; omega
      simp only [go_sem, Pt.d, pL, v18H]
      refine wgoF (And.intro (@h1) (And.intro (@hl) (And.intro (@Pt.d.eq_1) (And.intro (@pL.eq_1) (@v18H.eq_1))))) ?_
      exact wretF (And.intro (@hr) (And.intro (@Pt.d.eq_1) (And.intro (@pL.eq_1) (@v18H.eq_1))))
end Go.Proofs.YtojgjdcciojpeaaGreat
set_option linter.unusedSimpArgs false
set_option linter.unusedVariables false
namespace Go.Proofs.YtojgjdcciojpeaaGreat
open Go Go.PS
set_option maxRecDepth 100000
set_option maxHeartbeats 4000000
structure Tpl where
  key : Int
  p : List Pt
  deriving Inhabited
def Tpl.d (t : Tpl) : D := .agg [.int .u8 t.key, .sl 2 (t.p.map Pt.d)]
end Go.Proofs.YtojgjdcciojpeaaGreat
set_option linter.unusedSimpArgs false
set_option linter.unusedVariables false
namespace Go.Proofs.YtojgjdcciojpeaaGreat
open Go Go.RowKit Go.Maps Go.Sort Go.Shelf Go.Proofs

abbrev uB : Int → Value := Value.int .u8

/-- The two parts of a loop over an iterator: what a round takes over, what it does. -/
def loopParts (f : Func) : Code × Code := match f.body with
  | some (.seq _ (.seq (.seq _ (.block _ (.rangeFunc _ _ a b))) _)) => (a, b)
  | _ => (.skip, .skip)
def loopRec (f : Func) (fn : FuncId) (sv : Value) (Bs D : Nat) (st : LoopState) : Loop :=
  { state := st, pending := none, fn, tmps := #[.slice none 0 0, sv, .pointer (some ⟨Bs, 0, none⟩), undef, .slice none 0 0, undef, sv, undef, undef, undef, undef, undef, undef], params := #[7], assign := (loopParts f).1, body := (loopParts f).2, defers := D }

/-- Between two rounds: what has come so far lies in a row of the call's own. -/
structure Got (w0 : World) (fn : FuncId) (sv : Value) (Bs l D : Nat) (ss : List Int) (W : World) : Prop where
  box : ∃ v, W.heap[Bs]? = some (.cells #[v] 41 (0, 0)) ∧ W.ownsRow w0.heap.size 5 1 v ss.length (ss.map uB)
  rcd : W.heap[l]? = some (.loop (loopRec Tryz.f162 fn sv Bs D .ready))
  dfr : W.heap[D]? = some (.deferred (some []))
  below : Below w0.heap.size w0 W

theorem Got.abides {w0 : World} {fn : FuncId} {sv : Value} {Bs l D B : Nat} (hB : w0.heap.size ≤ B) {ss : List Int} {W W' : World} {row : Option Nat} (h : Got w0 fn sv Bs l D ss W) (hg : W.grownBy W' row)
    (hrow : ∀ r, row = some r → B ≤ r ∧ ∃ o : Obj, W.heap[r]? = some o ∧ o.isWalk = true) : Got w0 fn sv Bs l D ss W' := by
  have hr : ∀ r, row = some r → ∃ o : Obj, W.heap[r]? = some o ∧ o.isWalk = true := fun r e => (hrow r e).2
  obtain ⟨v, hv, ho⟩ := h.box
  exact ⟨⟨v, (grownBy_keeps hg hr hv rfl).trans hv, ownsRow_abides_a ho hg hr⟩, (grownBy_keeps hg hr h.rcd rfl).trans h.rcd, (grownBy_keeps hg hr h.dfr rfl).trans h.dfr,
    h.below.grown hg h.below.size (fun k e => Nat.le_trans hB (hrow k e).1)⟩

theorem cells_not5 {cur cur' : Array Value} {f : Nat × Nat} : Obj.cells cur' 41 f ≠ Obj.cells cur 5 (0, 0) := fun e => by
  have := (Obj.cells.inj e).2.1
  cases this

set_option maxRecDepth 100000 in
/-- A round: one more key. -/
theorem round42 (F : Fence) (m : Nat) (w0 : World) (fn : FuncId) (hfn : F.fn fn) (sv : Value) (Bs l D : Nat) (hBl : Bs ≠ l) (hDl : D ≠ l) (hDB : D ≠ Bs) (h0B : w0.heap.size ≤ Bs) (h0l : w0.heap.size ≤ l)
    (ss : List Int) (x : Int) (W : World) (h : Got w0 fn sv Bs l D ss W) (hlen : ss.length < 1000) :
    YieldAt F m Tryz.prog l #[uB x] W fun e W' => e = .returned (.bool true) ∧ Got w0 fn sv Bs l D (ss ++ [x]) W' ∧ KeepsWalks W W' := by
  have hi5 : (Tryz.prog.info? 5).map (fun i => (i.zero, i.size, i.bytes)) = some (some (.int .u8 0), 1, 1) := by kernel_rfl
  obtain ⟨i0, hi, hz0, hz1, hz2⟩ := info_parts hi5
  obtain ⟨v, hv, hrow⟩ := h.box
  refine ⟨fn, #[.slice none 0 0, sv, .pointer (some ⟨Bs, 0, none⟩), undef, .slice none 0 0, undef, sv, uB x, undef, undef, undef, undef, undef], (loopParts Tryz.f162).1, (loopParts Tryz.f162).2, by simpa [loopRec] using run_yield (P := Tryz.prog) (args := #[uB x]) h.rcd rfl, roundIn_of_wpIn hfn ?_⟩
  have hl : l < W.heap.size := (Array.getElem?_eq_some_iff.1 h.rcd).1
  have hbr := run_beginRound (P := Tryz.prog) h.rcd rfl
  generalize hW2 : W.putObj l (.loop { loopRec Tryz.f162 fn sv Bs D .ready with state := .busy }) = W2 at hbr
  have hg2 : W.grownBy W2 (some l) := by rw [← hW2]; exact grownBy_putObj_a _ _ _
  have hk2 : KeepsWalks W W2 := by rw [← hW2]; exact KeepsWalks.putObj _ h.rcd rfl
  have hv2 : W2.heap[Bs]? = some (.cells #[v] 41 (0, 0)) := by rw [← hW2]; exact (World.putObj_heap_other hBl).trans hv
  have hK2 : W2.heap[D]? = some (.deferred (some [])) := by rw [← hW2]; exact (World.putObj_heap_other hDl).trans h.dfr
  have hL2 : W2.heap[l]? = some (.loop { loopRec Tryz.f162 fn sv Bs D .ready with state := .busy }) := by rw [← hW2]; exact World.putObj_heap_same hl
  have hrow2 : W2.ownsRow w0.heap.size 5 1 v ss.length (ss.map uB) := hrow.kept hg2 (ownsRow_ne_a hrow h.rcd (fun cur e => by cases e))
  have hb2 : Below w0.heap.size w0 W2 := h.below.grown hg2 h.below.size (fun k e => by cases e; exact h0l)
  obtain ⟨hc2, hf2⟩ := cell_of_box_a hv2
  have hBlt : Bs < W2.heap.size := (Array.getElem?_eq_some_iff.1 hv2).1
  have hl2 : l < W2.heap.size := (Array.getElem?_eq_some_iff.1 hL2).1
  have hDlt : D < W2.heap.size := (Array.getElem?_eq_some_iff.1 hK2).1
  have apart : ∀ {j : Nat} {o : Obj}, W2.heap[j]? = some o → (∀ cur, o ≠ .cells cur 5 (0, 0)) → some j ≠ v.ownBlock := fun hj hno => by
    rcases ownsRow_ne_a hrow2 hj hno with e | e
    · rw [e]; simp
    · exact fun e' => e e'.symm
  clear hW2
  generalize hB : (loopParts Tryz.f162).2 = bd
  simp only [loopParts, Tryz.f162]
  gi_wp2_with gi_round_op_a
  subst hB
  simp only [loopParts, Tryz.f162]
  gi_wp2_with (first
    | (gi_at_builtin; refine wpListIn_append_own _ rfl _ _ 41 rfl w0.heap.size 5 i0 (.int .u8 0) 1 1 Tryz.underlying41 hi hz0 hz1 hz2 rfl (by decide) _ _ _ rfl (hrow2.alloc _) ⟨W2.heap.size, 0, none⟩ 1 1 [uB x] rfl rfl (cell_one_new _ _ _) (by simp [Value.oneCell', uB]) (by simp only [maxLen]; omega) (by omega) (by have := hb2.size; simp; omega) ?_; intro v' w3 hown' hg3 hnil3
       have hv3 : w3.heap[Bs]? = some (.cells #[v] 41 (0, 0)) := (hg3.block Bs (by simp; omega) (apart hv2 (fun cur => cells_not5))).trans ((Below.heap_alloc _ _ Bs hBlt).trans hv2)
       obtain ⟨hc3, hf3⟩ := cell_of_box_a hv3
       obtain ⟨g', cap', cur', rfl, hrest⟩ := hown'.2.resolve_left (fun h0 => Nat.succ_ne_zero _ h0.2)
       go_frame)
    | gi_round_op_a)
  have hg3' : (W2.alloc (.cells #[uB x] 5)).grownBy w3 v.ownBlock := hg3
  have hL3 : w3.heap[l]? = some (.loop { loopRec Tryz.f162 fn sv Bs D .ready with state := .busy }) := (hg3'.block l (by simp; omega) (apart hL2 (fun cur e => by cases e))).trans ((Below.heap_alloc _ _ l hl2).trans hL2)
  have hK3 : w3.heap[D]? = some (.deferred (some [])) := (hg3'.block D (by simp; omega) (apart hK2 (fun cur e => by cases e))).trans ((Below.heap_alloc _ _ D hDlt).trans hK2)
  generalize hw4 : w3.setCell ⟨Bs, 0, none⟩ (.slice (some ⟨g', 0, none⟩) (ss.length + 1) cap') = w4
  have hg4 : w3.grownBy w4 (some Bs) := by rw [← hw4]; exact grownBy_setCell0_a _ _ _
  have hv4 : w4.heap[Bs]? = some (.cells #[.slice (some ⟨g', 0, none⟩) (ss.length + 1) cap'] 41 (0, 0)) := by rw [← hw4]; exact heap_setCell_box_a _ hv3
  have hL4 : w4.heap[l]? = some (.loop { loopRec Tryz.f162 fn sv Bs D .ready with state := .busy }) := (hg4.block l (Array.getElem?_eq_some_iff.1 hL3).1 (fun e => hBl (by cases e; rfl))).trans hL3
  have hK4 : w4.heap[D]? = some (.deferred (some [])) := (hg4.block D (Array.getElem?_eq_some_iff.1 hK3).1 (fun e => hDB (by cases e; rfl))).trans hK3
  have hrow4 := hown'.kept hg4 (ownsRow_ne_a hown' hv3 (fun cur => cells_not5))
  have hl4 : l < w4.heap.size := (Array.getElem?_eq_some_iff.1 hL4).1
  have hb3 : Below w0.heap.size w0 w3 := (hb2.alloc hb2.size _).grown hg3' (by have := hb2.size; simp; omega) (fun k e => (hrow2.lt k e).1)
  have hb4 : Below w0.heap.size w0 w4 := hb3.grown hg4 hb3.size (fun k e => by cases e; exact h0B)
  have hk4 : KeepsWalks W w4 := ((hk2.trans (KeepsWalks.alloc _ _)).trans (KeepsWalks.of_grownBy hg3' (ownsRow_not_walk_a (hrow2.alloc _)))).trans (by rw [← hw4]; exact KeepsWalks.setCell _ _ _)
  clear hw4
  refine ⟨_, _, run_endRound none hL4, rfl, ⟨⟨_, (World.putObj_heap_other hBl).trans hv4, ?_⟩, World.putObj_heap_same hl4, (World.putObj_heap_other hDl).trans hK4, hb4.grown (grownBy_putObj_a _ _ _) hb4.size (fun k e => by cases e; exact h0l)⟩, hk4.trans (KeepsWalks.putObj _ hL4 rfl)⟩
  have := hrow4.kept (grownBy_putObj_a w4 l (.loop { { loopRec Tryz.f162 fn sv Bs D .ready with state := .busy } with state := if (none : Option Code).isNone then .ready else .done, pending := none })) (ownsRow_ne_a hrow4 hL4 (fun cur e => by cases e))
  simpa using this
end Go.Proofs.YtojgjdcciojpeaaGreat

/-
  A part of the walks of this seat: each theorem says what a function of the program gives. No condition beyond its own premises.
-/
import Derived.Test.YtojgjdcciojpeaaGreatD13
set_option linter.unusedSimpArgs false
set_option linter.unusedVariables false
namespace Go.Proofs.YtojgjdcciojpeaaGreat
open Go Go.PS
set_option maxRecDepth 100000
set_option maxHeartbeats 4000000
/-- A letter by its number. -/
def letU (n : Int) : UInt8 := UInt8.ofNat (97 + n.toNat)
def textF (l : List Int) (n : Nat) (k : Int) : List UInt8 := (l.take n).map fun x => letU (x % k)
def abc : List UInt8 := [97, 98, 99, 100, 101, 102, 103, 104, 105, 106, 107, 108, 109, 110, 111, 112, 113, 114, 115, 116, 117, 118, 119, 120, 121, 122]
theorem abc_at {n : Int} (h : 0 ≤ n ∧ n < 26) : List.take ((n + 1).toNat - n.toNat) (List.drop n.toNat abc) = [letU n] := by
  obtain ⟨h1, h2⟩ := h
  obtain ⟨m, rfl⟩ : ∃ m : Nat, n = m := ⟨n.toNat, by omega⟩
  have : m < 26 := by omega
  have e : ((m : Int) + 1).toNat - (m : Int).toNat = 1 := by omega
  rw [e, Int.toNat_natCast]
  have key : ∀ m : Fin 26, List.take 1 (List.drop m.val abc) = [letU (m.val : Int)] := by decide
  exact key ⟨m, this⟩
def u8s (l : List Int) : Prop := (∀ x ∈ l, 0 ≤ x ∧ x ≤ 255) ∧ l.length ≤ 9223372036854775807
theorem u8s_at {l : List Int} (h : u8s l) {i : Nat} (hi : i < l.length) : 0 ≤ l.getD i 0 ∧ l.getD i 0 ≤ 255 := by
  have e : l.getD i 0 = l[i] := by simp [hi]
  rw [e]; exact h.1 _ (List.getElem_mem hi)
theorem text_snoc (l : List Int) (n : Nat) (k : Int) {i : Nat} (h : i < l.length) (hn : i < n) : textF (l.take (i + 1)) n k = textF (l.take i) n k ++ [letU (l.getD i 0 % k)] := by
  have e : l.getD i 0 = l[i] := by simp [h]
  unfold textF
  rw [List.take_take, List.take_take, Nat.min_eq_right (by omega), Nat.min_eq_right (by omega), List.take_succ_eq_append_getElem h, e, List.map_append]
  rfl
theorem text_len (l : List Int) (n : Nat) (k : Int) : (textF l n k).length = min n l.length := by simp [textF]
theorem text54 (l : List Int) (n : Nat) (k : Int) (hl : u8s l) (hn : n ≤ 100) (hk : 0 < k ∧ k ≤ 26) : PCall Tryz.prog 54 [.sl 1 (l.map (D.int .u8)), .int .i64 n, .int .i64 k] (.str (textF l n k)) := by
  obtain ⟨k1, k2⟩ := hk
  have hll := hl.2
  have ht0 : textF [] n k = [] := by simp [textF]
  refine enterP tabOk Tryz.func54 37 [0, 1, 2, 6, 7, 8, 9, 10, 19] [.tmp 6] rfl (r := [_]) rfl (h := ?_); intro E hK; simp only [go_sem]
  refine wgo ?_
  refine wlpF (Run.loopC (ι := { i : Nat // i ≤ l.length ∧ i ≤ n }) (U := fun i => [(8, .d (.str (textF (l.take i.1) n k))), (9, .d (.int .i64 i.1))]) (O := fun i => []) (K := fun _ => []) (μ := fun i => l.length - i.1) (i0 := ⟨0, by omega, by omega⟩)) (@ht0) ?_
  rintro ⟨i, hi, hin⟩ ih
  by_cases hlt : i < l.length
  · have h1 : (i : Int) < l.length := by omega
    by_cases hlt2 : i < n
    · have h2 : (i : Int) < n := by omega
      have hget : (List.map (D.int .u8) l).getD i .nilp = .int .u8 (l.getD i 0) := by simp [hlt]
      obtain ⟨b1, b2⟩ := u8s_at hl hlt
      have m1 := Int.emod_nonneg (l.getD i 0) (show k ≠ 0 by omega)
      have m2 := Int.emod_lt_of_pos (l.getD i 0) k1
      have hs := text_snoc l n k hlt hlt2
      have ha := abc_at (n := l.getD i 0 % k) ⟨m1, by omega⟩
      have hle := text_len (l.take i) n k
      have ha2 : List.take ((l.getD i 0 % k + 1).toNat - (l.getD i 0 % k).toNat) (List.drop (l.getD i 0 % k).toNat [97, 98, 99, 100, 101, 102, 103, 104, 105, 106, 107, 108, 109, 110, 111, 112, 113, 114, 115, 116, 117, 118, 119, 120, 121, 122]) = [letU (l.getD i 0 % k)] := ha
      have hle2 : (textF (l.take i) n k).length ≤ 100 := by rw [hle]; omega
      simp only [go_sem]
      refine wgoF (And.intro (@h1) (And.intro (@h2) (@hget))) ?_
      exact wnxtF (ih ⟨i + 1, by omega, by omega⟩) (And.intro (@hs) (@ha2))
    · have h2 : ¬ (i : Int) < n := by omega
      have hf : textF (l.take i) n k = textF l n k := by
        unfold textF; rw [List.take_take, Nat.min_eq_left (by omega), show n = i by omega]
      simp only [go_sem]
      refine wgoF (And.intro (@h1) (@h2)) ?_
      exact wretF (@hf)
  · have h1 : ¬ (i : Int) < l.length := by omega
    have hf : l.take i = l := List.take_of_length_le (by omega)
    simp only [go_sem, hf]
    refine wgoF (@h1) ?_
    exact wret
/-- An area of a board. -/
structure Ar where
  k : Int
  x0 : Int
  y0 : Int
  x1 : Int
  y1 : Int
  deriving DecidableEq, Inhabited
def Ar.d (a : Ar) : D := .agg [.int .u8 a.k, .int .i64 a.x0, .int .i64 a.y0, .int .i64 a.x1, .int .i64 a.y1]
def bpD (e : Int × Int) : D := .agg [.int .u8 e.1, .int .u8 e.2]
def bps (l : List (Int × Int)) : Prop := (∀ e ∈ l, 0 ≤ e.1 ∧ e.1 ≤ 255 ∧ 0 ≤ e.2 ∧ e.2 ≤ 255) ∧ l.length ≤ 9223372036854775807
theorem bp_get {l : List (Int × Int)} {i : Nat} (h : i < l.length) : (List.map bpD l).getD i .nilp = .agg [.int .u8 (l.getD i default).1, .int .u8 (l.getD i default).2] := by simp [h, bpD]
theorem bp_at {l : List (Int × Int)} (h : bps l) {i : Nat} (hi : i < l.length) : 0 ≤ (l.getD i default).1 ∧ (l.getD i default).1 ≤ 255 ∧ 0 ≤ (l.getD i default).2 ∧ (l.getD i default).2 ≤ 255 := by
  have e : l.getD i default = l[i] := by simp [hi]
  rw [e]; exact h.1 _ (List.getElem_mem hi)
def mkA (i : Nat) (x y : Int) (e : Int × Int) : Ar := ⟨97 + i, x, y, x + e.1 % 21, y + e.2 % 21⟩
def madeGo : List (Int × Int) → Nat → Int → Int → List Ar
  | [], _, _, _ => []
  | e :: r, i, x, y => if 14 ≤ i then [] else mkA i x y e :: (if i % 5 = 4 then madeGo r (i + 1) 0 (y + 22) else madeGo r (i + 1) (x + (e.1 % 21 + 1 + e.1 / 21 % 9)) y)
def madeA (l : List (Int × Int)) : List Ar := madeGo l 0 0 0
theorem made_drop {l : List (Int × Int)} {i : Nat} (h : i < l.length) (x y : Int) : madeGo (l.drop i) i x y = if 14 ≤ i then [] else mkA i x y (l.getD i default) :: (if i % 5 = 4 then madeGo (l.drop (i + 1)) (i + 1) 0 (y + 22) else madeGo (l.drop (i + 1)) (i + 1) (x + ((l.getD i default).1 % 21 + 1 + (l.getD i default).1 / 21 % 9)) y) := by
  have e : l.getD i default = l[i] := by simp [h]
  rw [List.drop_eq_getElem_cons h, madeGo, e]
def ptD (x y : Int) : D := .agg [.int .i64 x, .int .i64 y]
def mT : List D := [.agg [.int .u8 97, .sl 2 [ptD 0 0, ptD 20 20]], .agg [.int .u8 98, .sl 2 [ptD 20 0, ptD 0 20, ptD 20 40]]]
def mC : List Ck := [⟨[97, 98], 99⟩, ⟨[97, 98, 99], 97⟩]
def madeB (l : List (Int × Int)) : Brd := ⟨5, (madeA l).map Ar.d, 2, mT, mC⟩
def mO (out : List Ar) (t : Tok) : OB := ⟨32, 3, [.agg [.own 5 (out.map Ar.d) t, .own 0 [] .full, .own 2 [.agg [.str [97, 98], .int .u8 99], .agg [.str [97, 98, 99], .int .u8 97]] .full]]⟩
theorem alen (a : List Ar) : (List.map Ar.d a).length = a.length := List.length_map ..
theorem made16 (l : List (Int × Int)) (hl : bps l) : PCall Tryz.prog 16 [.sl 2 (l.map bpD)] (madeB l).d := by
  have hll := hl.2
  refine enterP tabOk Tryz.func16 84 [0, 2, 3, 4, 5, 6, 7, 8, 20, 69] [.cell 2 32] rfl (r := [_]) rfl (h := ?_); intro E hK; simp only [go_sem]
  refine wgo ?_
  (apply Run.fullOb 3 0 1003 121 5; (case ho => simp only [go_sem]; rfl); (case hel => simp only [go_sem]; rfl); (case hj => simp only [go_sem]; rfl); (case ht => simp only [go_sem]); (case hsm => decide); (case hs => simp only [go_sem]; rfl))
  refine wlpF (Run.loopC (ι := { z : Nat × Int × Int × List Ar // z.1 ≤ l.length ∧ z.1 ≤ 14 ∧ 0 ≤ z.2.1 ∧ z.2.1 ≤ 30 * z.1 ∧ 0 ≤ z.2.2.1 ∧ z.2.2.1 ≤ 22 * z.1 ∧ z.2.2.2.length = z.1 ∧ z.2.2.2 ++ madeGo (l.drop z.1) z.1 z.2.1 z.2.2.1 = madeA l }) (U := fun z => [(4, .d (.int .i64 z.1.2.1)), (5, .d (.int .i64 z.1.2.2.1)), (6, .d (.int .i64 z.1.1))]) (O := fun z => [(3, some (mO z.1.2.2.2 (.tok 1003)))]) (K := fun _ => [(1003, .live 121 5)]) (μ := fun z => l.length - z.1.1) (i0 := ⟨(0, 0, 0, []), by omega, by omega, by dsimp only; omega, by dsimp only; omega, by dsimp only; omega, by dsimp only; omega, rfl, rfl⟩)) (@mO.eq_1) ?_
  rintro ⟨⟨i, x, y, out⟩, hi, h14, hx0, hx1, hy0, hy1, ho, hp⟩ ih
  dsimp only at hi h14 hx0 hx1 hy0 hy1 ho hp
  have eo := alen out
  by_cases hlt : i < l.length ∧ i < 14
  · obtain ⟨hlt, hl14⟩ := hlt
    have h1 : (i : Int) < l.length := by omega
    have h2 : (i : Int) < 14 := by omega
    have hget := bp_get hlt
    obtain ⟨b1, b2, b3, b4⟩ := bp_at hl hlt
    rw [made_drop hlt, if_neg (by omega)] at hp
    generalize l.getD i default = e at hget b1 b2 b3 b4 hp
    have d1 : divT e.1 21 = e.1 / 21 := divT_nn b1
    by_cases hm : i % 5 = 4
    · rw [if_pos hm] at hp
      have c1 : decide ((i : Int) % 5 = 4) = true := decide_eq_true (by omega)
      simp only [go_sem, mO]
      refine wgoF (And.intro (@h1) (And.intro (@h2) (And.intro (@hget) (And.intro (@d1) (And.intro (@c1) (@eo)))))) ?_
      (apply Run.retok 52 1003; (case hk => simp only [go_sem]; rfl); (case ht => simp only [go_sem]; rfl); (case ht' => simp only [go_sem]); (case hs => simp only [go_sem]; rfl))
      exact wnxtF (ih ⟨(i + 1, 0, y + 22, out ++ [mkA i x y e]), by dsimp only; omega, by dsimp only; omega, by dsimp only; omega, by dsimp only; omega, by dsimp only; omega, by dsimp only; omega, by simp [ho], by rw [List.append_assoc]; exact hp⟩) (And.intro (@mO.eq_1) (And.intro (@Ar.d.eq_1) (@mkA.eq_1)))
    · rw [if_neg hm] at hp
      have c1 : decide ((i : Int) % 5 = 4) = false := decide_eq_false (by omega)
      simp only [go_sem, mO]
      refine wgoF (And.intro (@h1) (And.intro (@h2) (And.intro (@hget) (And.intro (@d1) (And.intro (@c1) (@eo)))))) ?_
      (apply Run.retok 52 1003; (case hk => simp only [go_sem]; rfl); (case ht => simp only [go_sem]; rfl); (case ht' => simp only [go_sem]); (case hs => simp only [go_sem]; rfl))
      exact wnxtF (ih ⟨(i + 1, x + (e.1 % 21 + 1 + e.1 / 21 % 9), y, out ++ [mkA i x y e]), by dsimp only; omega, by dsimp only; omega, by dsimp only; omega, by dsimp only; omega, by dsimp only; omega, by dsimp only; omega, by simp [ho], by rw [List.append_assoc]; exact hp⟩) (And.intro (@mO.eq_1) (And.intro (@Ar.d.eq_1) (@mkA.eq_1)))
  · have c : (decide ((i : Int) < l.length) && decide ((i : Int) < 14)) = false := by
      rw [Bool.and_eq_false_iff]
      by_cases q : i < l.length
      · right; exact decide_eq_false (by omega)
      · left; exact decide_eq_false (by omega)
    have hout : out = madeA l := by
      rw [← hp]
      by_cases q : i < l.length
      · rw [made_drop q, if_pos (by omega), List.append_nil]
      · rw [List.drop_eq_nil_of_le (by omega)]; simp [madeGo]
    simp only [go_sem, mO]
    refine wgoF (@c) ?_
    exact wretF (And.intro (@madeB.eq_1) (And.intro (@Brd.d.eq_1) (And.intro (@mT.eq_1) (And.intro (@mC.eq_1) (And.intro (@Ck.d.eq_1) (And.intro (@ptD.eq_1) (@hout)))))))
end Go.Proofs.YtojgjdcciojpeaaGreat
set_option linter.unusedSimpArgs false
set_option linter.unusedVariables false
namespace Go.Proofs.YtojgjdcciojpeaaGreat
open Go Go.PS
set_option maxRecDepth 100000
set_option maxHeartbeats 4000000
/-! Events that the reference makes of numbers. -/
structure Raw where
  kind : Int
  L : List Int
  P : List (Int × Int)
  N : Int
  M : Int
  deriving DecidableEq, Inhabited
def Raw.d (x : Raw) : D := .agg [.int .u8 x.kind, .sl 1 (x.L.map (D.int .u8)), .sl 2 (x.P.map bpD), .int .u8 x.N, .int .u8 x.M]
def Raw.ok (x : Raw) : Prop := (0 ≤ x.kind ∧ x.kind ≤ 255) ∧ u8s x.L ∧ bps x.P ∧ (0 ≤ x.N ∧ x.N ≤ 255) ∧ (0 ≤ x.M ∧ x.M ≤ 255)
def textA (x : Raw) (k : Int) : List UInt8 := if textF x.L 5 k = [] then [97] else textF x.L 5 k
def quadP (e : Int × Int) : Pt := ⟨4 * e.1 % 1001, 4 * e.2 % 1001⟩
def basF (l : List (Int × Int)) : List Pt := (l.take 6).map quadP
def padF (N : Int) : List Pt → List Pt
  | [] => [⟨0, N⟩, ⟨30, N⟩]
  | [a] => [a, ⟨30, N⟩]
  | l => l
def ptsF (x : Raw) : List Pt := padF x.N (basF x.P)
def chFn (n m : Int) (i : Nat) : UInt8 := letU (n % 20 + (i : Int) * (1 + m / 3 % 2))
def chTo (n m : Int) (i : Nat) : List UInt8 := (List.range i).map (chFn n m)
def chordF (n m : Int) : List UInt8 := chTo n m (2 + (m % 3).toNat)
theorem chTo_succ (n m : Int) (i : Nat) : chTo n m (i + 1) = chTo n m i ++ [letU (n % 20 + (i : Int) * (1 + m / 3 % 2))] := by
  unfold chTo; rw [List.range_succ, List.map_append]; rfl
theorem chTo_len (n m : Int) (i : Nat) : (chTo n m i).length = i := by simp [chTo]
def madeK (x : Raw) (tA : List UInt8) (q : List Pt) (kd : Int) : Ev :=
  if kd = 1 then ⟨1, tA.take 1, [], [], 0, 0⟩
  else if kd = 2 then ⟨2, chordF x.N x.M, [], [], 0, 0⟩
  else if kd = 3 then ⟨3, [], q.take 1, [], 0, 0⟩
  else if kd = 4 then ⟨4, [], q, [], 0, 0⟩
  else if kd = 5 then ⟨5, [], [], tA, 0, 0⟩
  else if kd = 9 then ⟨9, [], [], [], x.N % 40, 1 + x.M % 40⟩
  else if kd = 10 then ⟨10, [], [], [], x.N % 50, 0⟩
  else ⟨kd, [], [], [], 0, 0⟩
def madeE (x : Raw) (k : Int) : Ev := madeK x (textA x k) (ptsF x) (1 + x.kind % 12)
theorem chord82 (n m : Int) (hn : 0 ≤ n ∧ n ≤ 255) (hm : 0 ≤ m ∧ m ≤ 255) : PCall Tryz.prog 82 [.int .u8 n, .int .u8 m] (.str (chordF n m)) := by
  obtain ⟨n1, n2⟩ := hn
  obtain ⟨m1, m2⟩ := hm
  have d3 : divT m 3 = m / 3 := divT_nn m1
  have z0 : chTo n m 0 = [] := rfl
  refine enterP tabOk Tryz.func82 42 [0, 1, 4, 5, 6, 7, 8, 9, 23] [.tmp 4] rfl (r := [_]) rfl (h := ?_); intro E hK; simp only [go_sem]
  refine wgoF (@d3) ?_
  refine wlpF (Run.loopC (ι := { i : Nat // i ≤ 2 + (m % 3).toNat }) (U := fun i => [(8, .d (.str (chTo n m i.1))), (9, .d (.int .i64 i.1))]) (O := fun i => []) (K := fun _ => []) (μ := fun i => 2 + (m % 3).toNat - i.1) (i0 := ⟨0, by omega⟩)) (@z0) ?_
  rintro ⟨i, hi⟩ ih
  by_cases hlt : i < 2 + (m % 3).toNat
  · have h1 : (i : Int) < 2 + m % 3 := by omega
    have hb : 0 ≤ (i : Int) * (1 + m / 3 % 2) ∧ (i : Int) * (1 + m / 3 % 2) ≤ 6 := by
      rcases (show m / 3 % 2 = 0 ∨ m / 3 % 2 = 1 by omega) with h | h <;> rw [h] <;> omega
    obtain ⟨hb1, hb2⟩ := hb
    have ha := abc_at (n := n % 20 + (i : Int) * (1 + m / 3 % 2)) ⟨by omega, by omega⟩
    have hst := chTo_succ n m i
    have hlen := chTo_len n m i
    generalize chTo n m i = out at hst hlen
    have ha2 : List.take ((n % 20 + (i : Int) * (1 + m / 3 % 2) + 1).toNat - (n % 20 + (i : Int) * (1 + m / 3 % 2)).toNat) (List.drop (n % 20 + (i : Int) * (1 + m / 3 % 2)).toNat [97, 98, 99, 100, 101, 102, 103, 104, 105, 106, 107, 108, 109, 110, 111, 112, 113, 114, 115, 116, 117, 118, 119, 120, 121, 122]) = [letU (n % 20 + (i : Int) * (1 + m / 3 % 2))] := ha
    simp only [go_sem]
    refine wgoF (@h1) ?_
    exact wnxtF (ih ⟨i + 1, by omega⟩) (And.intro (@hst) (@ha2))
  · have h1 : ¬ (i : Int) < 2 + m % 3 := by omega
    have hi2 : chTo n m i = chordF n m := by unfold chordF; rw [show i = 2 + (m % 3).toNat by omega]
    simp only [go_sem, hi2]
    refine wgoF (@h1) ?_
    exact wret
theorem bas_snoc {l : List (Int × Int)} {i : Nat} (h : i < l.length) (h6 : i < 6) : basF (l.take (i + 1)) = basF (l.take i) ++ [quadP (l.getD i default)] := by
  have e : l.getD i default = l[i] := by simp [h]
  unfold basF
  rw [List.take_take, List.take_take, Nat.min_eq_right (by omega), Nat.min_eq_right (by omega), List.take_succ_eq_append_getElem h, e, List.map_append]
  rfl
theorem bas_len (l : List (Int × Int)) : (basF l).length ≤ 6 := by simp [basF]; omega
theorem bas_in {l : List (Int × Int)} (hl : bps l) : ∀ p ∈ basF l, 0 ≤ p.x ∧ p.x ≤ 1000 ∧ 0 ≤ p.y ∧ p.y ≤ 1000 := by
  intro p hp
  obtain ⟨e, he, rfl⟩ := List.mem_map.1 hp
  unfold quadP
  dsimp only
  omega
theorem pad_big {N : Int} {q : List Pt} (h : ¬ q.length < 2) : padF N q = q := by
  match q, h with
  | [], h => simp at h
  | [_], h => simp at h
  | _ :: _ :: _, _ => rfl
theorem pad_step {N : Int} {q : List Pt} (h : q.length < 2) : padF N (q ++ [⟨30 * (q.length : Int), N⟩]) = padF N q := by
  match q, h with
  | [], _ => rfl
  | [_], _ => rfl
  | _ :: _ :: _, h => exfalso; simp only [List.length_cons] at h; omega
theorem take1_app {α : Type} [Inhabited α] {l : List α} (h : 0 < l.length) : l.take 1 = [l.getD 0 default] := by
  match l, h with
  | a :: _, _ => rfl
theorem textA_len (x : Raw) (k : Int) : (textA x k).length ≤ 5 ∧ 1 ≤ (textA x k).length := by
  unfold textA
  have h := text_len x.L 5 k
  split
  · simp
  · rename_i h0
    have := List.length_pos_iff.2 h0
    omega
theorem made61 (x : Raw) (hx : x.ok) (k : Int) (hk : 0 < k ∧ k ≤ 26) : PCall Tryz.prog 61 [x.d, .int .i64 k] (madeE x k).d := by
  obtain ⟨⟨k1, k2⟩, hL, hP, ⟨n1, n2⟩, ⟨m1, m2⟩⟩ := hx
  have ht := text54 x.L 5 k hL (by omega) hk
  have hc := chord82 x.N x.M ⟨n1, n2⟩ ⟨m1, m2⟩
  have htl := textA_len x k
  have hPl := hP.2
  obtain ⟨kd, hkd⟩ : ∃ kd, 1 + x.kind % 12 = kd := ⟨_, rfl⟩
  have hme : madeE x k = madeK x (textA x k) (ptsF x) kd := by unfold madeE; rw [hkd]
  have z0 : basF [] = [] := rfl
  have z1 : (List.map Pt.d ([] : List Pt)) = [] := rfl
  rcases (show (decide (textF x.L 5 k = []) = true ∧ [97] = textA x k) ∨ (decide (textF x.L 5 k = []) = false ∧ textF x.L 5 k = textA x k) by
    unfold textA
    by_cases c : textF x.L 5 k = []
    · exact .inl ⟨decide_eq_true c, by rw [if_pos c]⟩
    · exact .inr ⟨decide_eq_false c, by rw [if_neg c]⟩) with ⟨ct, et⟩ | ⟨ct, et⟩
  all_goals
    refine enterP tabOk Tryz.func61 117 [0, 1, 2, 4, 5, 6, 7, 8, 20, 30, 57, 69, 70, 75, 83, 88, 92, 96, 109] [.cell 4 26] rfl (r := [_]) rfl (h := ?_); intro E hK; simp only [go_sem]
    refine wgoF (And.intro (@Raw.d.eq_1) (@hkd)) ?_
    refine wcall (ht) ?_
    refine wgoF (@ct) ?_
    (apply Run.full 7 1007 70 2; (case hi => simp only [go_sem]; rfl); (case ht => simp only [go_sem]); (case hmn => first | exact Or.inl (by decide) | exact Or.inr rfl); (case hs => simp only [go_sem]; rfl))
    rw [et]
    generalize textA x k = tA at hme htl
    clear et ct ht
    refine wlpF (Run.loopC (ι := { i : Nat // i ≤ x.P.length ∧ i ≤ 6 }) (U := fun i => [(7, .own 2 ((basF (x.P.take i.1)).map Pt.d) (.tok 1007)), (8, .d (.int .i64 i.1))]) (O := fun i => []) (K := fun _ => [(1007, .live 70 2)]) (μ := fun i => x.P.length - i.1) (i0 := ⟨0, by omega, by omega⟩)) (@z0) ?_
    rintro ⟨i, hi, hi6⟩ ih
    by_cases hlt : i < x.P.length ∧ i < 6
    · obtain ⟨hlt, hl6⟩ := hlt
      have h1 : (i : Int) < x.P.length := by omega
      have h2 : (i : Int) < 6 := by omega
      have hget := bp_get hlt
      obtain ⟨b1, b2, b3, b4⟩ := bp_at hP hlt
      have hbl := bas_len (x.P.take i)
      have hst := bas_snoc hlt hl6
      generalize x.P.getD i default = e at hget b1 b2 b3 b4 hst
      simp only [go_sem]
      refine wgoF (And.intro (@h1) (And.intro (@h2) (@hget))) ?_
      (apply Run.retok 54 1007; (case hk => simp only [go_sem]; rfl); (case ht => simp only [go_sem]; rfl); (case ht' => simp only [go_sem]); (case hs => simp only [go_sem]; rfl))
      exact wnxtF (ih ⟨i + 1, by omega, by omega⟩) (And.intro (@hst) (And.intro (@quadP.eq_1) (@Pt.d.eq_1)))
    · have c : (decide ((i : Int) < x.P.length) && decide ((i : Int) < 6)) = false := by
        rw [Bool.and_eq_false_iff]
        by_cases q : i < x.P.length
        · right; exact decide_eq_false (by omega)
        · left; exact decide_eq_false (by omega)
      have hb : basF (x.P.take i) = basF x.P := by
        unfold basF
        by_cases q : i < x.P.length
        · rw [List.take_take, show i = 6 by omega]; rfl
        · have e : x.P.take i = x.P := List.take_of_length_le (by omega)
          rw [e]
      have hbl := bas_len x.P
      simp only [go_sem, hb]
      refine wgoF (@c) ?_
      refine wlp (Run.loopC (ι := { q : List Pt // padF x.N q = ptsF x ∧ q.length ≤ 6 }) (U := fun q => [(7, .own 2 (q.1.map Pt.d) (.tok 1007))]) (O := fun i => []) (K := fun _ => [(1007, .live 70 2)]) (μ := fun q => 2 - q.1.length) (i0 := ⟨basF x.P, rfl, hbl⟩)) ?_
      rintro ⟨q, hq, hql⟩ ih
      by_cases h2 : q.length < 2
      · have h3 : (q.length : Int) < 2 := by omega
        have hst := pad_step (N := x.N) h2
        simp only [go_sem]
        refine wgoF (@h3) ?_
        (apply Run.retok 67 1007; (case hk => simp only [go_sem]; rfl); (case ht => simp only [go_sem]; rfl); (case ht' => simp only [go_sem]); (case hs => simp only [go_sem]; rfl))
        exact wnxtF (ih ⟨q ++ [⟨30 * (q.length : Int), x.N⟩], by rw [hst]; exact hq, by simp; omega⟩) (@Pt.d.eq_1)
      · have h3 : ¬ (q.length : Int) < 2 := by omega
        rw [pad_big h2] at hq
        have hq1 := take1_app (l := q) (by omega)
        have hq2 : List.take 1 (List.map Pt.d q) = List.map Pt.d (q.take 1) := by rw [List.map_take]
        have hq3 : 1 ≤ (q.length : Int) := by omega
        have ht3 : 1 ≤ (tA.length : Int) := by omega
        rw [← hq] at hme
        have hkr : 1 ≤ kd ∧ kd ≤ 12 := by omega
        simp only [go_sem]
        rcases (show kd = 1 ∨ kd = 2 ∨ kd = 3 ∨ kd = 4 ∨ kd = 5 ∨ kd = 9 ∨ kd = 10 ∨ kd = 6 ∨ kd = 7 ∨ kd = 8 ∨ kd = 11 ∨ kd = 12 by omega) with rfl | rfl | rfl | rfl | rfl | rfl | rfl | rfl | rfl | rfl | rfl | rfl
        · have hr : madeE x k = ⟨1, tA.take 1, [], [], 0, 0⟩ := hme
          refine wgoF (And.intro (@h3) (@ht3)) ?_
          exact wretF (And.intro (@hr) (@Ev.d.eq_1))
        · have hr : madeE x k = ⟨2, chordF x.N x.M, [], [], 0, 0⟩ := hme
          refine wgoF (@h3) ?_
          refine wcall (hc) ?_
          refine wgo ?_
          exact wretF (And.intro (@hr) (@Ev.d.eq_1))
        · have hr : madeE x k = ⟨3, [], q.take 1, [], 0, 0⟩ := hme
          refine wgoF (And.intro (@h3) (And.intro (@hq3) (@hq2))) ?_
          exact wretF (And.intro (@hr) (@Ev.d.eq_1))
        · have hr : madeE x k = ⟨4, [], q, [], 0, 0⟩ := hme
          refine wgoF (@h3) ?_
          exact wretF (And.intro (@hr) (@Ev.d.eq_1))
        · have hr : madeE x k = ⟨5, [], [], tA, 0, 0⟩ := hme
          refine wgoF (@h3) ?_
          exact wretF (And.intro (@hr) (@Ev.d.eq_1))
        · have hr : madeE x k = ⟨9, [], [], [], x.N % 40, 1 + x.M % 40⟩ := hme
          refine wgoF (@h3) ?_
          exact wretF (And.intro (@hr) (@Ev.d.eq_1))
        · have hr : madeE x k = ⟨10, [], [], [], x.N % 50, 0⟩ := hme
          refine wgoF (@h3) ?_
          exact wretF (And.intro (@hr) (@Ev.d.eq_1))
        · have hr : madeE x k = ⟨6, [], [], [], 0, 0⟩ := hme
          refine wgoF (@h3) ?_
          exact wretF (And.intro (@hr) (@Ev.d.eq_1))
        · have hr : madeE x k = ⟨7, [], [], [], 0, 0⟩ := hme
          refine wgoF (@h3) ?_
          exact wretF (And.intro (@hr) (@Ev.d.eq_1))
        · have hr : madeE x k = ⟨8, [], [], [], 0, 0⟩ := hme
          refine wgoF (@h3) ?_
          exact wretF (And.intro (@hr) (@Ev.d.eq_1))
        · have hr : madeE x k = ⟨11, [], [], [], 0, 0⟩ := hme
          refine wgoF (@h3) ?_
          exact wretF (And.intro (@hr) (@Ev.d.eq_1))
        · have hr : madeE x k = ⟨12, [], [], [], 0, 0⟩ := hme
          refine wgoF (@h3) ?_
          exact wretF (And.intro (@hr) (@Ev.d.eq_1))
end Go.Proofs.YtojgjdcciojpeaaGreat
set_option linter.unusedSimpArgs false
set_option linter.unusedVariables false
namespace Go.Proofs.YtojgjdcciojpeaaGreat
open Go Go.PS
set_option maxRecDepth 100000
set_option maxHeartbeats 4000000
theorem take_oneQ {l : List UInt8} {i : Nat} (h : i < l.length) : List.take (((i : Int) + 1).toNat - i) (List.drop i l) = [l.getD i 0] := by
  have e : l.getD i 0 = l[i] := by simp [h]
  rw [show ((i : Int) + 1).toNat - i = 1 by omega, List.drop_eq_getElem_cons h, e]; rfl
def kE (ch : UInt8) : Ev := ⟨1, [ch], [], [], 0, 0⟩
def tyK (c : Cp) (ch : UInt8) : Cp := typedC c (kE ch) [byteC ch]
def pasTo (c : Cp) (t : List UInt8) (i : Nat) : Cp := (t.take i).foldl tyK c
theorem pas_step (c : Cp) {t : List UInt8} {i : Nat} (h : i < t.length) : pasTo c t (i + 1) = typedC (pasTo c t i) (kE (t.getD i 0)) [byteC (t.getD i 0)] := by
  have e : t.getD i 0 = t[i] := by simp [h]
  unfold pasTo
  rw [List.take_succ_eq_append_getElem h, List.foldl_append, e]; rfl
theorem pas_ok {c : Cp} (h : c.ok) {t : List UInt8} (hl : c.ev.length + t.length ≤ 40) : ∀ i, i ≤ t.length → (pasTo c t i).ok ∧ (pasTo c t i).ev.length = c.ev.length + i
  | 0, _ => ⟨h, rfl⟩
  | i + 1, hi => by
    obtain ⟨h1, h2⟩ := pas_ok h hl i (by omega)
    rw [pas_step c (by omega)]
    have h3 := h1.hi
    have h4 := h1.lo
    refine ⟨typed_cp h1 (by omega) _ _, ?_⟩
    simp [typedC, insAt]; omega
def pasR (c : Cp) (t : List UInt8) : Cp × Int := if 40 < c.sl.length + t.length then (c, 2) else (pasTo c t t.length, 0)
def cpO (c : Cp) : OB := ⟨81, 5, [.agg [.d (.sl 6 (c.ev.map Ev.d)), .d (.sl 1 (c.sl.map slD)), .d (.int .i64 c.cu), .d (.sl 3 (c.pn.map Pn.d)), .d (.int .i64 c.ch)]]⟩
theorem pasted75 (c : Cp) (h : c.ok) (t : List UInt8) (ht : t.length ≤ 1000) : PCall Tryz.prog 75 [c.d, .str t] (rC (pasR c t)) := by
  have h3 := h.max
  have h4 := h.len
  by_cases q : 40 < c.sl.length + t.length
  · have hr : pasR c t = (c, 2) := if_pos q
    have c1 : (40 : Int) < (c.sl.length : Int) + (t.length : Int) := by omega
    rw [hr]
    refine enterP tabOk Tryz.func75 37 [0, 1, 2, 4, 5, 6, 7, 14, 20] [.cell 4 81, .tmp 5] rfl (r := [_, _]) rfl (h := ?_); intro E hK; simp only [go_sem]
    refine wgoF (And.intro (@Cp.d.eq_1) (@c1)) ?_
    exact wretF (And.intro (@rC.eq_1) (@Cp.d.eq_1))
  · have hr : pasR c t = (pasTo c t t.length, 0) := if_neg q
    have c1 : ¬ (40 : Int) < (c.sl.length : Int) + (t.length : Int) := by omega
    have hok := pas_ok h (t := t) (by omega)
    have z0 : pasTo c t 0 = c := rfl
    rw [hr]
    refine enterP tabOk Tryz.func75 37 [0, 1, 2, 4, 5, 6, 7, 14, 20] [.cell 4 81, .tmp 5] rfl (r := [_, _]) rfl (h := ?_); intro E hK; simp only [go_sem]
    refine wgoF (And.intro (@Cp.d.eq_1) (@c1)) ?_
    refine wlpF (Run.loopC (ι := { i : Nat // i ≤ t.length }) (U := fun i => [(7, .d (.int .i64 i.1))]) (O := fun i => [(6, some (cpO (pasTo c t i.1)))]) (K := fun _ => []) (μ := fun i => t.length - i.1) (i0 := ⟨0, by omega⟩)) (And.intro (@cpO.eq_1) (@z0)) ?_
    rintro ⟨i, hi⟩ ih
    by_cases hlt : i < t.length
    · have h1 : (i : Int) < t.length := by omega
      have h2 := take_oneQ hlt
      have hst := pas_step c hlt
      have hcall := typed106 (pasTo c t i) (kE (t.getD i 0)) [byteC (t.getD i 0)] (hok i hi).1
      generalize typedC (pasTo c t i) (kE (t.getD i 0)) [byteC (t.getD i 0)] = c' at hcall hst
      simp only [go_sem, cpO]
      refine wgoF (And.intro (@h1) (@h2)) ?_
      refine wcallF (hcall) (And.intro (@Cp.d.eq_1) (And.intro (@Ev.d.eq_1) (And.intro (@kE.eq_1) (And.intro (@slD.eq_1) (And.intro (@Ch.d.eq_1) (@byteC.eq_1)))))) ?_
      refine wgoF (@Cp.d.eq_1) ?_
      exact wnxtF (ih ⟨i + 1, by omega⟩) (And.intro (@hst) (@cpO.eq_1))
    · have h1 : ¬ (i : Int) < t.length := by omega
      obtain rfl : i = t.length := by omega
      simp only [go_sem, cpO]
      refine wgoF (@h1) ?_
      exact wretF (And.intro (@rC.eq_1) (@Cp.d.eq_1))
/-- A board with its taps. -/
def bdT (b : Brd) (tz : Nat) (T : List D) : D := .agg [.sl b.za b.A, .sl b.zt b.T, .sl 2 (b.cs.map Ck.d), .sl tz T]
def slotR31 (F : List (List Ch) × Int) (c : Cp) (e : Ev) : Cp × Int := if ¬ F.2 = 0 then (c, F.2) else if 40 ≤ c.sl.length then (c, 2) else (typedC c e (F.1.getD 0 []), 0)
theorem slotted74 (b : Brd) (tz : Nat) (T : List D) (c : Cp) (h : c.ok) (e : Ev) (F : List (List Ch) × Int) (hF : PCall Tryz.prog 20 [b.d, .sl tz T, e.d] (rD F)) (h1 : F.2 = 0 → F.1.length = 1) :
    PCall Tryz.prog 74 [c.d, bdT b tz T, e.d] (rC (slotR31 F c e)) := by
  have h3 := h.max
  have h4 := h.len
  obtain ⟨L, x⟩ := F
  dsimp only at h1
  by_cases hx : x = 0
  · subst hx
    by_cases q : 40 ≤ c.sl.length
    · have hr : slotR31 (L, 0) c e = (c, 2) := by unfold slotR31; rw [if_neg (fun h => h rfl), if_pos q]
      have c1 : (40 : Int) ≤ (c.sl.length : Int) := by omega
      rw [hr]
      refine enterP tabOk Tryz.func74 34 [0, 1, 2, 3, 4, 5, 6, 7, 8, 9, 20, 26] [.cell 6 81, .tmp 7] rfl (r := [_, _]) rfl (h := ?_); intro E hK; simp only [go_sem]
      refine wgoF (And.intro (@Cp.d.eq_1) (And.intro (@Ev.d.eq_1) (@bdT.eq_1))) ?_
      refine wcallF (hF) (And.intro (@Brd.d.eq_1) (@Ev.d.eq_1)) ?_
      refine wgoF (And.intro (@rD.eq_1) (And.intro (@slsD.eq_1) (@c1))) ?_
      exact wretF (And.intro (@rC.eq_1) (@Cp.d.eq_1))
    · have hr : slotR31 (L, 0) c e = (typedC c e (L.getD 0 []), 0) := by unfold slotR31; rw [if_neg (fun h => h rfl), if_neg q]
      have c1 : ¬ (40 : Int) ≤ (c.sl.length : Int) := by omega
      have hL := h1 rfl
      obtain ⟨s, rfl⟩ : ∃ s, L = [s] := by
        match L, hL with
        | [s], _ => exact ⟨s, rfl⟩
      have ht := typed106 c e s h
      have hg : ([s] : List (List Ch)).getD 0 [] = s := rfl
      rw [hr, hg]
      generalize typedC c e s = c' at ht
      refine enterP tabOk Tryz.func74 34 [0, 1, 2, 3, 4, 5, 6, 7, 8, 9, 20, 26] [.cell 6 81, .tmp 7] rfl (r := [_, _]) rfl (h := ?_); intro E hK; simp only [go_sem]
      refine wgoF (And.intro (@Cp.d.eq_1) (And.intro (@Ev.d.eq_1) (@bdT.eq_1))) ?_
      refine wcallF (hF) (And.intro (@Brd.d.eq_1) (@Ev.d.eq_1)) ?_
      refine wgoF (And.intro (@rD.eq_1) (And.intro (@slsD.eq_1) (And.intro (@slD.eq_1) (@c1)))) ?_
      refine wcallF (ht) (And.intro (@Cp.d.eq_1) (And.intro (@Ev.d.eq_1) (@slD.eq_1))) ?_
      refine wgoF (@Cp.d.eq_1) ?_
      exact wretF (And.intro (@rC.eq_1) (@Cp.d.eq_1))
  · have hr : slotR31 (L, x) c e = (c, x) := by unfold slotR31; rw [if_pos hx]
    rw [hr]
    refine enterP tabOk Tryz.func74 34 [0, 1, 2, 3, 4, 5, 6, 7, 8, 9, 20, 26] [.cell 6 81, .tmp 7] rfl (r := [_, _]) rfl (h := ?_); intro E hK; simp only [go_sem]
    refine wgoF (And.intro (@Cp.d.eq_1) (And.intro (@Ev.d.eq_1) (@bdT.eq_1))) ?_
    refine wcallF (hF) (And.intro (@Brd.d.eq_1) (@Ev.d.eq_1)) ?_
    refine wgoF (And.intro (@rD.eq_1) (And.intro (@slsD.eq_1) (@hx))) ?_
    exact wretF (And.intro (@rC.eq_1) (@Cp.d.eq_1))
def emC : Cp := ⟨[], [], 0, [], 0⟩
/-- What an event makes of a composition. -/
def doR (F : List (List Ch) × Int) (c : Cp) (e : Ev) : Cp × Int :=
  if validE e = false then (c, 10)
  else if e.kind = 1 ∨ e.kind = 2 ∨ e.kind = 3 ∨ e.kind = 4 then slotR31 F c e
  else if e.kind = 5 then pasR c e.text
  else if e.kind = 6 then (if c.cu = 0 then (c, 310) else (erasedC c, 0))
  else if e.kind = 7 then movedR c (-1)
  else if e.kind = 8 then movedR c 1
  else if e.kind = 9 then heldR c e
  else if e.kind = 10 then ({ c with ch := e.n }, 0)
  else if e.kind = 12 then (emC, 0)
  else (c, 10)
theorem valid_hold {e : Ev} (h : validE e = true) (h9 : e.kind = 9) : 0 ≤ e.n ∧ e.n < 40 ∧ 1 ≤ e.l ∧ e.l ≤ 40 := by
  unfold validE at h
  rw [if_neg (by omega), if_neg (by omega), if_neg (by omega), if_neg (by omega), if_neg (by omega), if_pos h9] at h
  simp only [Bool.and_eq_true, decide_eq_true_eq] at h
  omega
theorem do39 (b : Brd) (tz : Nat) (T : List D) (c : Cp) (h : c.ok) (e : Ev) (hl : e.lok) (F : List (List Ch) × Int) (hF : PCall Tryz.prog 20 [b.d, .sl tz T, e.d] (rD F)) (h1 : F.2 = 0 → e.kind ≠ 5 → F.1.length = 1) :
    PCall Tryz.prog 39 [c.d, bdT b tz T, e.d] (rC (doR F c e)) := by
  have hv := valid64 e hl
  have hlo := h.lo
  cases hve : validE e with
  | false =>
    rw [hve] at hv
    have hr : doR F c e = (c, 10) := if_pos hve
    rw [hr]
    refine enterP tabOk Tryz.func39 75 [0, 1, 2, 3, 4, 5, 6, 7, 8, 9, 13, 16, 17, 28, 36, 40, 44, 50, 56, 63, 71] [.cell 6 81, .tmp 7] rfl (r := [_, _]) rfl (h := ?_); intro E hK; simp only [go_sem]
    refine wgoF (And.intro (@Cp.d.eq_1) (And.intro (@Ev.d.eq_1) (@bdT.eq_1))) ?_
    refine wcallF (hv) (@Ev.d.eq_1) ?_
    refine wgo ?_
    exact wretF (And.intro (@rC.eq_1) (@Cp.d.eq_1))
  | true =>
    rw [hve] at hv
    have hkk := valid_kind hve
    have hsl := slotted74 b tz T c h e F hF
    have hpa := pasted75 c h e.text
    have her := erased76 c h
    have hm1 := moved77 c h (-1) (by omega)
    have hm2 := moved77 c h 1 (by omega)
    have hhe := held78 c h e
    have hcp := copied45 c h
    have hvt := valid_text hve
    have hvh := valid_hold hve
    unfold doR
    rw [hve, if_neg (by simp)]
    rcases (show e.kind = 1 ∨ e.kind = 2 ∨ e.kind = 3 ∨ e.kind = 4 ∨ e.kind = 5 ∨ e.kind = 6 ∨ e.kind = 7 ∨ e.kind = 8 ∨ e.kind = 9 ∨ e.kind = 10 ∨ e.kind = 12 ∨ e.kind = 11 by omega) with k | k | k | k | k | k | k | k | k | k | k | k
    · rw [if_pos (.inl k)]
      have hsl := hsl (fun q => h1 q (by omega))
      generalize slotR31 F c e = r at hsl
      obtain ⟨c', x⟩ := r
      refine enterP tabOk Tryz.func39 75 [0, 1, 2, 3, 4, 5, 6, 7, 8, 9, 13, 16, 17, 28, 36, 40, 44, 50, 56, 63, 71] [.cell 6 81, .tmp 7] rfl (r := [_, _]) rfl (h := ?_); intro E hK; simp only [go_sem]
      refine wgoF (And.intro (@Cp.d.eq_1) (And.intro (@Ev.d.eq_1) (@bdT.eq_1))) ?_
      refine wcallF (hv) (@Ev.d.eq_1) ?_
      refine wgoF (@k) ?_
      refine wcallF (hsl) (And.intro (@Cp.d.eq_1) (And.intro (@Ev.d.eq_1) (And.intro (@bdT.eq_1) (@k)))) ?_
      refine wgoF (And.intro (@rC.eq_1) (@Cp.d.eq_1)) ?_
      exact wretF (And.intro (@rC.eq_1) (@Cp.d.eq_1))
    · rw [if_pos (.inr (.inl k))]
      have hsl := hsl (fun q => h1 q (by omega))
      generalize slotR31 F c e = r at hsl
      obtain ⟨c', x⟩ := r
      refine enterP tabOk Tryz.func39 75 [0, 1, 2, 3, 4, 5, 6, 7, 8, 9, 13, 16, 17, 28, 36, 40, 44, 50, 56, 63, 71] [.cell 6 81, .tmp 7] rfl (r := [_, _]) rfl (h := ?_); intro E hK; simp only [go_sem]
      refine wgoF (And.intro (@Cp.d.eq_1) (And.intro (@Ev.d.eq_1) (@bdT.eq_1))) ?_
      refine wcallF (hv) (@Ev.d.eq_1) ?_
      refine wgoF (@k) ?_
      refine wcallF (hsl) (And.intro (@Cp.d.eq_1) (And.intro (@Ev.d.eq_1) (And.intro (@bdT.eq_1) (@k)))) ?_
      refine wgoF (And.intro (@rC.eq_1) (@Cp.d.eq_1)) ?_
      exact wretF (And.intro (@rC.eq_1) (@Cp.d.eq_1))
    · rw [if_pos (.inr (.inr (.inl k)))]
      have hsl := hsl (fun q => h1 q (by omega))
      generalize slotR31 F c e = r at hsl
      obtain ⟨c', x⟩ := r
      refine enterP tabOk Tryz.func39 75 [0, 1, 2, 3, 4, 5, 6, 7, 8, 9, 13, 16, 17, 28, 36, 40, 44, 50, 56, 63, 71] [.cell 6 81, .tmp 7] rfl (r := [_, _]) rfl (h := ?_); intro E hK; simp only [go_sem]
      refine wgoF (And.intro (@Cp.d.eq_1) (And.intro (@Ev.d.eq_1) (@bdT.eq_1))) ?_
      refine wcallF (hv) (@Ev.d.eq_1) ?_
      refine wgoF (@k) ?_
      refine wcallF (hsl) (And.intro (@Cp.d.eq_1) (And.intro (@Ev.d.eq_1) (And.intro (@bdT.eq_1) (@k)))) ?_
      refine wgoF (And.intro (@rC.eq_1) (@Cp.d.eq_1)) ?_
      exact wretF (And.intro (@rC.eq_1) (@Cp.d.eq_1))
    · rw [if_pos (.inr (.inr (.inr k)))]
      have hsl := hsl (fun q => h1 q (by omega))
      generalize slotR31 F c e = r at hsl
      obtain ⟨c', x⟩ := r
      refine enterP tabOk Tryz.func39 75 [0, 1, 2, 3, 4, 5, 6, 7, 8, 9, 13, 16, 17, 28, 36, 40, 44, 50, 56, 63, 71] [.cell 6 81, .tmp 7] rfl (r := [_, _]) rfl (h := ?_); intro E hK; simp only [go_sem]
      refine wgoF (And.intro (@Cp.d.eq_1) (And.intro (@Ev.d.eq_1) (@bdT.eq_1))) ?_
      refine wcallF (hv) (@Ev.d.eq_1) ?_
      refine wgoF (@k) ?_
      refine wcallF (hsl) (And.intro (@Cp.d.eq_1) (And.intro (@Ev.d.eq_1) (And.intro (@bdT.eq_1) (@k)))) ?_
      refine wgoF (And.intro (@rC.eq_1) (@Cp.d.eq_1)) ?_
      exact wretF (And.intro (@rC.eq_1) (@Cp.d.eq_1))
    · rw [if_neg (by omega), if_pos k]
      have hpa := hpa (by have := (hvt k).2.1; omega)
      generalize pasR c e.text = r at hpa
      obtain ⟨c', x⟩ := r
      refine enterP tabOk Tryz.func39 75 [0, 1, 2, 3, 4, 5, 6, 7, 8, 9, 13, 16, 17, 28, 36, 40, 44, 50, 56, 63, 71] [.cell 6 81, .tmp 7] rfl (r := [_, _]) rfl (h := ?_); intro E hK; simp only [go_sem]
      refine wgoF (And.intro (@Cp.d.eq_1) (And.intro (@Ev.d.eq_1) (@bdT.eq_1))) ?_
      refine wcallF (hv) (@Ev.d.eq_1) ?_
      refine wgoF (@k) ?_
      refine wcallF (hpa) (@Cp.d.eq_1) ?_
      refine wgoF (And.intro (@rC.eq_1) (@Cp.d.eq_1)) ?_
      exact wretF (And.intro (@rC.eq_1) (@Cp.d.eq_1))
    · rw [if_neg (by omega), if_neg (by omega), if_pos k]
      by_cases h0 : c.cu = 0
      · rw [if_pos h0]
        refine enterP tabOk Tryz.func39 75 [0, 1, 2, 3, 4, 5, 6, 7, 8, 9, 13, 16, 17, 28, 36, 40, 44, 50, 56, 63, 71] [.cell 6 81, .tmp 7] rfl (r := [_, _]) rfl (h := ?_); intro E hK; simp only [go_sem]
        refine wgoF (And.intro (@Cp.d.eq_1) (And.intro (@Ev.d.eq_1) (@bdT.eq_1))) ?_
        refine wcallF (hv) (@Ev.d.eq_1) ?_
        refine wgoF (And.intro (@k) (@h0)) ?_
        exact wretF (And.intro (@rC.eq_1) (And.intro (@Cp.d.eq_1) (@h0)))
      · rw [if_neg h0]
        have her := her (by omega)
        generalize erasedC c = c' at her
        refine enterP tabOk Tryz.func39 75 [0, 1, 2, 3, 4, 5, 6, 7, 8, 9, 13, 16, 17, 28, 36, 40, 44, 50, 56, 63, 71] [.cell 6 81, .tmp 7] rfl (r := [_, _]) rfl (h := ?_); intro E hK; simp only [go_sem]
        refine wgoF (And.intro (@Cp.d.eq_1) (And.intro (@Ev.d.eq_1) (@bdT.eq_1))) ?_
        refine wcallF (hv) (@Ev.d.eq_1) ?_
        refine wgoF (And.intro (@k) (@h0)) ?_
        refine wcallF (her) (@Cp.d.eq_1) ?_
        refine wgoF (@Cp.d.eq_1) ?_
        exact wretF (And.intro (@rC.eq_1) (@Cp.d.eq_1))
    · rw [if_neg (by omega), if_neg (by omega), if_neg (by omega), if_pos k]
      generalize movedR c (-1) = r at hm1
      obtain ⟨c', x⟩ := r
      refine enterP tabOk Tryz.func39 75 [0, 1, 2, 3, 4, 5, 6, 7, 8, 9, 13, 16, 17, 28, 36, 40, 44, 50, 56, 63, 71] [.cell 6 81, .tmp 7] rfl (r := [_, _]) rfl (h := ?_); intro E hK; simp only [go_sem]
      refine wgoF (And.intro (@Cp.d.eq_1) (And.intro (@Ev.d.eq_1) (@bdT.eq_1))) ?_
      refine wcallF (hv) (@Ev.d.eq_1) ?_
      refine wgoF (@k) ?_
      refine wcallF (hm1) (@Cp.d.eq_1) ?_
      refine wgoF (And.intro (@rC.eq_1) (@Cp.d.eq_1)) ?_
      exact wretF (And.intro (@rC.eq_1) (@Cp.d.eq_1))
    · rw [if_neg (by omega), if_neg (by omega), if_neg (by omega), if_neg (by omega), if_pos k]
      generalize movedR c 1 = r at hm2
      obtain ⟨c', x⟩ := r
      refine enterP tabOk Tryz.func39 75 [0, 1, 2, 3, 4, 5, 6, 7, 8, 9, 13, 16, 17, 28, 36, 40, 44, 50, 56, 63, 71] [.cell 6 81, .tmp 7] rfl (r := [_, _]) rfl (h := ?_); intro E hK; simp only [go_sem]
      refine wgoF (And.intro (@Cp.d.eq_1) (And.intro (@Ev.d.eq_1) (@bdT.eq_1))) ?_
      refine wcallF (hv) (@Ev.d.eq_1) ?_
      refine wgoF (@k) ?_
      refine wcallF (hm2) (@Cp.d.eq_1) ?_
      refine wgoF (And.intro (@rC.eq_1) (@Cp.d.eq_1)) ?_
      exact wretF (And.intro (@rC.eq_1) (@Cp.d.eq_1))
    · rw [if_neg (by omega), if_neg (by omega), if_neg (by omega), if_neg (by omega), if_neg (by omega), if_pos k]
      have hhe := hhe (by have := hvh k; omega)
      generalize heldR c e = r at hhe
      obtain ⟨c', x⟩ := r
      refine enterP tabOk Tryz.func39 75 [0, 1, 2, 3, 4, 5, 6, 7, 8, 9, 13, 16, 17, 28, 36, 40, 44, 50, 56, 63, 71] [.cell 6 81, .tmp 7] rfl (r := [_, _]) rfl (h := ?_); intro E hK; simp only [go_sem]
      refine wgoF (And.intro (@Cp.d.eq_1) (And.intro (@Ev.d.eq_1) (@bdT.eq_1))) ?_
      refine wcallF (hv) (@Ev.d.eq_1) ?_
      refine wgoF (@k) ?_
      refine wcallF (hhe) (And.intro (@Cp.d.eq_1) (And.intro (@Ev.d.eq_1) (@k))) ?_
      refine wgoF (And.intro (@rC.eq_1) (@Cp.d.eq_1)) ?_
      exact wretF (And.intro (@rC.eq_1) (@Cp.d.eq_1))
    · rw [if_neg (by omega), if_neg (by omega), if_neg (by omega), if_neg (by omega), if_neg (by omega), if_neg (by omega), if_pos k]
      refine enterP tabOk Tryz.func39 75 [0, 1, 2, 3, 4, 5, 6, 7, 8, 9, 13, 16, 17, 28, 36, 40, 44, 50, 56, 63, 71] [.cell 6 81, .tmp 7] rfl (r := [_, _]) rfl (h := ?_); intro E hK; simp only [go_sem]
      refine wgoF (And.intro (@Cp.d.eq_1) (And.intro (@Ev.d.eq_1) (@bdT.eq_1))) ?_
      refine wcallF (hv) (@Ev.d.eq_1) ?_
      refine wgoF (@k) ?_
      refine wcallF (hcp) (@Cp.d.eq_1) ?_
      refine wgoF (@Cp.d.eq_1) ?_
      exact wretF (And.intro (@rC.eq_1) (@Cp.d.eq_1))
    · rw [if_neg (by omega), if_neg (by omega), if_neg (by omega), if_neg (by omega), if_neg (by omega), if_neg (by omega), if_neg (by omega), if_pos k]
      refine enterP tabOk Tryz.func39 75 [0, 1, 2, 3, 4, 5, 6, 7, 8, 9, 13, 16, 17, 28, 36, 40, 44, 50, 56, 63, 71] [.cell 6 81, .tmp 7] rfl (r := [_, _]) rfl (h := ?_); intro E hK; simp only [go_sem]
      refine wgoF (And.intro (@Cp.d.eq_1) (And.intro (@Ev.d.eq_1) (@bdT.eq_1))) ?_
      refine wcallF (hv) (@Ev.d.eq_1) ?_
      refine wgoF (@k) ?_
      exact wretF (And.intro (@rC.eq_1) (And.intro (@Cp.d.eq_1) (@emC.eq_1)))
    · rw [if_neg (by omega), if_neg (by omega), if_neg (by omega), if_neg (by omega), if_neg (by omega), if_neg (by omega), if_neg (by omega), if_neg (by omega)]
      refine enterP tabOk Tryz.func39 75 [0, 1, 2, 3, 4, 5, 6, 7, 8, 9, 13, 16, 17, 28, 36, 40, 44, 50, 56, 63, 71] [.cell 6 81, .tmp 7] rfl (r := [_, _]) rfl (h := ?_); intro E hK; simp only [go_sem]
      refine wgoF (And.intro (@Cp.d.eq_1) (And.intro (@Ev.d.eq_1) (@bdT.eq_1))) ?_
      refine wcallF (hv) (@Ev.d.eq_1) ?_
      refine wgoF (@k) ?_
      exact wretF (And.intro (@rC.eq_1) (@Cp.d.eq_1))
end Go.Proofs.YtojgjdcciojpeaaGreat
set_option linter.unusedSimpArgs false
set_option linter.unusedVariables false
namespace Go.Proofs.YtojgjdcciojpeaaGreat
open Go Go.PS
set_option maxRecDepth 100000
set_option maxHeartbeats 4000000
/-! What stays true of compositions. -/
def Cp.good (c : Cp) : Prop := c.ok ∧ (∀ x ∈ c.ev, x.lok) ∧ (∀ s ∈ c.sl, s.length ≤ 100)
theorem mem_ins {α : Type} {l : List α} {n : Nat} {v x : α} (h : x ∈ insAt l n v) : x = v ∨ x ∈ l := by
  unfold insAt at h
  rcases List.mem_append.1 h with h | h
  · exact .inr (List.mem_of_mem_take h)
  · rcases List.mem_cons.1 h with h | h
    · exact .inl h
    · exact .inr (List.mem_of_mem_drop h)
theorem mem_del {α : Type} {l : List α} {n : Nat} {x : α} (h : x ∈ delAt l n) : x ∈ l := by
  unfold delAt at h
  rcases List.mem_append.1 h with h | h
  · exact List.mem_of_mem_take h
  · exact List.mem_of_mem_drop h
theorem typed_good {c : Cp} (h : c.good) (hl : c.ev.length < 40) {e : Ev} (he : e.lok) {s : List Ch} (hs : s.length ≤ 100) : (typedC c e s).good := by
  refine ⟨typed_cp h.1 hl e s, fun x hx => ?_, fun t ht => ?_⟩
  · rcases mem_ins hx with rfl | hx
    · exact he
    · exact h.2.1 x hx
  · rcases mem_ins ht with rfl | ht
    · exact hs
    · exact h.2.2 t ht
theorem erased_good {c : Cp} (h : c.good) (h0 : 1 ≤ c.cu) : (erasedC c).good :=
  ⟨erased_cp h.1 h0, fun x hx => h.2.1 x (mem_del hx), fun s hs => h.2.2 s (mem_del hs)⟩
theorem em_good : emC.good := ⟨⟨rfl, by simp [emC], by simp [emC], by simp [emC], rfl⟩, by simp [emC], by simp [emC]⟩
theorem moved_good {c : Cp} (h : c.good) (b : Int) : (movedR c b).1.good := by
  unfold movedR
  split
  · exact h
  · rename_i q
    obtain ⟨⟨h1, h2, h3, h4, h5⟩, h6, h7⟩ := h
    exact ⟨⟨h1, h2, by dsimp only; omega, by dsimp only; omega, h5⟩, h6, h7⟩
theorem held_good {c : Cp} (h : c.good) (e : Ev) : (heldR c e).1.good := by
  unfold heldR
  split
  · rename_i q
    obtain ⟨⟨h1, h2, h3, h4, h5⟩, h6, h7⟩ := h
    refine ⟨⟨h1, h2, h3, h4, ?_⟩, h6, h7⟩
    dsimp only
    have hn : ((c.sl.length : Nat) : Int) = (c.ev.length : Int) := by omega
    rw [hn] at q ⊢
    unfold putR at q ⊢
    cases hb : (pvB c.pn (c.ev.length : Int) && pvB [⟨e.n, e.n + e.l, -1⟩] (c.ev.length : Int)) with
    | false => rw [hb, if_neg (by simp)] at q; cases q
    | true =>
      rw [if_pos rfl]
      simp only [Bool.and_eq_true] at hb
      have hp := hb.2
      unfold pvB at hp
      simp only [Bool.and_eq_true] at hp
      obtain ⟨g1, _⟩ := pv_cons hp.2
      exact put_pv (by dsimp only at g1 ⊢; omega) (by dsimp only at g1 ⊢; omega) h5
  · exact h
theorem kE_lok (ch : UInt8) : (kE ch).lok := ⟨by simp [kE], by simp [kE], by simp [kE]⟩
theorem pas_good {c : Cp} (h : c.good) {t : List UInt8} (hl : c.ev.length + t.length ≤ 40) : ∀ i, i ≤ t.length → (pasTo c t i).good
  | 0, _ => h
  | i + 1, hi => by
    have h1 := pas_good h hl i (by omega)
    have h2 := (pas_ok h.1 hl i (by omega)).2
    rw [pas_step c (by omega)]
    exact typed_good h1 (by omega) (kE_lok _) (by simp)
theorem pasR_good {c : Cp} (h : c.good) (t : List UInt8) : (pasR c t).1.good := by
  unfold pasR
  split
  · exact h
  · exact pas_good h (by have := h.1.len; omega) _ (Nat.le_refl _)
theorem slotR_good {c : Cp} (h : c.good) {e : Ev} (he : e.lok) {F : List (List Ch) × Int} (hF : ∀ s ∈ F.1, s.length ≤ 100) : (slotR31 F c e).1.good := by
  unfold slotR31
  split
  · exact h
  split
  · exact h
  · refine typed_good h (by have := h.1.len; omega) he ?_
    cases hL : F.1 with
    | nil => simp
    | cons s r => exact hF s (by rw [hL]; simp)
theorem do_good {c : Cp} (h : c.good) {e : Ev} (he : e.lok) {F : List (List Ch) × Int} (hF : ∀ s ∈ F.1, s.length ≤ 100) : (doR F c e).1.good := by
  unfold doR
  split
  · exact h
  split
  · exact slotR_good h he hF
  split
  · exact pasR_good h _
  split
  · split
    · exact h
    · exact erased_good h (by have := h.1.lo; omega)
  split
  · exact moved_good h _
  split
  · exact moved_good h _
  split
  · exact held_good h e
  split
  · obtain ⟨⟨h1, h2, h3, h4, h5⟩, h6, h7⟩ := h
    exact ⟨⟨h1, h2, h3, h4, h5⟩, h6, h7⟩
  split
  · exact em_good
  · exact h
/-- A composition after a script, and how many events were done. -/
def stepR (F : Ev → List (List Ch) × Int) (r : Cp × Int) (e : Ev) : Cp × Int := if (doR (F e) r.1 e).2 = 0 then ((doR (F e) r.1 e).1, r.2 + 1) else r
def scrTo (F : Ev → List (List Ch) × Int) (c : Cp) (l : List Ev) (i : Nat) : Cp × Int := (l.take i).foldl (stepR F) (c, 0)
theorem scr_step (F : Ev → List (List Ch) × Int) (c : Cp) {l : List Ev} {i : Nat} (h : i < l.length) : scrTo F c l (i + 1) = stepR F (scrTo F c l i) (l.getD i default) := by
  have e : l.getD i default = l[i] := by simp [h]
  unfold scrTo
  rw [List.take_succ_eq_append_getElem h, List.foldl_append, e]; rfl
theorem scr_good (F : Ev → List (List Ch) × Int) {c : Cp} (h : c.good) {l : List Ev} (hl : ∀ e ∈ l, e.lok) (hF : ∀ e ∈ l, ∀ s ∈ (F e).1, s.length ≤ 100) : ∀ i, i ≤ l.length → (scrTo F c l i).1.good ∧ 0 ≤ (scrTo F c l i).2 ∧ (scrTo F c l i).2 ≤ i
  | 0, _ => ⟨h, by simp [scrTo], by simp [scrTo]⟩
  | i + 1, hi => by
    obtain ⟨h1, h2, h3⟩ := scr_good F h hl hF i (by omega)
    rw [scr_step F c (by omega)]
    have hm := getD_memE (l := l) (i := i) (by omega)
    unfold stepR
    split
    · exact ⟨do_good h1 (hl _ hm) (hF _ hm), by dsimp only; omega, by dsimp only; push_cast; omega⟩
    · exact ⟨h1, h2, by omega⟩
theorem script43 (F : Ev → List (List Ch) × Int) (b : Brd) (c : Cp) (h : c.good) (l : List Ev) (hn : l.length ≤ 1000) (hl : ∀ e ∈ l, e.lok) (hF : ∀ e ∈ l, ∀ s ∈ (F e).1, s.length ≤ 100)
    (hD : ∀ c : Cp, c.ok → ∀ e ∈ l, PCall Tryz.prog 39 [c.d, bdT b 0 [], e.d] (rC (doR (F e) c e))) :
    PCall Tryz.prog 43 [c.d, b.d, .sl 6 (l.map Ev.d)] (rC (scrTo F c l l.length)) := by
  have z0 : scrTo F c l 0 = (c, 0) := rfl
  have z1 : (scrTo F c l 0).1 = c := rfl
  have z2 : (scrTo F c l 0).2 = 0 := rfl
  refine enterP tabOk Tryz.func43 36 [0, 1, 2, 3, 4, 6, 7, 8, 9, 10, 11, 15, 30] [.cell 6 81, .tmp 7] rfl (r := [_, _]) rfl (h := ?_); intro E hK; simp only [go_sem]
  refine wgoF (And.intro (@Cp.d.eq_1) (@Brd.d.eq_1)) ?_
  refine wlpF (Run.loopC (ι := { i : Nat // i ≤ l.length }) (U := fun i => [(8, .d (.int .i64 (scrTo F c l i.1).2)), (9, .d (.int .i64 i.1))]) (O := fun i => [(3, some (cpO (scrTo F c l i.1).1))]) (K := fun _ => []) (μ := fun i => l.length - i.1) (i0 := ⟨0, by omega⟩)) (And.intro (@cpO.eq_1) (And.intro (@z1) (@z2))) ?_
  rintro ⟨i, hi⟩ ih
  obtain ⟨g1, g2, g3⟩ := scr_good F h hl hF i hi
  by_cases hlt : i < l.length
  · have h1 : (i : Int) < l.length := by omega
    have hget := ev_get hlt
    have hst := scr_step F c hlt
    have hd := hD (scrTo F c l i).1 g1.1 _ (getD_memE hlt)
    generalize scrTo F c l i = r at g1 g2 g3 hst hd
    unfold stepR at hst
    generalize l.getD i default = e at hget hst hd
    generalize doR (F e) r.1 e = q at hst hd
    obtain ⟨c', x⟩ := q
    obtain ⟨cr, nr⟩ := r
    by_cases hx : x = 0
    · subst hx
      rw [if_pos rfl] at hst
      have s1 : (scrTo F c l (i + 1)).1 = c' := by rw [hst]
      have s2 : (scrTo F c l (i + 1)).2 = nr + 1 := by rw [hst]
      dsimp only at g2 g3
      simp only [go_sem, cpO]
      refine wgoF (And.intro (@h1) (@hget)) ?_
      refine wcallF (hd) (And.intro (@Cp.d.eq_1) (And.intro (@Ev.d.eq_1) (@bdT.eq_1))) ?_
      refine wgoF (And.intro (@rC.eq_1) (@Cp.d.eq_1)) ?_
      exact wnxtF (ih ⟨i + 1, by omega⟩) (And.intro (@s1) (And.intro (@s2) (@cpO.eq_1)))
    · rw [if_neg hx] at hst
      have s1 : (scrTo F c l (i + 1)).1 = cr := by rw [hst]
      have s2 : (scrTo F c l (i + 1)).2 = nr := by rw [hst]
      simp only [go_sem, cpO]
      refine wgoF (And.intro (@h1) (@hget)) ?_
      refine wcallF (hd) (And.intro (@Cp.d.eq_1) (And.intro (@Ev.d.eq_1) (@bdT.eq_1))) ?_
      refine wgoF (And.intro (@rC.eq_1) (And.intro (@Cp.d.eq_1) (@hx))) ?_
      exact wnxtF (ih ⟨i + 1, by omega⟩) (And.intro (@s1) (And.intro (@s2) (@cpO.eq_1)))
  · have h1 : ¬ (i : Int) < l.length := by omega
    obtain rfl : i = l.length := by omega
    simp only [go_sem, cpO]
    refine wgoF (@h1) ?_
    exact wretF (And.intro (@rC.eq_1) (@Cp.d.eq_1))
end Go.Proofs.YtojgjdcciojpeaaGreat
set_option linter.unusedSimpArgs false
set_option linter.unusedVariables false
namespace Go.Proofs.YtojgjdcciojpeaaGreat
open Go Go.PS
set_option maxRecDepth 100000
set_option maxHeartbeats 4000000
/-! The program's steps. -/
/-- A task: a composition, a board with taps, an event. -/
def tkD (b : Brd) (tz : Nat) (T : List D) (c : Cp) (e : Ev) : D := .agg [.sl 6 (c.ev.map Ev.d), .sl 1 (c.sl.map slD), .int .i64 c.cu, .sl 3 (c.pn.map Pn.d), .int .i64 c.ch,
  .sl b.za b.A, .sl b.zt b.T, .sl 2 (b.cs.map Ck.d), .sl tz T, .int .i64 e.kind, .str e.keys, .sl 2 (e.p.map Pt.d), .str e.text, .int .i64 e.n, .int .i64 e.l]
theorem new44 : PCall Tryz.prog 44 [] emC.d := by
  refine enterP tabOk Tryz.func44 2 [0] [.cell 0 81] rfl (r := [_]) rfl (h := ?_); intro E hK; simp only [go_sem]
  refine wgo ?_
  exact wretF (And.intro (@Cp.d.eq_1) (@emC.eq_1))
theorem cancel105 (b : Brd) (tz : Nat) (T : List D) (c : Cp) (e : Ev) : PCall Tryz.prog 105 [tkD b tz T c e] (rC (emC, 0)) := by
  have hn := new44
  refine enterP tabOk Tryz.func105 5 [0, 2, 3] [.cell 2 81, .tmp 3] rfl (r := [_, _]) rfl (h := ?_); intro E hK; simp only [go_sem]
  refine wgoF (@tkD.eq_1) ?_
  refine wcallF (hn) (And.intro (@Cp.d.eq_1) (@emC.eq_1)) ?_
  refine wgo ?_
  exact wretF (And.intro (@rC.eq_1) (And.intro (@Cp.d.eq_1) (@emC.eq_1)))
theorem choose104 (b : Brd) (tz : Nat) (T : List D) (c : Cp) (e : Ev) : PCall Tryz.prog 104 [tkD b tz T c e] (rC ({ c with ch := e.n }, 0)) := by
  refine enterP tabOk Tryz.func104 11 [0, 1, 2, 3] [.cell 2 81, .tmp 3] rfl (r := [_, _]) rfl (h := ?_); intro E hK; simp only [go_sem]
  refine wgoF (@tkD.eq_1) ?_
  exact wretF (And.intro (@rC.eq_1) (@Cp.d.eq_1))
theorem left101 (b : Brd) (tz : Nat) (T : List D) (c : Cp) (h : c.ok) (e : Ev) : PCall Tryz.prog 101 [tkD b tz T c e] (rC (movedR c (-1))) := by
  have h1 := h.lo
  have h2 := h.hi
  have h3 := h.max
  have h4 := h.len
  by_cases q : c.cu = 0
  · have hr : movedR c (-1) = (c, 310) := if_pos (.inl (by omega))
    rw [hr]
    refine enterP tabOk Tryz.func101 18 [0, 1, 2, 3, 7] [.cell 2 81, .tmp 3] rfl (r := [_, _]) rfl (h := ?_); intro E hK; simp only [go_sem]
    refine wgoF (And.intro (@tkD.eq_1) (@q)) ?_
    exact wretF (And.intro (@rC.eq_1) (And.intro (@Cp.d.eq_1) (@q)))
  · have hr : movedR c (-1) = ({ c with cu := c.cu - 1 }, 0) := by
      unfold movedR
      rw [if_neg (by omega)]; rfl
    rw [hr]
    refine enterP tabOk Tryz.func101 18 [0, 1, 2, 3, 7] [.cell 2 81, .tmp 3] rfl (r := [_, _]) rfl (h := ?_); intro E hK; simp only [go_sem]
    refine wgoF (And.intro (@tkD.eq_1) (@q)) ?_
    exact wretF (And.intro (@rC.eq_1) (@Cp.d.eq_1))
theorem right102 (b : Brd) (tz : Nat) (T : List D) (c : Cp) (h : c.ok) (e : Ev) : PCall Tryz.prog 102 [tkD b tz T c e] (rC (movedR c 1)) := by
  have h1 := h.lo
  have h2 := h.hi
  have h3 := h.max
  have h4 := h.len
  by_cases q : c.cu = (c.sl.length : Int)
  · have hr : movedR c 1 = (c, 310) := if_pos (.inr (by omega))
    have qd : decide (c.cu = (c.sl.length : Int)) = true := decide_eq_true q
    rw [hr]
    refine enterP tabOk Tryz.func102 22 [0, 1, 2, 3, 11] [.cell 2 81, .tmp 3] rfl (r := [_, _]) rfl (h := ?_); intro E hK; simp only [go_sem]
    refine wgoF (And.intro (@tkD.eq_1) (@qd)) ?_
    exact wretF (And.intro (@rC.eq_1) (@Cp.d.eq_1))
  · have hr : movedR c 1 = ({ c with cu := c.cu + 1 }, 0) := by
      unfold movedR
      rw [if_neg (by omega)]
    have qd : decide (c.cu = (c.sl.length : Int)) = false := decide_eq_false q
    rw [hr]
    refine enterP tabOk Tryz.func102 22 [0, 1, 2, 3, 11] [.cell 2 81, .tmp 3] rfl (r := [_, _]) rfl (h := ?_); intro E hK; simp only [go_sem]
    refine wgoF (And.intro (@tkD.eq_1) (@qd)) ?_
    exact wretF (And.intro (@rC.eq_1) (@Cp.d.eq_1))
theorem hold103 (b : Brd) (tz : Nat) (T : List D) (c : Cp) (h : c.ok) (e : Ev) (he : 0 ≤ e.n ∧ e.n ≤ 1000 ∧ 0 ≤ e.l ∧ e.l ≤ 1000) : PCall Tryz.prog 103 [tkD b tz T c e] (rC (heldR c e)) := by
  have h3 := h.max
  have h4 := h.len
  obtain ⟨n1, n2, n3, n4⟩ := he
  have hp := put120 c.pn ⟨e.n, e.n + e.l, -1⟩ (c.sl.length : Int) h.pins.1
  unfold heldR
  generalize putR c.pn ⟨e.n, e.n + e.l, -1⟩ (c.sl.length : Int) = r at hp
  obtain ⟨pl, x⟩ := r
  dsimp only at hp
  by_cases hx : x = 0
  · subst hx
    rw [if_pos rfl]
    refine enterP tabOk Tryz.func103 42 [0, 1, 2, 3, 4, 5, 6, 31] [.cell 2 81, .tmp 3] rfl (r := [_, _]) rfl (h := ?_); intro E hK; simp only [go_sem]
    refine wgoF (@tkD.eq_1) ?_
    refine wcallF (hp) (@Pn.d.eq_1) ?_
    refine wgo ?_
    exact wretF (And.intro (@rC.eq_1) (@Cp.d.eq_1))
  · rw [if_neg hx]
    refine enterP tabOk Tryz.func103 42 [0, 1, 2, 3, 4, 5, 6, 31] [.cell 2 81, .tmp 3] rfl (r := [_, _]) rfl (h := ?_); intro E hK; simp only [go_sem]
    refine wgoF (@tkD.eq_1) ?_
    refine wcallF (hp) (@Pn.d.eq_1) ?_
    refine wgoF (@hx) ?_
    exact wretF (And.intro (@rC.eq_1) (@Cp.d.eq_1))
theorem erase100 (b : Brd) (tz : Nat) (T : List D) (c : Cp) (h : c.ok) (e : Ev) : PCall Tryz.prog 100 [tkD b tz T c e] (rC (if c.cu = 0 then (c, 310) else (erasedC c, 0))) := by
  have h1 := h.lo
  have h2 := h.hi
  have h3 := h.max
  have h4 := h.len
  by_cases q : c.cu = 0
  · have c1 : c.cu - 1 < 0 := by omega
    rw [if_pos q]
    refine enterP tabOk Tryz.func100 30 [0, 1, 2, 3, 4, 10] [.cell 2 81, .tmp 3] rfl (r := [_, _]) rfl (h := ?_); intro E hK; simp only [go_sem]
    refine wgoF (And.intro (@tkD.eq_1) (@c1)) ?_
    exact wretF (And.intro (@rC.eq_1) (@Cp.d.eq_1))
  · have c1 : ¬ c.cu - 1 < 0 := by omega
    have d1 := delE c.ev (c.cu - 1).toNat (by omega) (by omega)
    have d2 := delS c.sl (c.cu - 1).toNat (by omega) (by omega)
    have d3 := delete119 c.pn (c.cu - 1) h.pins
    have hn : (((c.cu - 1).toNat : Nat) : Int) = c.cu - 1 := by omega
    rw [hn] at d1 d2
    rw [if_neg q]
    refine enterP tabOk Tryz.func100 30 [0, 1, 2, 3, 4, 10] [.cell 2 81, .tmp 3] rfl (r := [_, _]) rfl (h := ?_); intro E hK; simp only [go_sem]
    refine wgoF (And.intro (@tkD.eq_1) (@c1)) ?_
    refine wcall (d1) ?_
    refine wgo ?_
    refine wcall (d2) ?_
    refine wgo ?_
    refine wcall (d3) ?_
    refine wgo ?_
    exact wretF (And.intro (@rC.eq_1) (And.intro (@Cp.d.eq_1) (@erasedC.eq_1)))
theorem tpaste99 (b : Brd) (tz : Nat) (T : List D) (c : Cp) (h : c.ok) (e : Ev) (ht : e.text.length ≤ 1000) : PCall Tryz.prog 99 [tkD b tz T c e] (rC (pasR c e.text)) := by
  have h3 := h.max
  have h4 := h.len
  by_cases q : 40 < c.sl.length + e.text.length
  · have hr : pasR c e.text = (c, 2) := if_pos q
    have c1 : (40 : Int) < (c.sl.length : Int) + (e.text.length : Int) := by omega
    rw [hr]
    refine enterP tabOk Tryz.func99 44 [0, 1, 2, 3, 4, 5, 6, 16, 24, 25, 26, 27] [.cell 2 81, .tmp 3] rfl (r := [_, _]) rfl (h := ?_); intro E hK; simp only [go_sem]
    refine wgoF (And.intro (@tkD.eq_1) (@c1)) ?_
    exact wretF (And.intro (@rC.eq_1) (@Cp.d.eq_1))
  · have hr : pasR c e.text = (pasTo c e.text e.text.length, 0) := if_neg q
    have c1 : ¬ (40 : Int) < (c.sl.length : Int) + (e.text.length : Int) := by omega
    have hok := pas_ok h (t := e.text) (by omega)
    have z0 : pasTo c e.text 0 = c := rfl
    have hty := typed112 e.text (by omega)
    have htl := typed_len e.text
    have hget : ∀ i, i < e.text.length → (List.map slD (typedF e.text)).getD i .nilp = .sl 2 [.agg [.int .u8 ((e.text.getD i 0).toNat : Int), .int .i64 0]] := fun i hi => by
      simp [typedF, slD, Ch.d, byteC, hi]
    rw [hr]
    refine enterP tabOk Tryz.func99 44 [0, 1, 2, 3, 4, 5, 6, 16, 24, 25, 26, 27] [.cell 2 81, .tmp 3] rfl (r := [_, _]) rfl (h := ?_); intro E hK; simp only [go_sem]
    refine wgoF (And.intro (@tkD.eq_1) (@c1)) ?_
    refine wcall (hty) ?_
    refine wgoF (And.intro (@slsD.eq_1) (@htl)) ?_
    refine wlpF (Run.loopC (ι := { i : Nat // i ≤ e.text.length }) (U := fun i => [(26, .d (.int .i64 i.1))]) (O := fun i => [(4, some (cpO (pasTo c e.text i.1)))]) (K := fun _ => []) (μ := fun i => e.text.length - i.1) (i0 := ⟨0, by omega⟩)) (And.intro (@cpO.eq_1) (@z0)) ?_
    rintro ⟨i, hi⟩ ih
    by_cases hlt : i < e.text.length
    · have h1 : (i : Int) < e.text.length := by omega
      have h2 := take_oneQ hlt
      have hst := pas_step c hlt
      have hg := hget i hlt
      have hcall := typed116 (pasTo c e.text i) (kE (e.text.getD i 0)) [byteC (e.text.getD i 0)] (hok i hi).1
      generalize typedC (pasTo c e.text i) (kE (e.text.getD i 0)) [byteC (e.text.getD i 0)] = c' at hcall hst
      simp only [go_sem, cpO]
      refine wgoF (And.intro (@h1) (And.intro (@h2) (And.intro (@hg) (@htl)))) ?_
      refine wcallF (hcall) (And.intro (@Cp.d.eq_1) (And.intro (@Ev.d.eq_1) (And.intro (@kE.eq_1) (And.intro (@slD.eq_1) (And.intro (@Ch.d.eq_1) (@byteC.eq_1)))))) ?_
      refine wgoF (@Cp.d.eq_1) ?_
      exact wnxtF (ih ⟨i + 1, by omega⟩) (And.intro (@hst) (@cpO.eq_1))
    · have h1 : ¬ (i : Int) < e.text.length := by omega
      obtain rfl : i = e.text.length := by omega
      simp only [go_sem, cpO]
      refine wgoF (And.intro (@h1) (@htl)) ?_
      exact wretF (And.intro (@rC.eq_1) (@Cp.d.eq_1))
theorem write98 (b : Brd) (tz : Nat) (T : List D) (c : Cp) (h : c.ok) (e : Ev) (F : List (List Ch) × Int) (hF : PCall Tryz.prog 19 [b.d, .sl tz T, e.d] (rD F)) (h1 : F.2 = 0 → F.1.length = 1) :
    PCall Tryz.prog 98 [tkD b tz T c e] (rC (slotR31 F c e)) := by
  have h3 := h.max
  have h4 := h.len
  obtain ⟨L, x⟩ := F
  dsimp only at h1
  by_cases hx : x = 0
  · subst hx
    have hL := h1 rfl
    obtain ⟨s, rfl⟩ : ∃ s, L = [s] := by
      match L, hL with
      | [s], _ => exact ⟨s, rfl⟩
    have o1 : (List.map slD [s]).length = 1 := rfl
    have o2 : (((1 : Nat) : Int)) = 1 := rfl
    by_cases q : 40 ≤ c.sl.length
    · have hr : slotR31 ([s], 0) c e = (c, 2) := by unfold slotR31; rw [if_neg (fun h => h rfl), if_pos q]
      have c1 : (40 : Int) < (c.sl.length : Int) + 1 := by omega
      rw [hr]
      refine enterP tabOk Tryz.func98 49 [0, 1, 2, 3, 4, 5, 6, 8, 20, 31, 36, 37, 38, 39] [.cell 2 81, .tmp 3] rfl (r := [_, _]) rfl (h := ?_); intro E hK; simp only [go_sem]
      refine wgoF (@tkD.eq_1) ?_
      refine wcallF (hF) (And.intro (@Brd.d.eq_1) (@Ev.d.eq_1)) ?_
      refine wgoF (And.intro (@rD.eq_1) (And.intro (@slsD.eq_1) (And.intro (@o1) (And.intro (@o2) (@c1))))) ?_
      exact wretF (And.intro (@rC.eq_1) (@Cp.d.eq_1))
    · have hr : slotR31 ([s], 0) c e = (typedC c e s, 0) := by unfold slotR31; rw [if_neg (fun h => h rfl), if_neg q]; rfl
      have c1 : ¬ (40 : Int) < (c.sl.length : Int) + 1 := by omega
      have ht := typed116 c e s h
      rw [hr]
      generalize typedC c e s = c' at ht
      refine enterP tabOk Tryz.func98 49 [0, 1, 2, 3, 4, 5, 6, 8, 20, 31, 36, 37, 38, 39] [.cell 2 81, .tmp 3] rfl (r := [_, _]) rfl (h := ?_); intro E hK; simp only [go_sem]
      refine wgoF (@tkD.eq_1) ?_
      refine wcallF (hF) (And.intro (@Brd.d.eq_1) (@Ev.d.eq_1)) ?_
      refine wgoF (And.intro (@rD.eq_1) (And.intro (@slsD.eq_1) (And.intro (@o1) (And.intro (@o2) (@c1))))) ?_
      refine wlpF (Run.loopC (ι := { i : Nat // i ≤ 1 }) (U := fun i => [(38, .d (.int .i64 i.1))]) (O := fun i => [(6, some (cpO (if i.1 = 0 then c else c')))]) (K := fun _ => []) (μ := fun i => 1 - i.1) (i0 := ⟨0, by omega⟩)) (@cpO.eq_1) ?_
      rintro ⟨i, hi⟩ ih
      by_cases h0 : i = 0
      · subst h0
        have z1 : ((0 : Nat) : Int) < 1 := by omega
        have z2 : (0 : Int) < 1 := by omega
        have w1 : (if (0 : Nat) = 0 then c else c') = c := rfl
        have w2 : (if (1 : Nat) = 0 then c else c') = c' := rfl
        simp only [go_sem, w1, cpO]
        refine wgoF (And.intro (@z1) (And.intro (@z2) (@slD.eq_1))) ?_
        refine wcallF (ht) (And.intro (@Cp.d.eq_1) (And.intro (@Ev.d.eq_1) (@slD.eq_1))) ?_
        refine wgoF (@Cp.d.eq_1) ?_
        exact wnxtF (ih ⟨1, by omega⟩) (And.intro (@w2) (And.intro (@cpO.eq_1) (@slD.eq_1)))
      · obtain rfl : i = 1 := by omega
        have z1 : ¬ ((1 : Nat) : Int) < 1 := by omega
        have z2 : ¬ (1 : Int) < 1 := by omega
        have w2 : (if (1 : Nat) = 0 then c else c') = c' := rfl
        simp only [go_sem, w2, cpO]
        refine wgoF (And.intro (@z1) (@z2)) ?_
        exact wretF (And.intro (@rC.eq_1) (@Cp.d.eq_1))
  · have hr : slotR31 (L, x) c e = (c, x) := by unfold slotR31; rw [if_pos hx]
    rw [hr]
    refine enterP tabOk Tryz.func98 49 [0, 1, 2, 3, 4, 5, 6, 8, 20, 31, 36, 37, 38, 39] [.cell 2 81, .tmp 3] rfl (r := [_, _]) rfl (h := ?_); intro E hK; simp only [go_sem]
    refine wgoF (@tkD.eq_1) ?_
    refine wcallF (hF) (And.intro (@Brd.d.eq_1) (@Ev.d.eq_1)) ?_
    refine wgoF (And.intro (@rD.eq_1) (And.intro (@slsD.eq_1) (@hx))) ?_
    exact wretF (And.intro (@rC.eq_1) (@Cp.d.eq_1))
end Go.Proofs.YtojgjdcciojpeaaGreat

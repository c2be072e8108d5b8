/-
  A part of the walks of this seat: each theorem says what a function of the program gives. No condition beyond its own premises.
-/
import Derived.Test.YtojgjdcciojpeaaMA
set_option linter.unusedSimpArgs false
set_option linter.unusedVariables false
namespace Go.Proofs.Ytojgjdcciojpeaa
open Go Go.PS
set_option maxRecDepth 100000
set_option maxHeartbeats 4000000
/-- A letter by its number. -/
def letU (n : Int) : UInt8 := UInt8.ofNat (97 + n.toNat)
def textF (l : List Int) (n : Nat) (k : Int) : List UInt8 := (l.take n).map fun x => letU (x % k)
def abc : List UInt8 := [97, 98, 99, 100, 101, 102, 103, 104, 105, 106, 107, 108, 109, 110, 111, 112, 113, 114, 115, 116, 117, 118, 119, 120, 121, 122]
theorem abc_at {n : Int} (h : 0 ≤ n ∧ n < 26) : List.take ((n + 1).toNat - n.toNat) (List.drop n.toNat abc) = [letU n] := by
  obtain ⟨h1, h2⟩ := h
  obtain ⟨m, rfl⟩ : ∃ m : Nat, n = m := ⟨n.toNat, by omega⟩
  have : m < 26 := by omega
  have e : ((m : Int) + 1).toNat - (m : Int).toNat = 1 := by omega
  rw [e, Int.toNat_natCast]
  have key : ∀ m : Fin 26, List.take 1 (List.drop m.val abc) = [letU (m.val : Int)] := by decide
  exact key ⟨m, this⟩
def u8s (l : List Int) : Prop := (∀ x ∈ l, 0 ≤ x ∧ x ≤ 255) ∧ l.length ≤ 9223372036854775807
theorem u8s_at {l : List Int} (h : u8s l) {i : Nat} (hi : i < l.length) : 0 ≤ l.getD i 0 ∧ l.getD i 0 ≤ 255 := by
  have e : l.getD i 0 = l[i] := by simp [hi]
  rw [e]; exact h.1 _ (List.getElem_mem hi)
theorem text_snoc (l : List Int) (n : Nat) (k : Int) {i : Nat} (h : i < l.length) (hn : i < n) : textF (l.take (i + 1)) n k = textF (l.take i) n k ++ [letU (l.getD i 0 % k)] := by
  have e : l.getD i 0 = l[i] := by simp [h]
  unfold textF
  rw [List.take_take, List.take_take, Nat.min_eq_right (by omega), Nat.min_eq_right (by omega), List.take_succ_eq_append_getElem h, e, List.map_append]
  rfl
theorem text_len (l : List Int) (n : Nat) (k : Int) : (textF l n k).length = min n l.length := by simp [textF]
theorem text54 (l : List Int) (n : Nat) (k : Int) (hl : u8s l) (hn : n ≤ 100) (hk : 0 < k ∧ k ≤ 26) : PCall Try.prog 7 [.sl 1 (l.map (D.int .u8)), .int .i64 n, .int .i64 k] (.str (textF l n k)) := by
  obtain ⟨k1, k2⟩ := hk
  have hll := hl.2
  have ht0 : textF [] n k = [] := by simp [textF]
  refine enterP tabOk Try.func7 37 [0, 1, 2, 6, 7, 8, 9, 10, 19] [.tmp 6] rfl (r := [_]) rfl (h := ?_); intro E hK; simp only [go_sem]
  refine wgo ?_
  refine wlpF (Run.loopC (ι := { i : Nat // i ≤ l.length ∧ i ≤ n }) (U := fun i => [(8, .d (.str (textF (l.take i.1) n k))), (9, .d (.int .i64 i.1))]) (O := fun i => []) (K := fun _ => []) (μ := fun i => l.length - i.1) (i0 := ⟨0, by omega, by omega⟩)) (@ht0) ?_
  rintro ⟨i, hi, hin⟩ ih
  by_cases hlt : i < l.length
  · have h1 : (i : Int) < l.length := by omega
    by_cases hlt2 : i < n
    · have h2 : (i : Int) < n := by omega
      have hget : (List.map (D.int .u8) l).getD i .nilp = .int .u8 (l.getD i 0) := by simp [hlt]
      obtain ⟨b1, b2⟩ := u8s_at hl hlt
      have m1 := Int.emod_nonneg (l.getD i 0) (show k ≠ 0 by omega)
      have m2 := Int.emod_lt_of_pos (l.getD i 0) k1
      have hs := text_snoc l n k hlt hlt2
      have ha := abc_at (n := l.getD i 0 % k) ⟨m1, by omega⟩
      have hle := text_len (l.take i) n k
      have ha2 : List.take ((l.getD i 0 % k + 1).toNat - (l.getD i 0 % k).toNat) (List.drop (l.getD i 0 % k).toNat [97, 98, 99, 100, 101, 102, 103, 104, 105, 106, 107, 108, 109, 110, 111, 112, 113, 114, 115, 116, 117, 118, 119, 120, 121, 122]) = [letU (l.getD i 0 % k)] := ha
      have hle2 : (textF (l.take i) n k).length ≤ 100 := by rw [hle]; omega
      simp only [go_sem]
      refine wgoF (And.intro (@h1) (And.intro (@h2) (@hget))) ?_
      exact wnxtF (ih ⟨i + 1, by omega, by omega⟩) (And.intro (@hs) (@ha2))
    · have h2 : ¬ (i : Int) < n := by omega
      have hf : textF (l.take i) n k = textF l n k := by
        unfold textF; rw [List.take_take, Nat.min_eq_left (by omega), show n = i by omega]
      simp only [go_sem]
      refine wgoF (And.intro (@h1) (@h2)) ?_
      exact wretF (@hf)
  · have h1 : ¬ (i : Int) < l.length := by omega
    have hf : l.take i = l := List.take_of_length_le (by omega)
    simp only [go_sem, hf]
    refine wgoF (@h1) ?_
    exact wret
/-- An area of a board. -/
structure Ar where
  k : Int
  x0 : Int
  y0 : Int
  x1 : Int
  y1 : Int
  deriving DecidableEq, Inhabited
def Ar.d (a : Ar) : D := .agg [.int .u8 a.k, .int .i64 a.x0, .int .i64 a.y0, .int .i64 a.x1, .int .i64 a.y1]
def bpD (e : Int × Int) : D := .agg [.int .u8 e.1, .int .u8 e.2]
def bps (l : List (Int × Int)) : Prop := (∀ e ∈ l, 0 ≤ e.1 ∧ e.1 ≤ 255 ∧ 0 ≤ e.2 ∧ e.2 ≤ 255) ∧ l.length ≤ 9223372036854775807
theorem bp_get {l : List (Int × Int)} {i : Nat} (h : i < l.length) : (List.map bpD l).getD i .nilp = .agg [.int .u8 (l.getD i default).1, .int .u8 (l.getD i default).2] := by simp [h, bpD]
theorem bp_at {l : List (Int × Int)} (h : bps l) {i : Nat} (hi : i < l.length) : 0 ≤ (l.getD i default).1 ∧ (l.getD i default).1 ≤ 255 ∧ 0 ≤ (l.getD i default).2 ∧ (l.getD i default).2 ≤ 255 := by
  have e : l.getD i default = l[i] := by simp [hi]
  rw [e]; exact h.1 _ (List.getElem_mem hi)
def mkA (i : Nat) (x y : Int) (e : Int × Int) : Ar := ⟨97 + i, x, y, x + e.1 % 21, y + e.2 % 21⟩
def madeGo : List (Int × Int) → Nat → Int → Int → List Ar
  | [], _, _, _ => []
  | e :: r, i, x, y => if 14 ≤ i then [] else mkA i x y e :: (if i % 5 = 4 then madeGo r (i + 1) 0 (y + 22) else madeGo r (i + 1) (x + (e.1 % 21 + 1 + e.1 / 21 % 9)) y)
def madeA (l : List (Int × Int)) : List Ar := madeGo l 0 0 0
theorem made_drop {l : List (Int × Int)} {i : Nat} (h : i < l.length) (x y : Int) : madeGo (l.drop i) i x y = if 14 ≤ i then [] else mkA i x y (l.getD i default) :: (if i % 5 = 4 then madeGo (l.drop (i + 1)) (i + 1) 0 (y + 22) else madeGo (l.drop (i + 1)) (i + 1) (x + ((l.getD i default).1 % 21 + 1 + (l.getD i default).1 / 21 % 9)) y) := by
  have e : l.getD i default = l[i] := by simp [h]
  rw [List.drop_eq_getElem_cons h, madeGo, e]
def ptD (x y : Int) : D := .agg [.int .i64 x, .int .i64 y]
def mT : List D := [.agg [.int .u8 97, .sl 2 [ptD 0 0, ptD 20 20]], .agg [.int .u8 98, .sl 2 [ptD 20 0, ptD 0 20, ptD 20 40]]]
def mC : List Ck := [⟨[97, 98], 99⟩, ⟨[97, 98, 99], 97⟩]
def madeB (l : List (Int × Int)) : Brd := ⟨5, (madeA l).map Ar.d, 2, mT, mC⟩
def mO (out : List Ar) (t : Tok) : OB := ⟨29, 3, [.agg [.own 5 (out.map Ar.d) t, .own 0 [] .full, .own 2 [.agg [.str [97, 98], .int .u8 99], .agg [.str [97, 98, 99], .int .u8 97]] .full]]⟩
theorem alen (a : List Ar) : (List.map Ar.d a).length = a.length := List.length_map ..
theorem made16 (l : List (Int × Int)) (hl : bps l) : PCall Try.prog 6 [.sl 2 (l.map bpD)] (madeB l).d := by
  have hll := hl.2
  refine enterP tabOk Try.func6 84 [0, 2, 3, 4, 5, 6, 7, 8, 20, 69] [.cell 2 29] rfl (r := [_]) rfl (h := ?_); intro E hK; simp only [go_sem]
  refine wgo ?_
  (apply Run.fullOb 3 0 1003 55 5; (case ho => simp only [go_sem]; rfl); (case hel => simp only [go_sem]; rfl); (case hj => simp only [go_sem]; rfl); (case ht => simp only [go_sem]); (case hsm => decide); (case hs => simp only [go_sem]; rfl))
  refine wlpF (Run.loopC (ι := { z : Nat × Int × Int × List Ar // z.1 ≤ l.length ∧ z.1 ≤ 14 ∧ 0 ≤ z.2.1 ∧ z.2.1 ≤ 30 * z.1 ∧ 0 ≤ z.2.2.1 ∧ z.2.2.1 ≤ 22 * z.1 ∧ z.2.2.2.length = z.1 ∧ z.2.2.2 ++ madeGo (l.drop z.1) z.1 z.2.1 z.2.2.1 = madeA l }) (U := fun z => [(4, .d (.int .i64 z.1.2.1)), (5, .d (.int .i64 z.1.2.2.1)), (6, .d (.int .i64 z.1.1))]) (O := fun z => [(3, some (mO z.1.2.2.2 (.tok 1003)))]) (K := fun _ => [(1003, .live 55 5)]) (μ := fun z => l.length - z.1.1) (i0 := ⟨(0, 0, 0, []), by omega, by omega, by dsimp only; omega, by dsimp only; omega, by dsimp only; omega, by dsimp only; omega, rfl, rfl⟩)) (@mO.eq_1) ?_
  rintro ⟨⟨i, x, y, out⟩, hi, h14, hx0, hx1, hy0, hy1, ho, hp⟩ ih
  dsimp only at hi h14 hx0 hx1 hy0 hy1 ho hp
  have eo := alen out
  by_cases hlt : i < l.length ∧ i < 14
  · obtain ⟨hlt, hl14⟩ := hlt
    have h1 : (i : Int) < l.length := by omega
    have h2 : (i : Int) < 14 := by omega
    have hget := bp_get hlt
    obtain ⟨b1, b2, b3, b4⟩ := bp_at hl hlt
    rw [made_drop hlt, if_neg (by omega)] at hp
    generalize l.getD i default = e at hget b1 b2 b3 b4 hp
    have d1 : divT e.1 21 = e.1 / 21 := divT_nn b1
    by_cases hm : i % 5 = 4
    · rw [if_pos hm] at hp
      have c1 : decide ((i : Int) % 5 = 4) = true := decide_eq_true (by omega)
      simp only [go_sem, mO]
      refine wgoF (And.intro (@h1) (And.intro (@h2) (And.intro (@hget) (And.intro (@d1) (And.intro (@c1) (@eo)))))) ?_
      (apply Run.retok 52 1003; (case hk => simp only [go_sem]; rfl); (case ht => simp only [go_sem]; rfl); (case ht' => simp only [go_sem]); (case hs => simp only [go_sem]; rfl))
      exact wnxtF (ih ⟨(i + 1, 0, y + 22, out ++ [mkA i x y e]), by dsimp only; omega, by dsimp only; omega, by dsimp only; omega, by dsimp only; omega, by dsimp only; omega, by dsimp only; omega, by simp [ho], by rw [List.append_assoc]; exact hp⟩) (And.intro (@mO.eq_1) (And.intro (@Ar.d.eq_1) (@mkA.eq_1)))
    · rw [if_neg hm] at hp
      have c1 : decide ((i : Int) % 5 = 4) = false := decide_eq_false (by omega)
      simp only [go_sem, mO]
      refine wgoF (And.intro (@h1) (And.intro (@h2) (And.intro (@hget) (And.intro (@d1) (And.intro (@c1) (@eo)))))) ?_
      (apply Run.retok 52 1003; (case hk => simp only [go_sem]; rfl); (case ht => simp only [go_sem]; rfl); (case ht' => simp only [go_sem]); (case hs => simp only [go_sem]; rfl))
      exact wnxtF (ih ⟨(i + 1, x + (e.1 % 21 + 1 + e.1 / 21 % 9), y, out ++ [mkA i x y e]), by dsimp only; omega, by dsimp only; omega, by dsimp only; omega, by dsimp only; omega, by dsimp only; omega, by dsimp only; omega, by simp [ho], by rw [List.append_assoc]; exact hp⟩) (And.intro (@mO.eq_1) (And.intro (@Ar.d.eq_1) (@mkA.eq_1)))
  · have c : (decide ((i : Int) < l.length) && decide ((i : Int) < 14)) = false := by
      rw [Bool.and_eq_false_iff]
      by_cases q : i < l.length
      · right; exact decide_eq_false (by omega)
      · left; exact decide_eq_false (by omega)
    have hout : out = madeA l := by
      rw [← hp]
      by_cases q : i < l.length
      · rw [made_drop q, if_pos (by omega), List.append_nil]
      · rw [List.drop_eq_nil_of_le (by omega)]; simp [madeGo]
    simp only [go_sem, mO]
    refine wgoF (@c) ?_
    exact wretF (And.intro (@madeB.eq_1) (And.intro (@Brd.d.eq_1) (And.intro (@mT.eq_1) (And.intro (@mC.eq_1) (And.intro (@Ck.d.eq_1) (And.intro (@ptD.eq_1) (@hout)))))))
end Go.Proofs.Ytojgjdcciojpeaa

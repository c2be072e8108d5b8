/-
  A part of the walks of this seat: each theorem says what a function of the program gives. No condition beyond its own premises.
-/
import Derived.Test.YtojgjdcciojpeaaML1
set_option linter.unusedSimpArgs false
set_option linter.unusedVariables false
namespace Go.Proofs.Ytojgjdcciojpeaa
open Go Go.PS
set_option maxRecDepth 100000
set_option maxHeartbeats 4000000
/-- The letters a, b, c, over and over. -/
def bigC (j : Nat) : UInt8 := UInt8.ofNat (97 + j % 3)
def bigT (k : Nat) : List UInt8 := (List.range k).map bigC
theorem big_len (k : Nat) : (bigT k).length = k := by simp [bigT]
theorem big_snoc (k : Nat) : bigT (k + 1) = bigT k ++ [bigC k] := by simp [bigT, List.range_succ]
theorem big_let (k : Nat) : lets (bigT k) = true := by
  unfold lets bigT
  rw [List.all_eq_true]
  intro c hc
  obtain ⟨j, _, rfl⟩ := List.mem_map.1 hc
  have : j % 3 < 3 := Nat.mod_lt _ (by omega)
  have key : ∀ m : Fin 3, letB (UInt8.ofNat (97 + m.val)) = true := by decide
  exact key ⟨j % 3, this⟩
theorem big_take (j : Nat) : List.take (((j : Int) % 3 + 1).toNat - ((j : Int) % 3).toNat) (List.drop ((j : Int) % 3).toNat [97, 98, 99]) = [bigC j] := by
  have h : j % 3 < 3 := Nat.mod_lt _ (by omega)
  have e1 : ((j : Int) % 3).toNat = j % 3 := by omega
  have e2 : ((j : Int) % 3 + 1).toNat - (j % 3) = 1 := by omega
  rw [e1, e2]
  unfold bigC
  generalize j % 3 = m at h
  have key : ∀ m : Fin 3, List.take 1 (List.drop m.val [97, 98, 99]) = [UInt8.ofNat (97 + m.val)] := by decide
  exact key ⟨m, h⟩
def bigE (k : Nat) : Ev := ⟨5, [], [], bigT k, 0, 0⟩
def bigK (x : Int) : Nat := 1 + (x % 20).toNat
theorem bigK_bd (x : Int) : 1 ≤ bigK x ∧ bigK x ≤ 20 := by
  have := Int.emod_nonneg x (show (20 : Int) ≠ 0 by omega)
  have := Int.emod_lt_of_pos x (show (0 : Int) < 20 by omega)
  unfold bigK; omega
theorem big_valid {k : Nat} (h : 1 ≤ k ∧ k ≤ 20) : validE (bigE k) = true := by
  have q1 : (1 : Int) ≤ k := by omega
  have q2 : (k : Int) ≤ 20 := by omega
  simp [validE, bigE, Ev.noK, Ev.noP, Ev.noN, Ev.noL, big_let, big_len, q1, q2] <;> omega
theorem big_slot (cs : List Ck) {k : Nat} (h : 1 ≤ k ∧ k ≤ 20) : slotE cs ([], 0) ([], 0) (bigE k) = (typedF (bigT k), 0) := by
  rw [slotE, if_neg (by rw [big_valid h]; simp), if_neg (by simp [bigE]), if_neg (by simp [bigE]), if_neg (by simp [bigE]), if_neg (by simp [bigE])]; exact if_pos rfl
/-- Where the sum first is above 40. -/
def fb : List Nat → Nat → Nat → Option Nat
  | [], _, _ => none
  | k :: r, i, s => if 40 < s + k then some i else fb r (i + 1) (s + k)
theorem fb_snoc (k : Nat) : ∀ (a : List Nat) (i s : Nat), fb (a ++ [k]) i s = match fb a i s with | some j => some j | none => if 40 < s + a.sum + k then some (i + a.length) else none
  | [], i, s => by
    show (if 40 < s + k then some i else none) = (if 40 < s + 0 + k then some (i + 0) else none)
    rfl
  | x :: a, i, s => by
    rw [List.cons_append, fb, fb]
    by_cases h : 40 < s + x
    · rw [if_pos h, if_pos h]
    · rw [if_neg h, if_neg h, fb_snoc k a (i + 1) (s + x)]
      cases fb a (i + 1) (s + x) with
      | some j => rfl
      | none => simp only [List.sum_cons, List.length_cons]; rw [show s + x + a.sum + k = s + (x + a.sum) + k by omega, show i + 1 + a.length = i + (a.length + 1) by omega]; rfl
theorem fb_sum : ∀ (a : List Nat) (i s : Nat), fb a i s = none → s ≤ 40 → s + a.sum ≤ 40
  | [], i, s, _, h => by simpa using h
  | k :: r, i, s, h, hs => by
    rw [fb] at h
    split at h
    · cases h
    · have := fb_sum r (i + 1) (s + k) h (by omega)
      simp only [List.sum_cons]; omega
theorem big_slots (cs : List Ck) : ∀ (ks : List Nat) (i : Nat) (acc : List (List Ch)), (∀ k ∈ ks, 1 ≤ k ∧ k ≤ 20) → slotsF (slotE cs ([], 0) ([], 0)) (ks.map bigE) i acc = match fb ks i acc.length with
      | some j => ([], (j : Int), 2)
      | none => (acc ++ ks.flatMap (fun k => typedF (bigT k)), ((i + ks.length : Nat) : Int), 0)
  | [], i, acc, _ => by simp [slotsF, fb]
  | k :: r, i, acc, h => by
    have hk := h k (by simp)
    have hlen : (typedF (bigT k)).length = k := by rw [typed_len, big_len]
    rw [List.map_cons, slotsF, big_slot cs hk, if_neg (by simp), fb]
    dsimp only
    rw [hlen]
    by_cases hb : 40 < acc.length + k
    · rw [if_pos hb, if_pos hb]
    · rw [if_neg hb, if_neg hb, big_slots cs r (i + 1) _ (fun q hq => h q (by simp [hq])), List.length_append, hlen]
      cases fb r (i + 1) (acc.length + k) with
      | some j => rfl
      | none => simp only [List.flatMap_cons, List.append_assoc, List.length_cons]; rw [show i + 1 + r.length = i + (r.length + 1) by omega]
theorem flat_len : ∀ ks : List Nat, (ks.flatMap (fun k => typedF (bigT k))).length = ks.sum
  | [] => rfl
  | k :: r => by rw [List.flatMap_cons, List.length_append, flat_len r, typed_len, big_len, List.sum_cons]
theorem flat_sok (ks : List Nat) (h : ks.sum ≤ 40) : sok (ks.flatMap (fun k => typedF (bigT k))) := by
  refine ⟨by rw [flat_len]; omega, fun s hs => ?_⟩
  obtain ⟨k, _, hk⟩ := List.mem_flatMap.1 hs
  simp [typedF] at hk
  obtain ⟨c, _, rfl⟩ := hk; simp
def ksF (l : List Int) : List Nat := (l.take 30).map bigK
def atI : Option Nat → Int
  | some j => j
  | none => -1
theorem ks_snoc {l : List Int} {i : Nat} (h : i < l.length) (hn : i < 30) : ksF (l.take (i + 1)) = ksF (l.take i) ++ [bigK (l.getD i 0)] := by
  have e : l.getD i 0 = l[i] := by simp [h]
  unfold ksF
  rw [List.take_take, List.take_take, Nat.min_eq_right (by omega), Nat.min_eq_right (by omega), List.take_succ_eq_append_getElem h, e, List.map_append]
  rfl
theorem ks_le (l : List Int) : (ksF l).sum ≤ 20 * (ksF l).length := by
  unfold ksF
  generalize l.take 30 = r
  induction r with
  | nil => simp
  | cons x r ih =>
    have := (bigK_bd x).2
    simp only [List.map_cons, List.sum_cons, List.length_cons]; omega
theorem ks_len (l : List Int) : (ksF l).length = min 30 l.length := by simp [ksF]
theorem ks_bd (l : List Int) : ∀ k ∈ ksF l, 1 ≤ k ∧ k ≤ 20 := by
  intro k hk; obtain ⟨x, _, rfl⟩ := List.mem_map.1 hk; exact bigK_bd x
/-- An event of pasting as the law builds it: no points at all. -/
def bigD (k : Nat) : D := .agg [.int .i64 5, .str [], .sl 0 [], .str (bigT k), .int .i64 0, .int .i64 0]
theorem bigsE : ∀ ks : List Nat, dle.dleE (List.map bigD ks) (List.map Ev.d (List.map bigE ks)) = True
  | [] => by simp [dle.dleE]
  | c :: tx => by
    rw [List.map_cons, List.map_cons, List.map_cons, bigD, bigE, Ev.d, dle.dleE, bigsE tx]
    simp [dle.dleL, dle]
theorem evs_snoc (ks : List Nat) (k : Nat) : List.map bigD (ks ++ [k]) = List.map bigD ks ++ [.agg [.int .i64 5, .str [], .sl 0 [], .str (bigT k), .int .i64 0, .int .i64 0]] := by
  rw [List.map_append]; rfl
theorem bigN_ok : ckOk (⟨0, [], 0, [], []⟩ : Brd).cs := ⟨by simp, by intro c hc; simp at hc⟩
theorem lawBig (l : List Int) (hl : u8s l) : PCall Try.prog 4 [.sl 1 (l.map (D.int .u8))] (.bool true) := by
  have hll := hl.2
  have hks := ks_bd l
  have hkl := ks_len l
  have hF := big_slots [] (ksF l) 0 [] hks
  rw [List.nil_append, Nat.zero_add, List.length_nil] at hF
  have hS := slots26 (slotE [] ([], 0) ([], 0)) ⟨0, [], 0, [], []⟩ 0 [] ((ksF l).map bigE) (by simp; omega)
    (by intro e he; obtain ⟨k, hk, rfl⟩ := List.mem_map.1 he; have := hks k hk; exact slotKey ⟨0, [], 0, [], []⟩ bigN_ok 0 [] (bigE k) (lok_small _ _ _ _ _ _ (by simp) (by simp) (by rw [big_len]; omega)) (by simp [bigE]) (by simp [bigE]))
    (by intro e he; obtain ⟨k, hk, rfl⟩ := List.mem_map.1 he; rw [big_slot _ (hks k hk)]; rw [typed_len, big_len]; have := hks k hk; omega)
  rw [hF] at hS
  have z0 : ksF [] = [] := rfl
  have hsn0 : ([] : List Nat).sum = 0 := rfl
  have hat0 : atI (fb [] 0 0) = -1 := rfl
  refine enterP tabOk Try.func4 91 [0, 2, 3, 4, 5, 6, 7, 8, 9, 10, 11, 21, 39, 43, 63] [.tmp 2] rfl (r := [_]) rfl (h := ?_); intro E hK; simp only [go_sem]
  refine wgo ?_
  refine wcall (sanity15) ?_
  refine wgo ?_
  (apply Run.full 4 1004 35 6; (case hi => simp only [go_sem]; rfl); (case ht => simp only [go_sem]); (case hmn => first | exact Or.inl (by decide) | exact Or.inr rfl); (case hs => simp only [go_sem]; rfl))
  refine wlpF (Run.loopC (ι := { i : Nat // i ≤ l.length ∧ i ≤ 30 }) (U := fun i => [(4, .own 6 (List.map bigD (ksF (l.take i.1))) (.tok 1004)), (5, .d (.int .i64 ((ksF (l.take i.1)).sum : Nat))), (6, .d (.int .i64 (atI (fb (ksF (l.take i.1)) 0 0)))), (7, .d (.int .i64 i.1))]) (O := fun i => []) (K := fun _ => [(1004, .live 35 6)]) (μ := fun i => l.length - i.1) (i0 := ⟨0, by omega, by omega⟩)) (And.intro (@z0) (And.intro (@hsn0) (@hat0))) ?_
  rintro ⟨i, hi, hi3⟩ ih0
  have e1 : (List.map bigD (ksF (List.take i l))).length = i := by rw [List.length_map, ks_len, List.length_take]; omega
  have hkE := bigsE (ksF l)
  have e2 := ks_le (l.take i)
  have e3 := ks_len (l.take i)
  rw [List.length_take] at e3
  by_cases hlt : i < l.length ∧ i < 30
  · obtain ⟨hlt, hlt3⟩ := hlt
    have h1 : (i : Int) < l.length := by omega
    have h2 : (i : Int) < 30 := by omega
    have hget : (List.map (D.int .u8) l).getD i .nilp = .int .u8 (l.getD i 0) := by simp [hlt]
    obtain ⟨b1, b2⟩ := u8s_at hl hlt
    have hsn := ks_snoc hlt hlt3
    have hbk := bigK_bd (l.getD i 0)
    have hK : 1 + l.getD i 0 % 20 = ((bigK (l.getD i 0) : Nat) : Int) := by
      have := Int.emod_nonneg (l.getD i 0) (show (20 : Int) ≠ 0 by omega)
      unfold bigK; omega
    have hm1 := Int.emod_nonneg (l.getD i 0) (show (20 : Int) ≠ 0 by omega)
    have hm2 := Int.emod_lt_of_pos (l.getD i 0) (show (0 : Int) < 20 by omega)
    generalize bigK (l.getD i 0) = K at hsn hbk hK
    have hfs := fb_snoc K (ksF (l.take i)) 0 0
    rw [← hsn, Nat.zero_add, Nat.zero_add] at hfs
    have hsum : (ksF (l.take (i + 1))).sum = (ksF (l.take i)).sum + K := by rw [hsn]; simp
    have hev := evs_snoc (ksF (l.take i)) K
    rw [← hsn] at hev
    have hflen : (ksF (l.take i)).length = i := by omega
    rw [hflen] at hfs
    obtain ⟨at2, hat2, c⟩ : ∃ at2 : Int, atI (fb (ksF (l.take (i + 1))) 0 0) = at2 ∧ ((decide (40 < ((ksF (l.take i)).sum : Int) + (K : Int)) && decide (atI (fb (ksF (l.take i)) 0 0) < 0)) = true ∧ at2 = i ∨ (decide (40 < ((ksF (l.take i)).sum : Int) + (K : Int)) && decide (atI (fb (ksF (l.take i)) 0 0) < 0)) = false ∧ at2 = atI (fb (ksF (l.take i)) 0 0)) := by
      refine ⟨_, rfl, ?_⟩
      rw [hfs]
      cases hfb : fb (ksF (l.take i)) 0 0 with
      | some j =>
        right
        refine ⟨?_, rfl⟩
        rw [Bool.and_eq_false_iff]; right; exact decide_eq_false (by simp only [atI]; omega)
      | none =>
        by_cases h40 : 40 < (ksF (l.take i)).sum + K
        · left
          dsimp only
          rw [if_pos h40]
          refine ⟨?_, rfl⟩
          rw [Bool.and_eq_true]; exact ⟨decide_eq_true (by omega), by decide⟩
        · right
          dsimp only
          rw [if_neg h40]
          refine ⟨?_, rfl⟩
          rw [Bool.and_eq_false_iff]; left; exact decide_eq_false (by omega)
    rcases c with ⟨c, rfl⟩ | ⟨c, rfl⟩
    all_goals
      simp only [go_sem]
      refine wgoF (And.intro (@h1) (And.intro (@h2) (And.intro (@hget) (And.intro (@hK) (@c))))) ?_
      refine wlpF (Run.loopC (ι := { j : Nat // j ≤ K }) (U := fun j => [(9, .d (.str (bigT j.1))), (10, .d (.int .i64 j.1))]) (O := fun _ => []) (K := fun _ => []) (μ := fun j => K - j.1) (i0 := ⟨0, by omega⟩)) (show bigT 0 = [] from rfl) ?_
      rintro ⟨j, hj⟩ ih
      by_cases hjk : j < K
      · have q1 : (j : Int) < (K : Int) := by omega
        have q2 := big_take j
        have q3 := big_snoc j
        have q4 := big_len j
        simp only [go_sem]
        refine wgoF (And.intro (@q1) (@q4)) ?_
        exact wnxtF (ih ⟨j + 1, by omega⟩) (And.intro (@q3) (@q2))
      · have q1 : ¬ (j : Int) < (K : Int) := by omega
        obtain rfl : j = K := by omega
        simp only [go_sem]
        refine wgoF (And.intro (@q1) (@e1)) ?_
        (apply Run.retok 58 1004; (case hk => simp only [go_sem]; rfl); (case ht => simp only [go_sem]; rfl); (case ht' => simp only [go_sem]); (case hs => simp only [go_sem]; rfl))
        exact wnxtF (ih0 ⟨i + 1, by omega, by omega⟩) (And.intro (@hev) (And.intro (@hsum) (@hat2)))
  · have c : (decide ((i : Int) < l.length) && decide ((i : Int) < 30)) = false := by
      rw [Bool.and_eq_false_iff]
      by_cases q : i < l.length
      · right; exact decide_eq_false (by omega)
      · left; exact decide_eq_false (by omega)
    have hkf : ksF (l.take i) = ksF l := by
      unfold ksF; rw [List.take_take]
      by_cases q : i < l.length
      · rw [show i = 30 by omega]; rfl
      · have hil : i = l.length := by omega
        rw [hil]
        rcases Nat.le_total 30 l.length with h | h
        · rw [Nat.min_eq_left h]
        · rw [Nat.min_eq_right h, List.take_of_length_le (Nat.le_refl _), List.take_of_length_le h]
    rw [hkf] at e1 e2 e3
    cases hfb : fb (ksF l) 0 0 with
    | some j =>
      rw [hfb] at hS
      have j0 : (0 : Int) ≤ (j : Int) := by omega
      have sk : sok ([] : List (List Ch)) := ⟨by simp, by simp⟩
      have hq := same25 ([], (j : Int), 2) ([], (j : Int), 2) sk sk
      rw [decide_eq_true rfl] at hq
      simp only [go_sem, hkf, hfb, atI]
      refine wgoF (@c) ?_
      refine wcallF (hS) (And.intro (@Brd.d.eq_1) (@hkE)) ?_
      refine wgoF (And.intro (@r3A.eq_1) (And.intro (@slsD.eq_1) (@j0))) ?_
      refine wcallF (hq) (And.intro (@r3A.eq_1) (@slsD.eq_1)) ?_
      refine wgo ?_
      exact wret
    | none =>
      rw [hfb] at hS
      dsimp only at hS
      have hs40 := fb_sum (ksF l) 0 0 hfb (by omega)
      have hfl := flat_len (ksF l)
      have hml := mlen ((ksF l).flatMap fun k => typedF (bigT k))
      rw [hfl] at hml
      have d1 : decide (((ksF l).length : Int) = (i : Int)) = true := decide_eq_true (by rw [List.length_map] at e1; omega)
      have d2 : decide (((ksF l).sum : Int) = ((ksF l).sum : Int)) = true := by simp
      have d0 : ¬ (0 : Int) ≤ -1 := by omega
      simp only [go_sem, hkf, hfb, atI]
      refine wgoF (@c) ?_
      refine wcallF (hS) (And.intro (@Brd.d.eq_1) (@hkE)) ?_
      refine wgoF (And.intro (@r3A.eq_1) (And.intro (@slsD.eq_1) (And.intro (@e1) (And.intro (@hml) (And.intro (@d0) (And.intro (@d1) (@d2))))))) ?_
      exact wret
end Go.Proofs.Ytojgjdcciojpeaa

/-
  A part of the walks of this seat: each theorem says what a function of the program gives. No condition beyond its own premises.
-/
import Derived.Test.YtojgjdcciojpeaaMB
set_option linter.unusedSimpArgs false
set_option linter.unusedVariables false
namespace Go.Proofs.Ytojgjdcciojpeaa
open Go Go.PS
set_option maxRecDepth 100000
set_option maxHeartbeats 4000000
def keyE (c : UInt8) : Ev := ⟨1, [c], [], [], 0, 0⟩
theorem letU_let {n : Int} (h : 0 ≤ n ∧ n < 26) : letB (letU n) = true := by
  obtain ⟨m, rfl⟩ : ∃ m : Nat, n = m := ⟨n.toNat, by omega⟩
  have : m < 26 := by omega
  have key : ∀ m : Fin 26, letB (letU (m.val : Int)) = true := by decide
  exact key ⟨m, this⟩
theorem text_lets (l : List Int) (n : Nat) (k : Int) (hk : 0 < k ∧ k ≤ 26) : lets (textF l n k) = true := by
  unfold lets textF
  rw [List.all_eq_true]
  intro c hc
  obtain ⟨x, _, rfl⟩ := List.mem_map.1 hc
  exact letU_let ⟨Int.emod_nonneg _ (by omega), by have := Int.emod_lt_of_pos x hk.1; omega⟩
theorem key_valid {c : UInt8} (h : letB c = true) : validE (keyE c) = true := by
  simp [validE, keyE, lets, h, Ev.noP, Ev.noT, Ev.noN, Ev.noL]
theorem slot_key (cs : List Ck) (t s : List Ch × Int) {c : UInt8} (h : letB c = true) : slotE cs t s (keyE c) = ([[byteC c]], 0) := by
  rw [slotE, if_neg (by rw [key_valid h]; simp)]; exact if_pos rfl
theorem keys_slots (cs : List Ck) (t s : List Ch × Int) : ∀ (tx : List UInt8) (i : Nat) (acc : List (List Ch)), lets tx = true → acc.length + tx.length ≤ 40 → slotsF (slotE cs t s) (tx.map keyE) i acc = (acc ++ typedF tx, ((i + tx.length : Nat) : Int), 0)
  | [], i, acc, _, _ => by simp [slotsF, typedF]
  | c :: tx, i, acc, hl, hn => by
    have h1 : letB c = true ∧ lets tx = true := by simpa [lets] using hl
    rw [List.map_cons, slotsF, slot_key cs t s h1.1, if_neg (by simp), if_neg (by simp at hn ⊢; omega), keys_slots cs t s tx (i + 1) _ h1.2 (by simp at hn ⊢; omega)]
    simp [typedF]; omega
theorem slotKey (b : Brd) (hc : ckOk b.cs) (tz : Nat) (tp : List D) (e : Ev) (hl : e.lok) (h3 : e.kind ≠ 3) (h4 : e.kind ≠ 4) : PCall Try.prog 11 [b.d, .sl tz tp, e.d] (rD (slotE b.cs ([], 0) ([], 0) e)) :=
  slot19 b tz tp e hl hc ([], 0) ([], 0) (fun _ h => absurd h h3) (fun _ h => absurd h h4)
theorem mC_ok (l : List (Int × Int)) : ckOk (madeB l).cs := ⟨by simp [madeB, mC], by intro c hc; simp [madeB, mC] at hc; rcases hc with rfl | rfl <;> simp⟩
theorem sok_typed (l : List UInt8) (h : l.length ≤ 100000) : sok (typedF l) := ⟨by rw [typed_len]; exact h, by intro s hs; simp [typedF] at hs; obtain ⟨c, _, rfl⟩ := hs; simp⟩
theorem take_one {l : List UInt8} {i : Nat} (h : i < l.length) : List.take (((i : Int) + 1).toNat - i) (List.drop i l) = [l.getD i 0] := by
  have e : l.getD i 0 = l[i] := by simp [h]
  rw [show ((i : Int) + 1).toNat - i = 1 by omega, List.drop_eq_getElem_cons h, e]; rfl
/-- An event of a key as the laws build it: no points at all. -/
def keyD (c : UInt8) : D := .agg [.int .i64 1, .str [c], .sl 0 [], .str [], .int .i64 0, .int .i64 0]
theorem keysE : ∀ tx : List UInt8, dle.dleE (List.map keyD tx) (List.map Ev.d (List.map keyE tx)) = True
  | [] => by simp [dle.dleE]
  | c :: tx => by
    rw [List.map_cons, List.map_cons, List.map_cons, keyD, keyE, Ev.d, dle.dleE, keysE tx]
    simp [dle.dleL, dle]
theorem keys_snoc {l : List UInt8} {i : Nat} (h : i < l.length) : List.map keyD (l.take (i + 1)) = List.map keyD (l.take i) ++ [.agg [.int .i64 1, .str [l.getD i 0], .sl 0 [], .str [], .int .i64 0, .int .i64 0]] := by
  have e : l.getD i 0 = l[i] := by simp [h]
  rw [List.take_succ_eq_append_getElem h, e, List.map_append]
  rfl
theorem lawKeys (l : List Int) (x : List (Int × Int)) (hl : u8s l) (hx : bps x) : PCall Try.prog 3 [.sl 1 (l.map (D.int .u8)), .sl 2 (x.map bpD)] (.bool true) := by
  have ht := text54 l 20 26 hl (by omega) (by omega)
  have hlen := text_len l 20 26
  have hlet := text_lets l 20 26 (by omega)
  have hm := made16 x hx
  have hck := mC_ok x
  generalize textF l 20 26 = tx at ht hlen hlet
  generalize hbe : madeB x = b at hm hck
  have h20 : tx.length ≤ 20 := by omega
  have hF := keys_slots b.cs ([], 0) ([], 0) tx 0 [] hlet (by simp; omega)
  rw [List.nil_append, Nat.zero_add] at hF
  have hS := slots26 (slotE b.cs ([], 0) ([], 0)) b 0 [] (tx.map keyE) (by simp; omega)
    (by intro e he; obtain ⟨c, _, rfl⟩ := List.mem_map.1 he; exact slotKey b hck 0 [] (keyE c) (lok_small _ _ _ _ _ _ (by simp) (by simp) (by simp)) (by simp [keyE]) (by simp [keyE]))
    (by intro e he; obtain ⟨c, hc, rfl⟩ := List.mem_map.1 he; rw [slot_key _ _ _ (List.all_eq_true.1 hlet c hc)]; simp)
  rw [hF] at hS
  have hT := typed59 tx (by omega)
  have hok := sok_typed tx (by omega)
  have hq := same21 (typedF tx) (typedF tx) hok.1 hok.1 hok.2 hok.2
  rw [decide_eq_true rfl] at hq
  have el := typed_len tx
  obtain ⟨za, A, zt, T, cs⟩ := b
  refine enterP tabOk Try.func3 76 [0, 1, 4, 5, 6, 7, 8, 9, 10, 11, 12, 22, 54, 56] [.tmp 4] rfl (r := [_]) rfl (h := ?_); intro E hK; simp only [go_sem]
  refine wgo ?_
  refine wcall (sanity15) ?_
  refine wgo ?_
  refine wcall (hm) ?_
  refine wgo ?_
  refine wcall (ht) ?_
  refine wgoF (@Brd.d.eq_1) ?_
  (apply Run.full 8 1008 35 6; (case hi => simp only [go_sem]; rfl); (case ht => simp only [go_sem]); (case hmn => first | exact Or.inl (by decide) | exact Or.inr rfl); (case hs => simp only [go_sem]; rfl))
  refine wlp (Run.loopC (ι := { i : Nat // i ≤ tx.length }) (U := fun i => [(8, .own 6 (List.map keyD (tx.take i.1)) (.tok 1008)), (9, .d (.int .i64 i.1))]) (O := fun i => []) (K := fun _ => [(1008, .live 35 6)]) (μ := fun i => tx.length - i.1) (i0 := ⟨0, by omega⟩)) ?_
  rintro ⟨i, hi⟩ ih
  have e1 : (List.map keyD (List.take i tx)).length = i := by simp; omega
  have hkE := keysE tx
  by_cases hlt : i < tx.length
  · have h1 : (i : Int) < tx.length := by omega
    have h2 := take_one hlt
    have h3 := keys_snoc hlt
    simp only [go_sem]
    refine wgoF (And.intro (@h1) (And.intro (@h2) (@e1))) ?_
    (apply Run.retok 33 1008; (case hk => simp only [go_sem]; rfl); (case ht => simp only [go_sem]; rfl); (case ht' => simp only [go_sem]); (case hs => simp only [go_sem]; rfl))
    exact wnxtF (ih ⟨i + 1, by omega⟩) (@h3)
  · have h1 : ¬ (i : Int) < tx.length := by omega
    obtain rfl : i = tx.length := by omega
    have h2 : List.take tx.length tx = tx := List.take_length
    have d1 : decide ((tx.length : Int) = (tx.length : Int)) = true := by simp
    by_cases hnil : tx = []
    · have hn : decide (tx = []) = true := decide_eq_true hnil
      simp only [go_sem, h2]
      refine wgoF (@h1) ?_
      refine wcallF (hS) (And.intro (@Brd.d.eq_1) (@hkE)) ?_
      refine wgoF (And.intro (@r3A.eq_1) (And.intro (@slsD.eq_1) (@d1))) ?_
      refine wcall (hT) ?_
      refine wgo ?_
      refine wcallF (hq) (@slsD.eq_1) ?_
      refine wgoF (@hn) ?_
      exact wret
    · have hn : decide (tx = []) = false := decide_eq_false hnil
      have hpos : 1 ≤ tx.length := by
        have := List.length_pos_iff.2 hnil; omega
      have hv : validE ⟨5, [], [], tx, 0, 0⟩ = true := by
        have q1 : (1 : Int) ≤ tx.length := by omega
        have q2 : (tx.length : Int) ≤ 20 := by omega
        simp [validE, Ev.noK, Ev.noP, Ev.noN, Ev.noL, hlet, q1, q2] <;> omega
      have hr : slotE cs ([], 0) ([], 0) ⟨5, [], [], tx, 0, 0⟩ = (typedF tx, 0) := by
        rw [slotE, if_neg (by rw [hv]; simp), if_neg (by dsimp only; omega), if_neg (by dsimp only; omega), if_neg (by dsimp only; omega), if_neg (by dsimp only; omega), if_pos rfl]
      have hP := slotKey ⟨za, A, zt, T, cs⟩ hck 0 [] ⟨5, [], [], tx, 0, 0⟩ ⟨by simp, by simp, by show tx.length ≤ _; omega⟩ (by dsimp only; omega) (by dsimp only; omega)
      rw [hr] at hP
      simp only [go_sem, h2]
      refine wgoF (@h1) ?_
      refine wcallF (hS) (And.intro (@Brd.d.eq_1) (@hkE)) ?_
      refine wgoF (And.intro (@r3A.eq_1) (And.intro (@slsD.eq_1) (@d1))) ?_
      refine wcall (hT) ?_
      refine wgo ?_
      refine wcallF (hq) (@slsD.eq_1) ?_
      refine wgoF (@hn) ?_
      refine wcallF (hP) (And.intro (@Brd.d.eq_1) (@Ev.d.eq_1)) ?_
      refine wgoF (And.intro (@rD.eq_1) (@slsD.eq_1)) ?_
      refine wcallF (hq) (@slsD.eq_1) ?_
      refine wgo ?_
      exact wret
end Go.Proofs.Ytojgjdcciojpeaa

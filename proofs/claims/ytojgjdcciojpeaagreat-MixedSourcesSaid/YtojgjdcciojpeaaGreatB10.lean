/-
  A part of the walks of this seat: each theorem says what a function of the program gives. No condition beyond its own premises.
-/
import Derived.Test.YtojgjdcciojpeaaGreatB9
set_option linter.unusedSimpArgs false
set_option linter.unusedVariables false
namespace Go.Proofs.YtojgjdcciojpeaaGreat
open Go Go.PS
set_option maxRecDepth 100000
set_option maxHeartbeats 4000000
def byteC (c : UInt8) : Ch := ⟨(c.toNat : Int), 0⟩
/-- The slots of letters. -/
def typedF (l : List UInt8) : List (List Ch) := l.map fun c => [byteC c]
theorem typed_len (l : List UInt8) : (typedF l).length = l.length := by simp [typedF]
theorem typed_snoc {l : List UInt8} {i : Nat} (h : i < l.length) : (typedF (l.take (i + 1))).map slD = (typedF (l.take i)).map slD ++ [.sl 2 [.agg [.int .u8 ((l.getD i 0).toNat : Int), .int .i64 0]]] := by
  have e : l.getD i 0 = l[i] := by simp [h]
  rw [List.take_succ_eq_append_getElem h, e]
  simp only [typedF, List.map_append, List.map_cons, List.map_nil]; rfl
theorem typed59 (l : List UInt8) (hl : l.length ≤ 100000) : PCall Tryz.prog 59 [.str l] (slsD (typedF l)) := by
  refine enterP tabOk Tryz.func59 21 [0, 2, 3, 4, 9] [.tmp 2] rfl (r := [_]) rfl (h := ?_); intro E hK; simp only [go_sem]
  refine wgo ?_
  (apply Run.full 3 1003 64 1; (case hi => simp only [go_sem]; rfl); (case ht => simp only [go_sem]); (case hmn => first | exact Or.inl (by decide) | exact Or.inr rfl); (case hs => simp only [go_sem]; rfl))
  refine wlpF (Run.loopC (ι := { i : Nat // i ≤ l.length }) (U := fun i => [(3, .own 1 ((typedF (l.take i.1)).map slD) (.tok 1003)), (4, .d (.int .i64 i.1))]) (O := fun i => []) (K := fun _ => [(1003, .live 64 1)]) (μ := fun i => l.length - i.1) (i0 := ⟨0, by omega⟩)) (And.intro (@slD.eq_1) (@typedF.eq_1)) ?_
  rintro ⟨i, hi⟩ ih
  have hlen : (List.map slD (typedF (List.take i l))).length = i := by simp [typedF]; omega
  by_cases hlt : i < l.length
  · have h1 : (i : Int) < l.length := by omega
    have hs := typed_snoc hlt
    simp only [go_sem]
    refine wgoF (And.intro (@h1) (@hlen)) ?_
    (apply Run.retok 19 1003; (case hk => simp only [go_sem]; rfl); (case ht => simp only [go_sem]; rfl); (case ht' => simp only [go_sem]); (case hs => simp only [go_sem]; rfl))
    exact wnxtF (ih ⟨i + 1, by omega⟩) (@hs)
  · have h1 : ¬ (i : Int) < l.length := by omega
    have e : l.take i = l := List.take_of_length_le (by omega)
    simp only [go_sem, e]
    refine wgoF (@h1) ?_
    exact wretF (@slsD.eq_1)
/-- The row of slots after i rounds. -/
def tyR (l : List UInt8) (i : Nat) : List D := (typedF (l.take i)).map slD ++ List.replicate (l.length - i) (.sl 2 [])
theorem tyR_len {l : List UInt8} {i : Nat} (h : i ≤ l.length) : (tyR l i).length = l.length := by simp [tyR, typedF]; omega
theorem tyR_lenM {l : List UInt8} {i : Nat} (h : i ≤ l.length) : (List.map PV.ofD.PV.ofD1 (tyR l i)).length = l.length := by rw [List.length_map, tyR_len h]
theorem tyR_get {l : List UInt8} {i : Nat} (h : i < l.length) : (List.map PV.ofD.PV.ofD1 (tyR l i)).getD i .any = .d (.sl 2 []) := by
  have hlen : ((typedF (l.take i)).map slD).length = i := by simp [typedF]; omega
  have e : (tyR l i)[i]? = some (.sl 2 []) := by
    rw [tyR, List.getElem?_append_right (by omega), hlen, Nat.sub_self, List.getElem?_replicate, if_pos (by omega)]
  simp [List.getD, e, PV.ofD.PV.ofD1]
theorem tyR_set {l : List UInt8} {i : Nat} (h : i < l.length) : (tyR l i).set i (.sl 2 [.agg [.int .u8 ((l.getD i 0).toNat : Int), .int .i64 0]]) = tyR l (i + 1) := by
  have hlen : ((typedF (l.take i)).map slD).length = i := by simp [typedF]; omega
  obtain ⟨m, hm⟩ : ∃ m, l.length - i = m + 1 := ⟨l.length - i - 1, by omega⟩
  rw [tyR, tyR, List.set_append_right _ _ (by omega), hlen, Nat.sub_self, hm, List.replicate_succ, List.set_cons_zero, typed_snoc h, show l.length - (i + 1) = m by omega, List.append_assoc]
  rfl
theorem tyR_all (l : List UInt8) : tyR l l.length = (typedF l).map slD := by simp [tyR]
theorem tyR_one (l : List UInt8) (i : Nat) : ∀ e ∈ tyR l i, e.cells.length = 1 := by
  intro e he
  rcases List.mem_append.1 he with h | h
  · obtain ⟨s, _, rfl⟩ := List.mem_map.1 h; rfl
  · rw [(List.mem_replicate.1 h).2]; rfl
theorem tyR_zero (l : List UInt8) : tyR l 0 = List.replicate l.length (.sl 2 []) := by simp [tyR, typedF]
theorem typed112 (l : List UInt8) (hl : l.length ≤ 100000) : PCall Tryz.prog 112 [.str l] (slsD (typedF l)) := by
  by_cases hn : l = []
  · subst hn
    refine enterP tabOk Tryz.func112 23 [0, 2, 3, 4, 9, 10, 11] [.tmp 2] rfl (r := [_]) rfl (h := ?_); intro E hK; simp only [go_sem]
    refine wgo ?_
    refine run_loop ?_
    refine wgo ?_
    exact wretF (And.intro (@slsD.eq_1) (@typedF.eq_1))
  · have hpos : 0 < l.length := List.length_pos_iff.2 hn
    have h0 : ¬ ((l.length : Int) = 0) := by omega
    have z0 := tyR_zero l
    refine enterP tabOk Tryz.func112 23 [0, 2, 3, 4, 9, 10, 11] [.tmp 2] rfl (r := [_]) rfl (h := ?_); intro E hK; simp only [go_sem]
    refine wgoF (@h0) ?_
    (apply Run.reOb 7 (List.map PV.ofD.PV.ofD1 (List.replicate l.length (D.sl 2 []))); (case ho => simp only [go_sem]; rfl); (case h => exact reOb_nils _ _ _ _); (case hs => simp [PV.ofD.PV.ofD1, PV.cells]); (case hss => simp only [go_sem]; rfl))
    rw [← z0]
    refine wlp (Run.loopC (ι := { i : Nat // i ≤ l.length }) (U := fun i => [(10, .d (.int .i64 i.1))]) (O := fun i => [(7, some ⟨64, 1, (tyR l i.1).map PV.ofD.PV.ofD1⟩)]) (K := fun _ => []) (μ := fun i => l.length - i.1) (i0 := ⟨0, by omega⟩)) ?_
    rintro ⟨i, hi⟩ ih
    by_cases hlt : i < l.length
    · have h1 : (i : Int) < l.length := by omega
      have e1 := tyR_lenM (Nat.le_of_lt hlt)
      have e2 := tyR_get hlt
      simp only [go_sem]
      refine wgoF (And.intro (@h1) (And.intro (@e1) (@e2))) ?_
      (apply Run.reOb 7 ((tyR l (i + 1)).map PV.ofD.PV.ofD1); (case ho => simp only [go_sem]; rfl); (case h => intro γ cs hh; have q := reOb_own _ _ _ _ _ γ cs hh; rw [tyR_set hlt] at q; exact q); (case hs => intro e he; obtain ⟨d, hd, rfl⟩ := List.mem_map.1 he; have := tyR_one l (i + 1) d hd; rw [← this]; cases d <;> simp [PV.ofD.PV.ofD1, PV.cells, D.cells]); (case hss => simp only [go_sem]; rfl))
      exact wnxt (ih ⟨i + 1, by omega⟩)
    · have h1 : ¬ (i : Int) < l.length := by omega
      obtain rfl : i = l.length := by omega
      have e := tyR_all l
      have e2 : (l.length ≤ (typedF l).length) = True := eq_true (by rw [typed_len]; exact Nat.le_refl _)
      have e3 : List.take l.length (List.map slD (typedF l)) = List.map slD (typedF l) := List.take_of_length_le (by rw [List.length_map, typed_len]; exact Nat.le_refl _)
      simp only [go_sem]
      refine wgoF (@h1) ?_
      (apply Run.freezeRow 7; (case ho => simp only [go_sem]; rfl); (case hsz => exact tyR_one l l.length); (case hit => rfl); (case hs => simp only [go_sem]; rfl))
      exact wretF (And.intro (@e) (And.intro (@e2) (And.intro (@e3) (@slsD.eq_1))))
/-! Slots held against each other. -/
theorem same32 (a b : List Ch) (hl : a.length ≤ 100000) (hl2 : b.length ≤ 100000) : PCall Tryz.prog 32 [.sl 2 (a.map Ch.d), .sl 2 (b.map Ch.d)] (.bool (decide (a = b))) := by
  by_cases hne : a.length = b.length
  · have h0 : decide ((a.length : Int) = (b.length : Int)) = true := decide_eq_true (by omega)
    refine enterP tabOk Tryz.func32 26 [0, 1, 4, 5, 10, 14, 25] [.tmp 4] rfl (r := [_]) rfl (h := ?_); intro E hK; simp only [go_sem]
    refine wgoF (@h0) ?_
    refine wlp (Run.loopC (ι := { i : Nat // i ≤ a.length ∧ a.take i = b.take i }) (U := fun i => [(5, .d (.int .i64 i.1))]) (O := fun i => []) (K := fun _ => []) (μ := fun i => a.length - i.1) (i0 := ⟨0, by omega, rfl⟩)) ?_
    rintro ⟨i, hi, he⟩ ih
    by_cases hlt : i < a.length
    · have h1 : (i : Int) < a.length := by omega
      have h1b : (i : Int) < b.length := by omega
      have hlt2 : i < b.length := by omega
      have ga := ch_get hlt
      have gb := ch_get hlt2
      have ea : a.getD i default = a[i] := by simp [hlt]
      have eb : b.getD i default = b[i] := by simp [hlt2]
      by_cases heq : a.getD i default = b.getD i default
      · have c1 : decide ((a.getD i default).k = (b.getD i default).k) = true := decide_eq_true (by rw [heq])
        have c2 : decide ((a.getD i default).c = (b.getD i default).c) = true := decide_eq_true (by rw [heq])
        simp only [go_sem]
        refine wgoF (And.intro (@h1) (And.intro (@h1b) (And.intro (@ga) (And.intro (@gb) (And.intro (@c1) (@c2)))))) ?_
        exact wnxt (ih ⟨i + 1, by omega, by rw [List.take_succ_eq_append_getElem hlt, List.take_succ_eq_append_getElem hlt2, he, ← ea, ← eb, heq]⟩)
      · have c1 : (!(decide ((a.getD i default).k = (b.getD i default).k) && decide ((a.getD i default).c = (b.getD i default).c))) = true := by
          rw [Bool.not_eq_true', Bool.and_eq_false_iff]
          by_cases q : (a.getD i default).k = (b.getD i default).k
          · right; refine decide_eq_false fun q2 => heq ?_
            generalize a.getD i default = u at q q2; generalize b.getD i default = v at q q2
            cases u; cases v; simp_all
          · left; exact decide_eq_false q
        have hr : decide (a = b) = false := decide_eq_false fun e => by subst e; exact heq rfl
        simp only [go_sem]
        refine wgoF (And.intro (@h1) (And.intro (@h1b) (And.intro (@ga) (And.intro (@gb) (@c1))))) ?_
        exact wretF (@hr)
    · have h1 : ¬ (i : Int) < a.length := by omega
      have hr : decide (a = b) = true := decide_eq_true (by
        rw [List.take_of_length_le (by omega), List.take_of_length_le (by omega)] at he; exact he)
      simp only [go_sem]
      refine wgoF (@h1) ?_
      exact wretF (@hr)
  · have h0 : decide ((a.length : Int) = (b.length : Int)) = false := decide_eq_false (by omega)
    have hr : decide (a = b) = false := decide_eq_false fun e => hne (by rw [e])
    refine enterP tabOk Tryz.func32 26 [0, 1, 4, 5, 10, 14, 25] [.tmp 4] rfl (r := [_]) rfl (h := ?_); intro E hK; simp only [go_sem]
    refine wgoF (@h0) ?_
    exact wretF (@hr)
theorem same21 (a b : List (List Ch)) (hl : a.length ≤ 100000) (hl2 : b.length ≤ 100000) (ha : ∀ s ∈ a, s.length ≤ 100000) (hb : ∀ s ∈ b, s.length ≤ 100000) : PCall Tryz.prog 21 [slsD a, slsD b] (.bool (decide (a = b))) := by
  by_cases hne : a.length = b.length
  · have h0 : decide ((a.length : Int) = (b.length : Int)) = true := decide_eq_true (by omega)
    refine enterP tabOk Tryz.func21 27 [0, 1, 4, 5, 10, 14, 26] [.tmp 4] rfl (r := [_]) rfl (h := ?_); intro E hK; simp only [go_sem]
    refine wgoF (And.intro (@slsD.eq_1) (@h0)) ?_
    refine wlp (Run.loopC (ι := { i : Nat // i ≤ a.length ∧ a.take i = b.take i }) (U := fun i => [(5, .d (.int .i64 i.1))]) (O := fun i => []) (K := fun _ => []) (μ := fun i => a.length - i.1) (i0 := ⟨0, by omega, rfl⟩)) ?_
    rintro ⟨i, hi, he⟩ ih
    by_cases hlt : i < a.length
    · have h1 : (i : Int) < a.length := by omega
      have h1b : (i : Int) < b.length := by omega
      have hlt2 : i < b.length := by omega
      have ga := sl_get hlt
      have gb := sl_get hlt2
      have ea : a.getD i [] = a[i] := by simp [hlt]
      have eb : b.getD i [] = b[i] := by simp [hlt2]
      have hc := same32 (a.getD i []) (b.getD i []) (by rw [ea]; exact ha _ (List.getElem_mem hlt)) (by rw [eb]; exact hb _ (List.getElem_mem hlt2))
      by_cases heq : a.getD i [] = b.getD i []
      · have c1 : decide (a.getD i [] = b.getD i []) = true := decide_eq_true heq
        rw [c1] at hc
        simp only [go_sem]
        refine wgoF (And.intro (@h1) (And.intro (@h1b) (And.intro (@ga) (@gb)))) ?_
        refine wcall (hc) ?_
        refine wgo ?_
        exact wnxt (ih ⟨i + 1, by omega, by rw [List.take_succ_eq_append_getElem hlt, List.take_succ_eq_append_getElem hlt2, he, ← ea, ← eb, heq]⟩)
      · have c1 : decide (a.getD i [] = b.getD i []) = false := decide_eq_false heq
        rw [c1] at hc
        have hr : decide (a = b) = false := decide_eq_false fun e => by subst e; exact heq rfl
        simp only [go_sem]
        refine wgoF (And.intro (@h1) (And.intro (@h1b) (And.intro (@ga) (@gb)))) ?_
        refine wcall (hc) ?_
        refine wgo ?_
        exact wretF (@hr)
    · have h1 : ¬ (i : Int) < a.length := by omega
      have hr : decide (a = b) = true := decide_eq_true (by
        rw [List.take_of_length_le (by omega), List.take_of_length_le (by omega)] at he; exact he)
      simp only [go_sem]
      refine wgoF (@h1) ?_
      exact wretF (@hr)
  · have h0 : decide ((a.length : Int) = (b.length : Int)) = false := decide_eq_false (by omega)
    have hr : decide (a = b) = false := decide_eq_false fun e => hne (by rw [e])
    refine enterP tabOk Tryz.func21 27 [0, 1, 4, 5, 10, 14, 26] [.tmp 4] rfl (r := [_]) rfl (h := ?_); intro E hK; simp only [go_sem]
    refine wgoF (And.intro (@slsD.eq_1) (@h0)) ?_
    exact wretF (@hr)
end Go.Proofs.YtojgjdcciojpeaaGreat
set_option linter.unusedSimpArgs false
set_option linter.unusedVariables false
namespace Go.Proofs.YtojgjdcciojpeaaGreat
open Go Go.PS
set_option maxRecDepth 100000
set_option maxHeartbeats 4000000
/-- A chord of a board. -/
structure Ck where
  keys : List UInt8
  k : Int
  deriving DecidableEq, Inhabited
def Ck.d (c : Ck) : D := .agg [.str c.keys, .int .u8 c.k]
/-- A board: areas and templates as they lie. -/
structure Brd where
  za : Nat
  A : List D
  zt : Nat
  T : List D
  cs : List Ck
def Brd.d (b : Brd) : D := .agg [.sl b.za b.A, .sl b.zt b.T, .sl 2 (b.cs.map Ck.d)]
theorem ck_get {l : List Ck} {i : Nat} (h : i < l.length) : (List.map Ck.d l).getD i .nilp = .agg [.str (l.getD i default).keys, .int .u8 (l.getD i default).k] := by simp [h, Ck.d]
def ckOk (l : List Ck) : Prop := l.length ≤ 100000 ∧ ∀ c ∈ l, 0 ≤ c.k ∧ c.k ≤ 255
theorem ck_ok {l : List Ck} (h : ckOk l) {i : Nat} (hi : i < l.length) : 0 ≤ (l.getD i default).k ∧ (l.getD i default).k ≤ 255 := by
  have e : l.getD i default = l[i] := by simp [hi]
  rw [e]; exact h.2 _ (List.getElem_mem hi)
def chordR (l : List Ck) (keys : List UInt8) : List (List Ch) × Int :=
  match l.find? (fun c => decide (c.keys = keys)) with
  | some c => ([[⟨c.k, 0⟩]], 0)
  | none => ([], 10)
theorem chord_drop {l : List Ck} {i : Nat} (h : i < l.length) (keys : List UInt8) : chordR (l.drop i) keys = if (l.getD i default).keys = keys then ([[⟨(l.getD i default).k, 0⟩]], 0) else chordR (l.drop (i + 1)) keys := by
  have e : l.getD i default = l[i] := by simp [h]
  rw [List.drop_eq_getElem_cons h, e]
  unfold chordR
  rw [List.find?_cons]
  by_cases q : l[i].keys = keys
  · rw [if_pos q, decide_eq_true q]
  · rw [if_neg q, decide_eq_false q]
def rD (r : List (List Ch) × Int) : D := .tup [slsD r.1, .int .i64 r.2]
theorem byteK {k : Int} (h : 0 ≤ k ∧ k ≤ 255) : typedF [UInt8.ofNat k.toNat] = [[⟨k, 0⟩]] := by
  have : ((UInt8.ofNat k.toNat).toNat : Int) = k := by
    rw [UInt8.toNat_ofNat']; omega
  show [[(⟨((UInt8.ofNat k.toNat).toNat : Int), 0⟩ : Ch)]] = _
  rw [this]
theorem key86 (b : Brd) (tp : D) (e : Ev) (hk : e.keys.length ≤ 100000) : PCall Tryz.prog 86 [b.d, tp, e.d] (rD (typedF e.keys, 0)) := by
  refine enterP tabOk Tryz.func86 11 [0, 2, 5, 6, 7] [.tmp 6, .tmp 7] rfl (r := [_, _]) rfl (h := ?_); intro E hK; simp only [go_sem]
  refine wgoF (And.intro (@Brd.d.eq_1) (@Ev.d.eq_1)) ?_
  refine wcall (typed112 e.keys hk) ?_
  refine wgo ?_
  exact wretF (@rD.eq_1)
theorem paste90 (b : Brd) (tp : D) (e : Ev) (hk : e.text.length ≤ 100000) : PCall Tryz.prog 90 [b.d, tp, e.d] (rD (typedF e.text, 0)) := by
  refine enterP tabOk Tryz.func90 11 [0, 2, 5, 6, 7] [.tmp 6, .tmp 7] rfl (r := [_, _]) rfl (h := ?_); intro E hK; simp only [go_sem]
  refine wgoF (And.intro (@Brd.d.eq_1) (@Ev.d.eq_1)) ?_
  refine wcall (typed112 e.text hk) ?_
  refine wgo ?_
  exact wretF (@rD.eq_1)
theorem chord87 (b : Brd) (tp : D) (e : Ev) (hc : ckOk b.cs) : PCall Tryz.prog 87 [b.d, tp, e.d] (rD (chordR b.cs e.keys)) := by
  obtain ⟨za, A, zt, T, cs⟩ := b
  have hl := hc.1
  dsimp only at hl hc
  refine enterP tabOk Tryz.func87 28 [0, 2, 3, 5, 6, 7, 9, 11, 12, 13, 14, 21] [.tmp 6, .tmp 7] rfl (r := [_, _]) rfl (h := ?_); intro E hK; simp only [go_sem]
  refine wgoF (And.intro (@Brd.d.eq_1) (@Ev.d.eq_1)) ?_
  refine wlp (Run.loopC (ι := { i : Nat // i ≤ cs.length ∧ chordR (cs.drop i) e.keys = chordR cs e.keys }) (U := fun i => [(13, .d (.int .i64 i.1))]) (O := fun i => []) (K := fun _ => []) (μ := fun i => cs.length - i.1) (i0 := ⟨0, by omega, rfl⟩)) ?_
  rintro ⟨i, hi, hp⟩ ih
  by_cases hlt : i < cs.length
  · have h1 : (i : Int) < cs.length := by omega
    have hget := ck_get hlt
    have hb := ck_ok hc hlt
    rw [chord_drop hlt] at hp
    by_cases q : (cs.getD i default).keys = e.keys
    · rw [if_pos q] at hp
      have ht := typed112 [UInt8.ofNat (cs.getD i default).k.toNat] (by simp)
      rw [byteK hb] at ht
      simp only [go_sem]
      refine wgoF (And.intro (@h1) (And.intro (@hget) (And.intro (@q) (And.intro (@hb.1) (@hb.2))))) ?_
      refine wcall (ht) ?_
      refine wgo ?_
      have hp2 := hp.symm
      exact wretF (And.intro (@rD.eq_1) (And.intro (@hp2) (And.intro (@slsD.eq_1) (And.intro (@slD.eq_1) (@Ch.d.eq_1)))))
    · rw [if_neg q] at hp
      have q2 : decide ((cs.getD i default).keys = e.keys) = false := decide_eq_false q
      simp only [go_sem]
      refine wgoF (And.intro (@h1) (And.intro (@hget) (@q2))) ?_
      exact wnxt (ih ⟨i + 1, by omega, hp⟩)
  · have h1 : ¬ (i : Int) < cs.length := by omega
    have hp2 : chordR cs e.keys = ([], 10) := by rw [← hp, List.drop_eq_nil_of_le (by omega)]; rfl
    simp only [go_sem]
    refine wgoF (@h1) ?_
    exact wretF (And.intro (@rD.eq_1) (And.intro (@hp2) (@slsD.eq_1)))
/-- One slot, or an error. -/
def wrapS (r : List Ch × Int) : List (List Ch) × Int := if r.2 = 0 then ([r.1], 0) else ([], r.2)
theorem pt0 {p : List Pt} (h : 0 < p.length) : (List.map Pt.d p).getD 0 .nilp = .agg [.int .i64 (p.getD 0 default).x, .int .i64 (p.getD 0 default).y] := pt_get h
theorem touch88 (b : Brd) (tz : Nat) (tp : List D) (e : Ev) (hp : 0 < e.p.length) (r : List Ch × Int) (hT : PCall Tryz.prog 113 [b.d, .sl tz tp, (e.p.getD 0 default).d] (.tup [slD r.1, .int .i64 r.2])) : PCall Tryz.prog 88 [b.d, .sl tz tp, e.d] (rD (wrapS r)) := by
  have hpl : (0 : Int) < e.p.length := by omega
  have g := pt0 hp
  obtain ⟨s, x⟩ := r
  by_cases hx : x = 0
  · subst hx
    refine enterP tabOk Tryz.func88 25 [0, 1, 2, 3, 5, 6, 7, 8, 9, 21] [.tmp 6, .tmp 7] rfl (r := [_, _]) rfl (h := ?_); intro E hK; simp only [go_sem]
    refine wgoF (And.intro (@Brd.d.eq_1) (And.intro (@Ev.d.eq_1) (And.intro (@g) (@hpl)))) ?_
    refine wcallF (hT) (And.intro (@Pt.d.eq_1) (@Brd.d.eq_1)) ?_
    refine wgoF (@slD.eq_1) ?_
    exact wretF (And.intro (@rD.eq_1) (And.intro (@wrapS.eq_1) (And.intro (@slsD.eq_1) (@slD.eq_1))))
  · have hx2 : decide (x = 0) = false := decide_eq_false hx
    have hw : wrapS (s, x) = ([], x) := if_neg hx
    refine enterP tabOk Tryz.func88 25 [0, 1, 2, 3, 5, 6, 7, 8, 9, 21] [.tmp 6, .tmp 7] rfl (r := [_, _]) rfl (h := ?_); intro E hK; simp only [go_sem]
    refine wgoF (And.intro (@Brd.d.eq_1) (And.intro (@Ev.d.eq_1) (And.intro (@g) (@hpl)))) ?_
    refine wcallF (hT) (And.intro (@Pt.d.eq_1) (@Brd.d.eq_1)) ?_
    refine wgoF (@hx2) ?_
    exact wretF (And.intro (@rD.eq_1) (And.intro (@hw) (And.intro (@slsD.eq_1) (@slD.eq_1))))
theorem drawing89 (b : Brd) (tp : D) (e : Ev) (r : List Ch × Int) (hT : PCall Tryz.prog 114 [b.d, .sl 2 (e.p.map Pt.d)] (.tup [slD r.1, .int .i64 r.2])) : PCall Tryz.prog 89 [b.d, tp, e.d] (rD (wrapS r)) := by
  obtain ⟨s, x⟩ := r
  by_cases hx : x = 0
  · subst hx
    refine enterP tabOk Tryz.func89 22 [0, 2, 3, 5, 6, 7, 8, 9, 18] [.tmp 6, .tmp 7] rfl (r := [_, _]) rfl (h := ?_); intro E hK; simp only [go_sem]
    refine wgoF (And.intro (@Brd.d.eq_1) (@Ev.d.eq_1)) ?_
    refine wcallF (hT) (@Brd.d.eq_1) ?_
    refine wgoF (@slD.eq_1) ?_
    exact wretF (And.intro (@rD.eq_1) (And.intro (@wrapS.eq_1) (And.intro (@slsD.eq_1) (@slD.eq_1))))
  · have hx2 : decide (x = 0) = false := decide_eq_false hx
    have hw : wrapS (s, x) = ([], x) := if_neg hx
    refine enterP tabOk Tryz.func89 22 [0, 2, 3, 5, 6, 7, 8, 9, 18] [.tmp 6, .tmp 7] rfl (r := [_, _]) rfl (h := ?_); intro E hK; simp only [go_sem]
    refine wgoF (And.intro (@Brd.d.eq_1) (@Ev.d.eq_1)) ?_
    refine wcallF (hT) (@Brd.d.eq_1) ?_
    refine wgoF (@hx2) ?_
    exact wretF (And.intro (@rD.eq_1) (And.intro (@hw) (And.intro (@slsD.eq_1) (@slD.eq_1))))
def mkD : D := .agg [.nilf, .fn (.func 86) [] [], .fn (.func 87) [] [], .fn (.func 88) [] [], .fn (.func 89) [] [], .fn (.func 90) [] [], .nilf, .nilf, .nilf, .nilf, .nilf, .nilf, .nilf]
theorem makers63 : PCall Tryz.prog 63 [] mkD := by
  refine enterP tabOk Tryz.func63 2 [0] [.cell 0 129] rfl (r := [_]) rfl (h := ?_); intro E hK; simp only [go_sem]
  refine wgo ?_
  exact wretF (@mkD.eq_1)
end Go.Proofs.YtojgjdcciojpeaaGreat
set_option linter.unusedSimpArgs false
set_option linter.unusedVariables false
namespace Go.Proofs.YtojgjdcciojpeaaGreat
open Go Go.PS
set_option maxRecDepth 100000
set_option maxHeartbeats 4000000
/-- What an event's slots are, where t and s are those of a touch and of a stroke. -/
def slotE (cs : List Ck) (t s : List Ch × Int) (e : Ev) : List (List Ch) × Int :=
  if validE e = false then ([], 10) else if e.kind = 1 then (typedF e.keys, 0) else if e.kind = 2 then chordR cs e.keys
  else if e.kind = 3 then wrapS t else if e.kind = 4 then wrapS s else if e.kind = 5 then (typedF e.text, 0) else ([], 10)
theorem valid_kind {e : Ev} (h : validE e = true) : 1 ≤ e.kind ∧ e.kind ≤ 12 := by
  unfold validE at h
  split at h
  · omega
  split at h
  · omega
  split at h
  · omega
  split at h
  · omega
  split at h
  · omega
  split at h
  · omega
  split at h
  · omega
  split at h
  · omega
  · cases h
theorem valid_one {e : Ev} (h : validE e = true) (h3 : e.kind = 3) : e.p.length = 1 ∧ inL e.p = true := by
  unfold validE at h
  rw [if_neg (by omega), if_neg (by omega), if_pos h3] at h
  simp only [Bool.and_eq_true, decide_eq_true_eq] at h
  exact ⟨by omega, h.1.1.1.1.2⟩
theorem valid_keys {e : Ev} (h : validE e = true) (h1 : e.kind = 1) : e.keys.length = 1 := by
  unfold validE at h
  rw [if_pos h1] at h
  simp only [Bool.and_eq_true, decide_eq_true_eq] at h
  omega
theorem valid_text {e : Ev} (h : validE e = true) (h1 : e.kind = 5) : 1 ≤ e.text.length ∧ e.text.length ≤ 20 ∧ lets e.text = true := by
  unfold validE at h
  rw [if_neg (by omega), if_neg (by omega), if_neg (by omega), if_neg (by omega), if_pos h1] at h
  simp only [Bool.and_eq_true, decide_eq_true_eq] at h
  exact ⟨by omega, by omega, h.1.1.1.1.2⟩
theorem slot19 (b : Brd) (tz : Nat) (tp : List D) (e : Ev) (hl : e.lok) (hc : ckOk b.cs) (t s : List Ch × Int)
    (hT : validE e = true → e.kind = 3 → PCall Tryz.prog 113 [b.d, .sl tz tp, (e.p.getD 0 default).d] (.tup [slD t.1, .int .i64 t.2]))
    (hS : validE e = true → e.kind = 4 → PCall Tryz.prog 114 [b.d, .sl 2 (e.p.map Pt.d)] (.tup [slD s.1, .int .i64 s.2])) :
    PCall Tryz.prog 19 [b.d, .sl tz tp, e.d] (rD (slotE b.cs t s e)) := by
  have hv := valid62 e hl
  cases hve : validE e with
  | false =>
    rw [hve] at hv
    have hr : slotE b.cs t s e = ([], 10) := by rw [slotE, if_pos hve]
    refine enterP tabOk Tryz.func19 38 [0, 1, 2, 3, 5, 6, 7, 8, 11, 27] [.tmp 6, .tmp 7] rfl (r := [_, _]) rfl (h := ?_); intro E hK; simp only [go_sem]
    refine wgoF (And.intro (@Brd.d.eq_1) (@Ev.d.eq_1)) ?_
    refine wcallF (hv) (@Ev.d.eq_1) ?_
    refine wgo ?_
    exact wretF (And.intro (@rD.eq_1) (And.intro (@hr) (@slsD.eq_1)))
  | true =>
    rw [hve] at hv
    have hkk := valid_kind hve
    have hne : ¬ validE e = false := by rw [hve]; simp
    have k86 := key86 b (.sl tz tp) e
    have k87 := chord87 b (.sl tz tp) e hc
    have k90 := paste90 b (.sl tz tp) e
    have k89 := fun h => drawing89 b (.sl tz tp) e s (hS hve h)
    have k88 := fun h => touch88 b tz tp e (by have := (valid_one hve h).1; omega) t (hT hve h)
    have q1 := valid_keys hve
    have q5 := valid_text hve
    obtain ⟨k, keys, p, text, n, l⟩ := e
    dsimp only at hkk k88 k89 q1 q5
    by_cases h1 : k = 1
    · subst h1
      have hr : slotE b.cs t s ⟨1, keys, p, text, n, l⟩ = (typedF keys, 0) := by rw [slotE, if_neg hne, if_pos rfl]
      have k86 := k86 (by have := q1 rfl; show keys.length ≤ 100000; omega)
      refine enterP tabOk Tryz.func19 38 [0, 1, 2, 3, 5, 6, 7, 8, 11, 27] [.tmp 6, .tmp 7] rfl (r := [_, _]) rfl (h := ?_); intro E hK; simp only [go_sem]
      refine wgoF (And.intro (@Brd.d.eq_1) (@Ev.d.eq_1)) ?_
      refine wcallF (hv) (@Ev.d.eq_1) ?_
      refine wgo ?_
      refine wcall (makers63) ?_
      refine wgoF (@mkD.eq_1) ?_
      refine wcallF (k86) (And.intro (@Ev.d.eq_1) (@Brd.d.eq_1)) ?_
      refine wgoF (@rD.eq_1) ?_
      exact wretF (And.intro (@rD.eq_1) (@hr))
    by_cases h2 : k = 2
    · subst h2
      have hr : slotE b.cs t s ⟨2, keys, p, text, n, l⟩ = chordR b.cs keys := by rw [slotE, if_neg hne, if_neg (by dsimp only; omega), if_pos rfl]
      refine enterP tabOk Tryz.func19 38 [0, 1, 2, 3, 5, 6, 7, 8, 11, 27] [.tmp 6, .tmp 7] rfl (r := [_, _]) rfl (h := ?_); intro E hK; simp only [go_sem]
      refine wgoF (And.intro (@Brd.d.eq_1) (@Ev.d.eq_1)) ?_
      refine wcallF (hv) (@Ev.d.eq_1) ?_
      refine wgo ?_
      refine wcall (makers63) ?_
      refine wgoF (@mkD.eq_1) ?_
      refine wcallF (k87) (And.intro (@Ev.d.eq_1) (@Brd.d.eq_1)) ?_
      refine wgoF (@rD.eq_1) ?_
      exact wretF (And.intro (@rD.eq_1) (@hr))
    by_cases h3 : k = 3
    · subst h3
      have hr : slotE b.cs t s ⟨3, keys, p, text, n, l⟩ = wrapS t := by rw [slotE, if_neg hne, if_neg (by dsimp only; omega), if_neg (by dsimp only; omega), if_pos rfl]
      have k88 := k88 rfl
      refine enterP tabOk Tryz.func19 38 [0, 1, 2, 3, 5, 6, 7, 8, 11, 27] [.tmp 6, .tmp 7] rfl (r := [_, _]) rfl (h := ?_); intro E hK; simp only [go_sem]
      refine wgoF (And.intro (@Brd.d.eq_1) (@Ev.d.eq_1)) ?_
      refine wcallF (hv) (@Ev.d.eq_1) ?_
      refine wgo ?_
      refine wcall (makers63) ?_
      refine wgoF (@mkD.eq_1) ?_
      refine wcallF (k88) (And.intro (@Ev.d.eq_1) (@Brd.d.eq_1)) ?_
      refine wgoF (@rD.eq_1) ?_
      exact wretF (And.intro (@rD.eq_1) (@hr))
    by_cases h4 : k = 4
    · subst h4
      have hr : slotE b.cs t s ⟨4, keys, p, text, n, l⟩ = wrapS s := by rw [slotE, if_neg hne, if_neg (by dsimp only; omega), if_neg (by dsimp only; omega), if_neg (by dsimp only; omega), if_pos rfl]
      have k89 := k89 rfl
      refine enterP tabOk Tryz.func19 38 [0, 1, 2, 3, 5, 6, 7, 8, 11, 27] [.tmp 6, .tmp 7] rfl (r := [_, _]) rfl (h := ?_); intro E hK; simp only [go_sem]
      refine wgoF (And.intro (@Brd.d.eq_1) (@Ev.d.eq_1)) ?_
      refine wcallF (hv) (@Ev.d.eq_1) ?_
      refine wgo ?_
      refine wcall (makers63) ?_
      refine wgoF (@mkD.eq_1) ?_
      refine wcallF (k89) (And.intro (@Ev.d.eq_1) (@Brd.d.eq_1)) ?_
      refine wgoF (@rD.eq_1) ?_
      exact wretF (And.intro (@rD.eq_1) (@hr))
    by_cases h5 : k = 5
    · subst h5
      have hr : slotE b.cs t s ⟨5, keys, p, text, n, l⟩ = (typedF text, 0) := by rw [slotE, if_neg hne, if_neg (by dsimp only; omega), if_neg (by dsimp only; omega), if_neg (by dsimp only; omega), if_neg (by dsimp only; omega), if_pos rfl]
      have k90 := k90 (by have := (q5 rfl).2.1; show text.length ≤ 100000; omega)
      refine enterP tabOk Tryz.func19 38 [0, 1, 2, 3, 5, 6, 7, 8, 11, 27] [.tmp 6, .tmp 7] rfl (r := [_, _]) rfl (h := ?_); intro E hK; simp only [go_sem]
      refine wgoF (And.intro (@Brd.d.eq_1) (@Ev.d.eq_1)) ?_
      refine wcallF (hv) (@Ev.d.eq_1) ?_
      refine wgo ?_
      refine wcall (makers63) ?_
      refine wgoF (@mkD.eq_1) ?_
      refine wcallF (k90) (And.intro (@Ev.d.eq_1) (@Brd.d.eq_1)) ?_
      refine wgoF (@rD.eq_1) ?_
      exact wretF (And.intro (@rD.eq_1) (@hr))
    · have hr : slotE b.cs t s ⟨k, keys, p, text, n, l⟩ = ([], 10) := by rw [slotE, if_neg hne, if_neg h1, if_neg h2, if_neg h3, if_neg h4, if_neg h5]
      have n0 : ¬ k < 0 := by omega
      have n1 : ¬ 13 ≤ k := by omega
      have hg : (List.map PV.d [D.nilf, .fn (.func 86) [] [], .fn (.func 87) [] [], .fn (.func 88) [] [], .fn (.func 89) [] [], .fn (.func 90) [] [], .nilf, .nilf, .nilf, .nilf, .nilf, .nilf, .nilf]).getD k.toNat .any = .d .nilf := by
        have : k = 6 ∨ k = 7 ∨ k = 8 ∨ k = 9 ∨ k = 10 ∨ k = 11 ∨ k = 12 := by omega
        rcases this with rfl | rfl | rfl | rfl | rfl | rfl | rfl <;> rfl
      have : k = 6 ∨ k = 7 ∨ k = 8 ∨ k = 9 ∨ k = 10 ∨ k = 11 ∨ k = 12 := by omega
      clear k86 k87 k90 k88 k89 q1 q5 hg
      rcases this with rfl | rfl | rfl | rfl | rfl | rfl | rfl
      all_goals
        refine enterP tabOk Tryz.func19 38 [0, 1, 2, 3, 5, 6, 7, 8, 11, 27] [.tmp 6, .tmp 7] rfl (r := [_, _]) rfl (h := ?_); intro E hK; simp only [go_sem]
        refine wgoF (And.intro (@Brd.d.eq_1) (@Ev.d.eq_1)) ?_
        refine wcallF (hv) (@Ev.d.eq_1) ?_
        refine wgo ?_
        refine wcall (makers63) ?_
        refine wgoF (@mkD.eq_1) ?_
        exact wretF (And.intro (@rD.eq_1) (And.intro (@hr) (@slsD.eq_1)))
end Go.Proofs.YtojgjdcciojpeaaGreat
set_option linter.unusedSimpArgs false
set_option linter.unusedVariables false
namespace Go.Proofs.YtojgjdcciojpeaaGreat
open Go Go.PS
set_option maxRecDepth 100000
set_option maxHeartbeats 4000000
/-- The slots of events one after the other: the slots, the number, the error. -/
def slotsF (F : Ev → List (List Ch) × Int) : List Ev → Nat → List (List Ch) → List (List Ch) × Int × Int
  | [], i, acc => (acc, i, 0)
  | e :: r, i, acc => if (F e).2 ≠ 0 then ([], i, (F e).2) else if 40 < acc.length + (F e).1.length then ([], i, 2) else slotsF F r (i + 1) (acc ++ (F e).1)
theorem slots_drop (F : Ev → List (List Ch) × Int) {l : List Ev} {i : Nat} (h : i < l.length) (acc : List (List Ch)) : slotsF F (l.drop i) i acc = if (F (l.getD i default)).2 ≠ 0 then ([], (i : Int), (F (l.getD i default)).2) else if 40 < acc.length + (F (l.getD i default)).1.length then ([], (i : Int), 2) else slotsF F (l.drop (i + 1)) (i + 1) (acc ++ (F (l.getD i default)).1) := by
  have e : l.getD i default = l[i] := by simp [h]
  rw [List.drop_eq_getElem_cons h, slotsF, e]
theorem ev_get {l : List Ev} {i : Nat} (h : i < l.length) : (List.map Ev.d l).getD i .nilp = .agg [.int .i64 (l.getD i default).kind, .str (l.getD i default).keys, .sl 2 ((l.getD i default).p.map Pt.d), .str (l.getD i default).text, .int .i64 (l.getD i default).n, .int .i64 (l.getD i default).l] := by simp [h, Ev.d]
def r3D (r : List (List Ch) × Int × Int) : D := .tup [slsD r.1, .int .i64 r.2.1, .int .i64 r.2.2]
def r3A (r : List (List Ch) × Int × Int) : D := .agg [slsD r.1, .int .i64 r.2.1, .int .i64 r.2.2]
theorem getD_memE {l : List Ev} {i : Nat} (h : i < l.length) : l.getD i default ∈ l := by
  have e : l.getD i default = l[i] := by simp [h]
  rw [e]; exact List.getElem_mem h
theorem mlen (a : List (List Ch)) : (List.map slD a).length = a.length := List.length_map ..
theorem mapp (a b : List (List Ch)) : List.map slD a ++ List.map slD b = List.map slD (a ++ b) := List.map_append.symm
theorem slots58 (F : Ev → List (List Ch) × Int) (b : Brd) (tz : Nat) (tp : List D) (l : List Ev) (hl : l.length ≤ 100000) (hF : ∀ e ∈ l, PCall Tryz.prog 19 [b.d, .sl tz tp, e.d] (rD (F e))) (hb : ∀ e ∈ l, (F e).1.length ≤ 100000) :
    PCall Tryz.prog 58 [b.d, .sl tz tp, .sl 6 (l.map Ev.d)] (r3D (slotsF F l 0 [])) := by
  refine enterP tabOk Tryz.func58 46 [0, 1, 2, 3, 6, 7, 8, 9, 10, 11, 12, 14, 15, 16, 29, 37] [.tmp 6, .tmp 7, .tmp 8] rfl (r := [_, _, _]) rfl (h := ?_); intro E hK; simp only [go_sem]
  refine wgoF (@Brd.d.eq_1) ?_
  (apply Run.full 9 1009 64 1; (case hi => simp only [go_sem]; rfl); (case ht => simp only [go_sem]); (case hmn => first | exact Or.inl (by decide) | exact Or.inr rfl); (case hs => simp only [go_sem]; rfl))
  refine wlp (Run.loopC (ι := { x : Nat × List (List Ch) // x.1 ≤ l.length ∧ x.2.length ≤ 40 ∧ slotsF F (l.drop x.1) x.1 x.2 = slotsF F l 0 [] }) (U := fun x => [(9, .own 1 (x.1.2.map slD) (.tok 1009)), (15, .d (.int .i64 x.1.1))]) (O := fun i => []) (K := fun _ => [(1009, .live 64 1)]) (μ := fun x => l.length - x.1.1) (i0 := ⟨(0, []), by omega, by simp, rfl⟩)) ?_
  rintro ⟨⟨i, acc⟩, hi, ha, hp⟩ ih
  dsimp only at hi ha hp
  by_cases hlt : i < l.length
  · have h1 : (i : Int) < l.length := by omega
    have hget := ev_get hlt
    have hc := hF _ (getD_memE hlt)
    have hbb := hb _ (getD_memE hlt)
    rw [slots_drop F hlt] at hp
    generalize F (l.getD i default) = r at hc hbb hp
    obtain ⟨s, x⟩ := r
    dsimp only at hbb hp
    by_cases hx : x = 0
    · subst hx
      rw [if_neg (by simp)] at hp
      by_cases hbig : 40 < acc.length + s.length
      · rw [if_pos hbig] at hp
        have hp2 := hp.symm
        have c1 : (40 : Int) < (acc.length : Int) + (s.length : Int) := by omega
        have e1 := mlen acc
        have e2 := mlen s
        simp only [go_sem]
        refine wgoF (And.intro (@h1) (@hget)) ?_
        refine wcallF (hc) (And.intro (@Ev.d.eq_1) (@Brd.d.eq_1)) ?_
        refine wgoF (And.intro (@rD.eq_1) (And.intro (@slsD.eq_1) (And.intro (@e1) (And.intro (@e2) (@c1))))) ?_
        exact wretF (And.intro (@r3D.eq_1) (And.intro (@hp2) (@slsD.eq_1)))
      · rw [if_neg hbig] at hp
        have c1 : ¬ (40 : Int) < (acc.length : Int) + (s.length : Int) := by omega
        have e1 := mlen acc
        have e2 := mlen s
        have e3 := mapp acc s
        simp only [go_sem]
        refine wgoF (And.intro (@h1) (@hget)) ?_
        refine wcallF (hc) (And.intro (@Ev.d.eq_1) (@Brd.d.eq_1)) ?_
        refine wgoF (And.intro (@rD.eq_1) (And.intro (@slsD.eq_1) (And.intro (@e1) (And.intro (@e2) (@c1))))) ?_
        (apply Run.retok 41 1009; (case hk => simp only [go_sem]; rfl); (case ht => simp only [go_sem]; rfl); (case ht' => simp only [go_sem]); (case hs => simp only [go_sem]; rfl))
        exact wnxt (ih ⟨(i + 1, acc ++ s), by omega, by simp; omega, hp⟩)
    · have hx2 : decide (x = 0) = false := decide_eq_false hx
      rw [if_pos hx] at hp
      have hp2 := hp.symm
      simp only [go_sem]
      refine wgoF (And.intro (@h1) (@hget)) ?_
      refine wcallF (hc) (And.intro (@Ev.d.eq_1) (@Brd.d.eq_1)) ?_
      refine wgoF (And.intro (@rD.eq_1) (And.intro (@slsD.eq_1) (@hx2))) ?_
      exact wretF (And.intro (@r3D.eq_1) (And.intro (@hp2) (@slsD.eq_1)))
  · have h1 : ¬ (i : Int) < l.length := by omega
    obtain rfl : i = l.length := by omega
    have hp2 : slotsF F l 0 [] = (acc, (l.length : Int), 0) := by rw [← hp, List.drop_length]; rfl
    simp only [go_sem]
    refine wgoF (@h1) ?_
    exact wretF (And.intro (@r3D.eq_1) (And.intro (@hp2) (@slsD.eq_1)))
theorem slots26 (F : Ev → List (List Ch) × Int) (b : Brd) (tz : Nat) (tp : List D) (l : List Ev) (hl : l.length ≤ 100000) (hF : ∀ e ∈ l, PCall Tryz.prog 19 [b.d, .sl tz tp, e.d] (rD (F e))) (hb : ∀ e ∈ l, (F e).1.length ≤ 100000) :
    PCall Tryz.prog 26 [b.d, .sl tz tp, .sl 6 (l.map Ev.d)] (r3A (slotsF F l 0 [])) := by
  have hs := slots58 F b tz tp l hl hF hb
  generalize slotsF F l 0 [] = r at hs
  refine enterP tabOk Tryz.func26 22 [0, 1, 2, 3, 6, 7, 8, 9] [.cell 6 50] rfl (r := [_]) rfl (h := ?_); intro E hK; simp only [go_sem]
  refine wgoF (@Brd.d.eq_1) ?_
  refine wcallF (hs) (@Brd.d.eq_1) ?_
  refine wgoF (And.intro (@r3D.eq_1) (@slsD.eq_1)) ?_
  exact wretF (And.intro (@r3A.eq_1) (@slsD.eq_1))
def sok (l : List (List Ch)) : Prop := l.length ≤ 100000 ∧ ∀ s ∈ l, s.length ≤ 100000
theorem same25 (a b : List (List Ch) × Int × Int) (ha : sok a.1) (hb : sok b.1) : PCall Tryz.prog 25 [r3A a, r3A b] (.bool (decide (a = b))) := by
  obtain ⟨a1, a2, a3⟩ := a
  obtain ⟨b1, b2, b3⟩ := b
  have hs := same21 a1 b1 ha.1 hb.1 ha.2 hb.2
  have hr : decide ((a1, a2, a3) = (b1, b2, b3)) = ((decide (a1 = b1) && decide (a2 = b2)) && decide (a3 = b3)) := by
    simp only [Prod.mk.injEq, Bool.decide_and, Bool.and_assoc]
  rw [hr]
  refine enterP tabOk Tryz.func25 24 [0, 1, 2, 3, 4] [.tmp 4] rfl (r := [_]) rfl (h := ?_); intro E hK; simp only [go_sem]
  refine wgoF (And.intro (@r3A.eq_1) (@slsD.eq_1)) ?_
  refine wcallF (hs) (@slsD.eq_1) ?_
  refine wgo ?_
  exact wret
end Go.Proofs.YtojgjdcciojpeaaGreat
set_option linter.unusedSimpArgs false
set_option linter.unusedVariables false
namespace Go.Proofs.YtojgjdcciojpeaaGreat
open Go Go.PS
set_option maxRecDepth 100000
set_option maxHeartbeats 4000000
/-- The cost of the first choice with a letter. -/
def findC (s : List Ch) (k : Int) : Option Int := (s.find? (fun c => decide (c.k = k))).map (·.c)
def choR (o : Option Int) : D := .tup [.int .i64 (o.getD 0), .bool o.isSome]
theorem find_drop {l : List Ch} {i : Nat} (h : i < l.length) (k : Int) : findC (l.drop i) k = if (l.getD i default).k = k then some (l.getD i default).c else findC (l.drop (i + 1)) k := by
  have e : l.getD i default = l[i] := by simp [h]
  rw [List.drop_eq_getElem_cons h, e]
  unfold findC
  rw [List.find?_cons]
  by_cases q : l[i].k = k
  · rw [if_pos q, decide_eq_true q]; rfl
  · rw [if_neg q, decide_eq_false q]
theorem choice65 (s : List Ch) (k : Int) (hl : s.length ≤ 100000) : PCall Tryz.prog 65 [slD s, .int .u8 k] (choR (findC s k)) := by
  refine enterP tabOk Tryz.func65 21 [0, 1, 4, 5, 7, 8, 9, 10, 11, 17] [.tmp 4, .tmp 5] rfl (r := [_, _]) rfl (h := ?_); intro E hK; simp only [go_sem]
  refine wgoF (@slD.eq_1) ?_
  refine wlp (Run.loopC (ι := { i : Nat // i ≤ s.length ∧ findC (s.drop i) k = findC s k }) (U := fun i => [(10, .d (.int .i64 i.1))]) (O := fun i => []) (K := fun _ => []) (μ := fun i => s.length - i.1) (i0 := ⟨0, by omega, rfl⟩)) ?_
  rintro ⟨i, hi, hp⟩ ih
  by_cases hlt : i < s.length
  · have h1 : (i : Int) < s.length := by omega
    have hget := ch_get hlt
    rw [find_drop hlt] at hp
    by_cases q : (s.getD i default).k = k
    · rw [if_pos q] at hp
      have hp2 := hp.symm
      have q2 : decide ((s.getD i default).k = k) = true := decide_eq_true q
      simp only [go_sem]
      refine wgoF (And.intro (@h1) (And.intro (@hget) (@q2))) ?_
      exact wretF (And.intro (@choR.eq_1) (@hp2))
    · rw [if_neg q] at hp
      have q2 : decide ((s.getD i default).k = k) = false := decide_eq_false q
      simp only [go_sem]
      refine wgoF (And.intro (@h1) (And.intro (@hget) (@q2))) ?_
      exact wnxt (ih ⟨i + 1, by omega, hp⟩)
  · have h1 : ¬ (i : Int) < s.length := by omega
    have hp2 : findC s k = none := by rw [← hp, List.drop_eq_nil_of_le (by omega)]; rfl
    simp only [go_sem]
    refine wgoF (@h1) ?_
    exact wretF (And.intro (@choR.eq_1) (@hp2))
def cheapL (l : List (List Ch)) : Prop := ∀ s ∈ l, s.length ≤ 100000 ∧ ∀ c ∈ s, 0 ≤ c.c ∧ c.c ≤ 1000
theorem find_bd {s : List Ch} (h : ∀ c ∈ s, 0 ≤ c.c ∧ c.c ≤ 1000) {k v : Int} (hf : findC s k = some v) : 0 ≤ v ∧ v ≤ 1000 := by
  unfold findC at hf
  obtain ⟨c, hc, rfl⟩ := Option.map_eq_some_iff.1 hf
  exact h c (List.mem_of_find?_eq_some hc)
/-- The sum of the first k letters' costs. -/
def costTo (l : List (List Ch)) (inp : List UInt8) : Nat → Option Int
  | 0 => some 0
  | k + 1 => match costTo l inp k, findC (l.getD k []) ((inp.getD k 0).toNat : Int) with
    | some a, some b => some (a + b)
    | _, _ => none
def costF (l : List (List Ch)) (inp : List UInt8) : Option Int := if inp.length = l.length then costTo l inp l.length else none
theorem cost_bd {l : List (List Ch)} (h : cheapL l) (inp : List UInt8) : ∀ (k : Nat) (v : Int), k ≤ l.length → costTo l inp k = some v → 0 ≤ v ∧ v ≤ 1000 * k
  | 0, v, _, hv => by simp [costTo] at hv; omega
  | k + 1, v, hk, hv => by
    unfold costTo at hv
    cases h1 : costTo l inp k with
    | none => rw [h1] at hv; simp at hv
    | some a =>
      rw [h1] at hv
      cases h2 : findC (l.getD k []) ((inp.getD k 0).toNat : Int) with
      | none => rw [h2] at hv; simp at hv
      | some b =>
        rw [h2] at hv
        simp only [Option.some.injEq] at hv
        have e : l.getD k [] = l[k] := by simp [show k < l.length by omega]
        rw [e] at h2
        have b1 := cost_bd h inp k a (by omega) h1
        have b2 := find_bd (h _ (List.getElem_mem (show k < l.length by omega))).2 h2
        push_cast
        omega
theorem cost_none {l : List (List Ch)} {inp : List UInt8} {k : Nat} (h : costTo l inp k = none) : ∀ n, k ≤ n → costTo l inp n = none := by
  intro n hn
  induction n with
  | zero =>
    obtain rfl : k = 0 := by omega
    exact h
  | succ n ih =>
    by_cases e : k = n + 1
    · subst e; exact h
    · rw [costTo, ih (by omega)]
theorem cost23 (l : List (List Ch)) (inp : List UInt8) (hl : l.length ≤ 100000) (hb : cheapL l) : PCall Tryz.prog 23 [slsD l, .str inp] (choR (costF l inp)) := by
  have e1 := mlen l
  by_cases hne : inp.length = l.length
  · have h0 : decide ((inp.length : Int) = (l.length : Int)) = true := decide_eq_true (by omega)
    have hF : costF l inp = costTo l inp l.length := if_pos hne
    refine enterP tabOk Tryz.func23 38 [0, 1, 4, 5, 6, 7, 8, 9, 14, 16, 17, 18, 32] [.tmp 4, .tmp 5] rfl (r := [_, _]) rfl (h := ?_); intro E hK; simp only [go_sem]
    refine wgoF (And.intro (@slsD.eq_1) (And.intro (@h0) (@e1))) ?_
    refine wlp (Run.loopC (ι := { x : Nat × Int // x.1 ≤ l.length ∧ costTo l inp x.1 = some x.2 }) (U := fun x => [(6, .d (.int .i64 x.1.2)), (17, .d (.int .i64 x.1.1))]) (O := fun i => []) (K := fun _ => []) (μ := fun x => l.length - x.1.1) (i0 := ⟨(0, 0), by omega, rfl⟩)) ?_
    rintro ⟨⟨i, v⟩, hi, hp⟩ ih
    dsimp only at hi hp
    by_cases hlt : i < l.length
    · have h1 : (i : Int) < l.length := by omega
      have h1b : (i : Int) < inp.length := by omega
      have hget := sl_get hlt
      have e : l.getD i [] = l[i] := by simp [hlt]
      have hm := hb _ (List.getElem_mem hlt)
      rw [← e] at hm
      have hc := choice65 (l.getD i []) ((inp.getD i 0).toNat : Int) hm.1
      have hbd := cost_bd hb inp i v hi hp
      cases hf : findC (l.getD i []) ((inp.getD i 0).toNat : Int) with
      | none =>
        have hs : costTo l inp (i + 1) = none := by rw [costTo, hp, hf]
        have hr : costF l inp = none := by rw [hF]; exact cost_none hs _ hlt
        rw [hf] at hc
        simp only [go_sem]
        refine wgoF (And.intro (@h1) (And.intro (@h1b) (@hget))) ?_
        refine wcallF (hc) (@slD.eq_1) ?_
        refine wgoF (@choR.eq_1) ?_
        exact wretF (And.intro (@choR.eq_1) (@hr))
      | some b =>
        have hs : costTo l inp (i + 1) = some (v + b) := by rw [costTo, hp, hf]
        have hbb := find_bd hm.2 hf
        rw [hf] at hc
        simp only [go_sem]
        refine wgoF (And.intro (@h1) (And.intro (@h1b) (@hget))) ?_
        refine wcallF (hc) (@slD.eq_1) ?_
        refine wgoF (@choR.eq_1) ?_
        exact wnxt (ih ⟨(i + 1, v + b), by omega, hs⟩)
    · have h1 : ¬ (i : Int) < l.length := by omega
      obtain rfl : i = l.length := by omega
      have hr : costF l inp = some v := by rw [hF, hp]
      simp only [go_sem]
      refine wgoF (@h1) ?_
      exact wretF (And.intro (@choR.eq_1) (@hr))
  · have h0 : decide ((inp.length : Int) = (l.length : Int)) = false := decide_eq_false (by omega)
    have hF : costF l inp = none := if_neg hne
    refine enterP tabOk Tryz.func23 38 [0, 1, 4, 5, 6, 7, 8, 9, 14, 16, 17, 18, 32] [.tmp 4, .tmp 5] rfl (r := [_, _]) rfl (h := ?_); intro E hK; simp only [go_sem]
    refine wgoF (And.intro (@slsD.eq_1) (And.intro (@h0) (@e1))) ?_
    exact wretF (And.intro (@choR.eq_1) (@hF))
def exSl : List (List Ch) := [[⟨97, 3⟩, ⟨98, 0⟩], [⟨99, 2⟩]]
theorem costs60 (inp : List UInt8) (w : Int) (hw : (costF exSl inp = none ∧ w = -1) ∨ (costF exSl inp = some w ∧ 0 ≤ w)) : PCall Tryz.prog 60 [.str inp, .int .i64 w] (.bool true) := by
  have hc := cost23 exSl inp (by simp [exSl]) (by intro s hs; simp [exSl] at hs; rcases hs with rfl | rfl <;> simp)
  rcases hw with ⟨h, rfl⟩ | ⟨h, h0⟩
  · rw [h] at hc
    refine enterP tabOk Tryz.func60 28 [0, 1, 4, 5, 6] [.tmp 4] rfl (r := [_]) rfl (h := ?_); intro E hK; simp only [go_sem]
    refine wgo ?_
    refine wcallF (hc) (And.intro (@slsD.eq_1) (And.intro (@exSl.eq_1) (And.intro (@slD.eq_1) (@Ch.d.eq_1)))) ?_
    have h1 : max (-1 : Int) 0 = 0 := by decide
    refine wgoF (And.intro (@choR.eq_1) (@h1)) ?_
    exact wret
  · rw [h] at hc
    have h1 : max w 0 = w := by omega
    have h2 : decide (w = w) = true := by simp
    refine enterP tabOk Tryz.func60 28 [0, 1, 4, 5, 6] [.tmp 4] rfl (r := [_]) rfl (h := ?_); intro E hK; simp only [go_sem]
    refine wgo ?_
    refine wcallF (hc) (And.intro (@slsD.eq_1) (And.intro (@exSl.eq_1) (And.intro (@slD.eq_1) (@Ch.d.eq_1)))) ?_
    refine wgoF (And.intro (@choR.eq_1) (And.intro (@h0) (And.intro (@h1) (@h2)))) ?_
    exact wret
end Go.Proofs.YtojgjdcciojpeaaGreat
set_option linter.unusedSimpArgs false
set_option linter.unusedVariables false
namespace Go.Proofs.YtojgjdcciojpeaaGreat
open Go Go.PS
set_option maxRecDepth 100000
set_option maxHeartbeats 4000000
def sideB (v : Int) : Bool := decide (0 ≤ v) && decide (v ≤ 1000)
theorem coord123 (l : List Int) (hl : l.length ≤ 100000) : PCall Tryz.prog 123 [.sl 1 (l.map iD)] (.bool (l.all sideB)) := by
  refine enterP tabOk Tryz.func123 18 [0, 2, 4, 5, 6, 7, 8, 16] [.tmp 2] rfl (r := [_]) rfl (h := ?_); intro E hK; simp only [go_sem]
  refine wgo ?_
  refine wlp (Run.loopC (ι := { i : Nat // i ≤ l.length ∧ (l.take i).all sideB = true }) (U := fun i => [(7, .d (.int .i64 i.1))]) (O := fun i => []) (K := fun _ => []) (μ := fun i => l.length - i.1) (i0 := ⟨0, by omega, by simp⟩)) ?_
  rintro ⟨i, hi, hp⟩ ih
  by_cases hlt : i < l.length
  · have h1 : (i : Int) < l.length := by omega
    have hget : (List.map iD l).getD i .nilp = .int .i64 (l.getD i 0) := by simp [hlt, iD]
    have e : l.getD i 0 = l[i] := by simp [hlt]
    cases hb : sideB (l.getD i 0) with
    | true =>
      have hb1 := hb
      simp only [sideB, Bool.and_eq_true, decide_eq_true_eq] at hb1
      have c1 : ¬ l.getD i 0 < 0 := by omega
      have c2 : ¬ 1000 < l.getD i 0 := by omega
      simp only [go_sem]
      refine wgoF (And.intro (@h1) (And.intro (@hget) (And.intro (@c1) (@c2)))) ?_
      exact wnxt (ih ⟨i + 1, by omega, by rw [List.take_succ_eq_append_getElem hlt, List.all_append, hp, ← e]; simp only [List.all_cons, List.all_nil, hb]; rfl⟩)
    | false =>
      have c1 : (decide (l.getD i 0 < 0) || decide (1000 < l.getD i 0)) = true := by
        have : ¬ sideB (l.getD i 0) = true := by rw [hb]; simp
        simp only [sideB, Bool.and_eq_true, decide_eq_true_eq] at this
        simp only [Bool.or_eq_true, decide_eq_true_eq]; omega
      have hf : l.all sideB = false := by
        rw [Bool.eq_false_iff]; intro ht
        have := List.all_eq_true.1 ht l[i] (List.getElem_mem hlt)
        rw [← e, hb] at this; cases this
      simp only [go_sem]
      refine wgoF (And.intro (@h1) (And.intro (@hget) (@c1))) ?_
      exact wretF (@hf)
  · have h1 : ¬ (i : Int) < l.length := by omega
    rw [List.take_of_length_le (by omega)] at hp
    simp only [go_sem]
    refine wgoF (@h1) ?_
    exact wretF (@hp)
/-- A touch where there is no area. -/
theorem touchNone (b : Brd) (hA : b.A = []) (tz : Nat) (tp : List D) (p : Pt) (hp : p.inB = true) : PCall Tryz.prog 113 [b.d, .sl tz tp, p.d] (.tup [slD [], .int .i64 210]) := by
  obtain ⟨za, A, zt, T, cs⟩ := b
  dsimp only at hA
  subst hA
  have hc := coord123 [p.x, p.y] (by simp)
  have hr : [p.x, p.y].all sideB = true := by
    simp only [Pt.inB, Bool.and_eq_true, decide_eq_true_eq] at hp
    simp [sideB]; omega
  rw [hr] at hc
  refine enterP tabOk Tryz.func113 63 [0, 1, 2, 3, 5, 6, 7, 8, 10, 11, 12, 13, 20, 22, 23, 24, 25, 36, 47, 50] [.tmp 6, .tmp 7] rfl (r := [_, _]) rfl (h := ?_); intro E hK; simp only [go_sem]
  refine wgoF (And.intro (@Brd.d.eq_1) (@Pt.d.eq_1)) ?_
  refine wcallF (hc) (@iD.eq_1) ?_
  refine wgo ?_
  refine run_loop ?_
  refine wgo ?_
  exact wretF (@slD.eq_1)
def bd0 : Brd := ⟨0, [], 0, [], [⟨[97, 98], 99⟩]⟩
theorem ck0 : ckOk bd0.cs := ⟨by simp [bd0], by intro c hc; simp [bd0] at hc; subst hc; simp⟩
/-- An event of a list of examples: no stroke, touches where there is no area. -/
theorem slotEx (b : Brd) (hA : b.A = []) (hc : ckOk b.cs) (tz : Nat) (tp : List D) (e : Ev) (hl : e.lok) (h4 : e.kind ≠ 4) : PCall Tryz.prog 19 [b.d, .sl tz tp, e.d] (rD (slotE b.cs ([], 210) ([], 0) e)) :=
  slot19 b tz tp e hl hc ([], 210) ([], 0) (fun hv h3 => by
    obtain ⟨h1, h2⟩ := valid_one hv h3
    refine touchNone b hA tz tp _ ?_
    have : e.p.getD 0 default = e.p[0] := by simp [h1]
    rw [this]
    exact List.all_eq_true.1 h2 _ (List.getElem_mem _)) (fun _ h => absurd h h4)
theorem lok_small (k : Int) (keys : List UInt8) (p : List Pt) (text : List UInt8) (n l : Int) (h1 : keys.length ≤ 100) (h2 : p.length ≤ 100) (h3 : text.length ≤ 100) : (⟨k, keys, p, text, n, l⟩ : Ev).lok := ⟨by show keys.length ≤ _; omega, by show p.length ≤ _; omega, by show text.length ≤ _; omega⟩
def E1 : Ev := ⟨1, [97], [], [], 0, 0⟩
def E2 : Ev := ⟨2, [97, 98], [], [], 0, 0⟩
def E3 : Ev := ⟨5, [], [], [98, 97], 0, 0⟩
def E4 : Ev := ⟨2, [97, 99], [], [], 0, 0⟩
def E5 : Ev := ⟨6, [], [], [], 0, 0⟩
def E6 : Ev := ⟨3, [], [⟨0, 0⟩], [], 0, 0⟩
theorem sanity15 : PCall Tryz.prog 15 [] (.bool true) := by
  have k (e : Ev) (hl : e.lok) (h4 : e.kind ≠ 4) := slotEx bd0 rfl ck0 0 [] e hl h4
  have s1 := k E1 (lok_small _ _ _ _ _ _ (by decide) (by decide) (by decide)) (by decide)
  have s2 := k E2 (lok_small _ _ _ _ _ _ (by decide) (by decide) (by decide)) (by decide)
  have s3 := k E3 (lok_small _ _ _ _ _ _ (by decide) (by decide) (by decide)) (by decide)
  have s4 := k E4 (lok_small _ _ _ _ _ _ (by decide) (by decide) (by decide)) (by decide)
  have s5 := k E5 (lok_small _ _ _ _ _ _ (by decide) (by decide) (by decide)) (by decide)
  have s6 := k E6 (lok_small _ _ _ _ _ _ (by decide) (by decide) (by decide)) (by decide)
  have r1 : slotE bd0.cs ([], 210) ([], 0) E1 = ([[⟨97, 0⟩]], 0) := by decide
  have r2 : slotE bd0.cs ([], 210) ([], 0) E2 = ([[⟨99, 0⟩]], 0) := by decide
  have r3 : slotE bd0.cs ([], 210) ([], 0) E3 = ([[⟨98, 0⟩], [⟨97, 0⟩]], 0) := by decide
  have r4 : slotE bd0.cs ([], 210) ([], 0) E4 = ([], 10) := by decide
  have r5 : slotE bd0.cs ([], 210) ([], 0) E5 = ([], 10) := by decide
  have r6 : slotE bd0.cs ([], 210) ([], 0) E6 = ([], 210) := by decide
  have hS := slots26 (slotE bd0.cs ([], 210) ([], 0)) bd0 0 [] [E1, E5] (by simp) (by intro e he; simp at he; rcases he with rfl | rfl <;> assumption) (by intro e he; simp at he; rcases he with rfl | rfl <;> (first | (rw [r1]; decide) | (rw [r5]; decide)))
  have rS : slotsF (slotE bd0.cs ([], 210) ([], 0)) [E1, E5] 0 [] = ([], 1, 10) := by decide
  rw [rS] at hS
  rw [r1] at s1; rw [r2] at s2; rw [r3] at s3; rw [r4] at s4; rw [r5] at s5; rw [r6] at s6
  have t1 := typed59 [97] (by simp)
  have t2 := typed59 [99] (by simp)
  have t3 := typed59 [98, 97] (by simp)
  have m (a : List (List Ch)) (h : sok a) := same21 a a h.1 h.1 h.2 h.2
  have sk (a : List (List Ch)) (h : (decide (a.length ≤ 100000) && a.all (fun s => decide (s.length ≤ 100000))) = true) : sok a := by
    simp only [Bool.and_eq_true, decide_eq_true_eq, List.all_eq_true] at h; exact h
  have u1 := m [[⟨97, 0⟩]] (sk _ (by decide))
  have u2 := m [[⟨99, 0⟩]] (sk _ (by decide))
  have u3 := m [[⟨98, 0⟩], [⟨97, 0⟩]] (sk _ (by decide))
  have u4 := same25 ([], 1, 10) ([], 1, 10) (sk _ (by decide)) (sk _ (by decide))
  rw [decide_eq_true rfl] at u1 u2 u3 u4
  have v1 := costs60 [97, 99] 5 (.inr (by decide))
  have v2 := costs60 [98, 99] 2 (.inr (by decide))
  have v3 := costs60 [99, 99] (-1) (.inl (by decide))
  have v4 := costs60 [97] (-1) (.inl (by decide))
  refine enterP tabOk Tryz.func15 121 [0, 1, 2, 3, 4, 5, 6, 7, 8, 9, 11, 13, 15, 16, 17] [.tmp 0] rfl (r := [_]) rfl (h := ?_); intro E hK; simp only [go_sem]
  refine wgo ?_
  refine wcallF (s1) (And.intro (@Brd.d.eq_1) (And.intro (@bd0.eq_1) (And.intro (@E1.eq_1) (And.intro (@Ev.d.eq_1) (@Ck.d.eq_1))))) ?_
  refine wgoF (@rD.eq_1) ?_
  refine wcallF (s2) (And.intro (@Brd.d.eq_1) (And.intro (@bd0.eq_1) (And.intro (@E2.eq_1) (And.intro (@Ev.d.eq_1) (@Ck.d.eq_1))))) ?_
  refine wgoF (@rD.eq_1) ?_
  refine wcallF (s3) (And.intro (@Brd.d.eq_1) (And.intro (@bd0.eq_1) (And.intro (@E3.eq_1) (And.intro (@Ev.d.eq_1) (@Ck.d.eq_1))))) ?_
  refine wgoF (@rD.eq_1) ?_
  refine wcallF (s4) (And.intro (@Brd.d.eq_1) (And.intro (@bd0.eq_1) (And.intro (@E4.eq_1) (And.intro (@Ev.d.eq_1) (@Ck.d.eq_1))))) ?_
  refine wgoF (@rD.eq_1) ?_
  refine wcallF (s5) (And.intro (@Brd.d.eq_1) (And.intro (@bd0.eq_1) (And.intro (@E5.eq_1) (And.intro (@Ev.d.eq_1) (@Ck.d.eq_1))))) ?_
  refine wgoF (@rD.eq_1) ?_
  refine wcallF (s6) (And.intro (@Brd.d.eq_1) (And.intro (@bd0.eq_1) (And.intro (@E6.eq_1) (And.intro (@Ev.d.eq_1) (And.intro (@Ck.d.eq_1) (@Pt.d.eq_1)))))) ?_
  refine wgoF (@rD.eq_1) ?_
  refine wcall (t1) ?_
  refine wgo ?_
  refine wcallF (u1) (And.intro (@slsD.eq_1) (@slD.eq_1)) ?_
  refine wgo ?_
  refine wcall (t2) ?_
  refine wgo ?_
  refine wcallF (u2) (And.intro (@slsD.eq_1) (@slD.eq_1)) ?_
  refine wgo ?_
  refine wcall (t3) ?_
  refine wgo ?_
  refine wcallF (u3) (And.intro (@slsD.eq_1) (@slD.eq_1)) ?_
  refine wgo ?_
  refine wcallF (hS) (And.intro (@Brd.d.eq_1) (And.intro (@bd0.eq_1) (And.intro (@E1.eq_1) (And.intro (@E5.eq_1) (And.intro (@Ev.d.eq_1) (@Ck.d.eq_1)))))) ?_
  refine wgo ?_
  refine wcallF (u4) (And.intro (@r3A.eq_1) (And.intro (@slsD.eq_1) (@slD.eq_1))) ?_
  refine wgo ?_
  refine wcall (v1) ?_
  refine wgo ?_
  refine wcall (v2) ?_
  refine wgo ?_
  refine wcall (v3) ?_
  refine wgo ?_
  refine wcall (v4) ?_
  refine wgo ?_
  exact wret
end Go.Proofs.YtojgjdcciojpeaaGreat
set_option linter.unusedSimpArgs false
set_option linter.unusedVariables false
namespace Go.Proofs.YtojgjdcciojpeaaGreat
open Go Go.PS
set_option maxRecDepth 100000
set_option maxHeartbeats 4000000
/-- A letter by its number. -/
def letU (n : Int) : UInt8 := UInt8.ofNat (97 + n.toNat)
def textF (l : List Int) (n : Nat) (k : Int) : List UInt8 := (l.take n).map fun x => letU (x % k)
def abc : List UInt8 := [97, 98, 99, 100, 101, 102, 103, 104, 105, 106, 107, 108, 109, 110, 111, 112, 113, 114, 115, 116, 117, 118, 119, 120, 121, 122]
theorem abc_at {n : Int} (h : 0 ≤ n ∧ n < 26) : List.take ((n + 1).toNat - n.toNat) (List.drop n.toNat abc) = [letU n] := by
  obtain ⟨h1, h2⟩ := h
  obtain ⟨m, rfl⟩ : ∃ m : Nat, n = m := ⟨n.toNat, by omega⟩
  have : m < 26 := by omega
  have e : ((m : Int) + 1).toNat - (m : Int).toNat = 1 := by omega
  rw [e, Int.toNat_natCast]
  have key : ∀ m : Fin 26, List.take 1 (List.drop m.val abc) = [letU (m.val : Int)] := by decide
  exact key ⟨m, this⟩
def u8s (l : List Int) : Prop := (∀ x ∈ l, 0 ≤ x ∧ x ≤ 255) ∧ l.length ≤ 9223372036854775807
theorem u8s_at {l : List Int} (h : u8s l) {i : Nat} (hi : i < l.length) : 0 ≤ l.getD i 0 ∧ l.getD i 0 ≤ 255 := by
  have e : l.getD i 0 = l[i] := by simp [hi]
  rw [e]; exact h.1 _ (List.getElem_mem hi)
theorem text_snoc (l : List Int) (n : Nat) (k : Int) {i : Nat} (h : i < l.length) (hn : i < n) : textF (l.take (i + 1)) n k = textF (l.take i) n k ++ [letU (l.getD i 0 % k)] := by
  have e : l.getD i 0 = l[i] := by simp [h]
  unfold textF
  rw [List.take_take, List.take_take, Nat.min_eq_right (by omega), Nat.min_eq_right (by omega), List.take_succ_eq_append_getElem h, e, List.map_append]
  rfl
theorem text_len (l : List Int) (n : Nat) (k : Int) : (textF l n k).length = min n l.length := by simp [textF]
theorem text54 (l : List Int) (n : Nat) (k : Int) (hl : u8s l) (hn : n ≤ 100) (hk : 0 < k ∧ k ≤ 26) : PCall Tryz.prog 54 [.sl 1 (l.map (D.int .u8)), .int .i64 n, .int .i64 k] (.str (textF l n k)) := by
  obtain ⟨k1, k2⟩ := hk
  have hll := hl.2
  have ht0 : textF [] n k = [] := by simp [textF]
  refine enterP tabOk Tryz.func54 37 [0, 1, 2, 6, 7, 8, 9, 10, 19] [.tmp 6] rfl (r := [_]) rfl (h := ?_); intro E hK; simp only [go_sem]
  refine wgo ?_
  refine wlpF (Run.loopC (ι := { i : Nat // i ≤ l.length ∧ i ≤ n }) (U := fun i => [(8, .d (.str (textF (l.take i.1) n k))), (9, .d (.int .i64 i.1))]) (O := fun i => []) (K := fun _ => []) (μ := fun i => l.length - i.1) (i0 := ⟨0, by omega, by omega⟩)) (@ht0) ?_
  rintro ⟨i, hi, hin⟩ ih
  by_cases hlt : i < l.length
  · have h1 : (i : Int) < l.length := by omega
    by_cases hlt2 : i < n
    · have h2 : (i : Int) < n := by omega
      have hget : (List.map (D.int .u8) l).getD i .nilp = .int .u8 (l.getD i 0) := by simp [hlt]
      obtain ⟨b1, b2⟩ := u8s_at hl hlt
      have m1 := Int.emod_nonneg (l.getD i 0) (show k ≠ 0 by omega)
      have m2 := Int.emod_lt_of_pos (l.getD i 0) k1
      have hs := text_snoc l n k hlt hlt2
      have ha := abc_at (n := l.getD i 0 % k) ⟨m1, by omega⟩
      have hle := text_len (l.take i) n k
      have ha2 : List.take ((l.getD i 0 % k + 1).toNat - (l.getD i 0 % k).toNat) (List.drop (l.getD i 0 % k).toNat [97, 98, 99, 100, 101, 102, 103, 104, 105, 106, 107, 108, 109, 110, 111, 112, 113, 114, 115, 116, 117, 118, 119, 120, 121, 122]) = [letU (l.getD i 0 % k)] := ha
      have hle2 : (textF (l.take i) n k).length ≤ 100 := by rw [hle]; omega
      simp only [go_sem]
      refine wgoF (And.intro (@h1) (And.intro (@h2) (@hget))) ?_
      exact wnxtF (ih ⟨i + 1, by omega, by omega⟩) (And.intro (@hs) (@ha2))
    · have h2 : ¬ (i : Int) < n := by omega
      have hf : textF (l.take i) n k = textF l n k := by
        unfold textF; rw [List.take_take, Nat.min_eq_left (by omega), show n = i by omega]
      simp only [go_sem]
      refine wgoF (And.intro (@h1) (@h2)) ?_
      exact wretF (@hf)
  · have h1 : ¬ (i : Int) < l.length := by omega
    have hf : l.take i = l := List.take_of_length_le (by omega)
    simp only [go_sem, hf]
    refine wgoF (@h1) ?_
    exact wret
/-- An area of a board. -/
structure Ar where
  k : Int
  x0 : Int
  y0 : Int
  x1 : Int
  y1 : Int
  deriving DecidableEq, Inhabited
def Ar.d (a : Ar) : D := .agg [.int .u8 a.k, .int .i64 a.x0, .int .i64 a.y0, .int .i64 a.x1, .int .i64 a.y1]
def bpD (e : Int × Int) : D := .agg [.int .u8 e.1, .int .u8 e.2]
def bps (l : List (Int × Int)) : Prop := (∀ e ∈ l, 0 ≤ e.1 ∧ e.1 ≤ 255 ∧ 0 ≤ e.2 ∧ e.2 ≤ 255) ∧ l.length ≤ 9223372036854775807
theorem bp_get {l : List (Int × Int)} {i : Nat} (h : i < l.length) : (List.map bpD l).getD i .nilp = .agg [.int .u8 (l.getD i default).1, .int .u8 (l.getD i default).2] := by simp [h, bpD]
theorem bp_at {l : List (Int × Int)} (h : bps l) {i : Nat} (hi : i < l.length) : 0 ≤ (l.getD i default).1 ∧ (l.getD i default).1 ≤ 255 ∧ 0 ≤ (l.getD i default).2 ∧ (l.getD i default).2 ≤ 255 := by
  have e : l.getD i default = l[i] := by simp [hi]
  rw [e]; exact h.1 _ (List.getElem_mem hi)
def mkA (i : Nat) (x y : Int) (e : Int × Int) : Ar := ⟨97 + i, x, y, x + e.1 % 21, y + e.2 % 21⟩
def madeGo : List (Int × Int) → Nat → Int → Int → List Ar
  | [], _, _, _ => []
  | e :: r, i, x, y => if 14 ≤ i then [] else mkA i x y e :: (if i % 5 = 4 then madeGo r (i + 1) 0 (y + 22) else madeGo r (i + 1) (x + (e.1 % 21 + 1 + e.1 / 21 % 9)) y)
def madeA (l : List (Int × Int)) : List Ar := madeGo l 0 0 0
theorem made_drop {l : List (Int × Int)} {i : Nat} (h : i < l.length) (x y : Int) : madeGo (l.drop i) i x y = if 14 ≤ i then [] else mkA i x y (l.getD i default) :: (if i % 5 = 4 then madeGo (l.drop (i + 1)) (i + 1) 0 (y + 22) else madeGo (l.drop (i + 1)) (i + 1) (x + ((l.getD i default).1 % 21 + 1 + (l.getD i default).1 / 21 % 9)) y) := by
  have e : l.getD i default = l[i] := by simp [h]
  rw [List.drop_eq_getElem_cons h, madeGo, e]
def ptD (x y : Int) : D := .agg [.int .i64 x, .int .i64 y]
def mT : List D := [.agg [.int .u8 97, .sl 2 [ptD 0 0, ptD 20 20]], .agg [.int .u8 98, .sl 2 [ptD 20 0, ptD 0 20, ptD 20 40]]]
def mC : List Ck := [⟨[97, 98], 99⟩, ⟨[97, 98, 99], 97⟩]
def madeB (l : List (Int × Int)) : Brd := ⟨5, (madeA l).map Ar.d, 2, mT, mC⟩
def mO (out : List Ar) (t : Tok) : OB := ⟨32, 3, [.agg [.own 5 (out.map Ar.d) t, .own 0 [] .full, .own 2 [.agg [.str [97, 98], .int .u8 99], .agg [.str [97, 98, 99], .int .u8 97]] .full]]⟩
theorem alen (a : List Ar) : (List.map Ar.d a).length = a.length := List.length_map ..
theorem made16 (l : List (Int × Int)) (hl : bps l) : PCall Tryz.prog 16 [.sl 2 (l.map bpD)] (madeB l).d := by
  have hll := hl.2
  refine enterP tabOk Tryz.func16 84 [0, 2, 3, 4, 5, 6, 7, 8, 20, 69] [.cell 2 32] rfl (r := [_]) rfl (h := ?_); intro E hK; simp only [go_sem]
  refine wgo ?_
  (apply Run.fullOb 3 0 1003 121 5; (case ho => simp only [go_sem]; rfl); (case hel => simp only [go_sem]; rfl); (case hj => simp only [go_sem]; rfl); (case ht => simp only [go_sem]); (case hsm => decide); (case hs => simp only [go_sem]; rfl))
  refine wlpF (Run.loopC (ι := { z : Nat × Int × Int × List Ar // z.1 ≤ l.length ∧ z.1 ≤ 14 ∧ 0 ≤ z.2.1 ∧ z.2.1 ≤ 30 * z.1 ∧ 0 ≤ z.2.2.1 ∧ z.2.2.1 ≤ 22 * z.1 ∧ z.2.2.2.length = z.1 ∧ z.2.2.2 ++ madeGo (l.drop z.1) z.1 z.2.1 z.2.2.1 = madeA l }) (U := fun z => [(4, .d (.int .i64 z.1.2.1)), (5, .d (.int .i64 z.1.2.2.1)), (6, .d (.int .i64 z.1.1))]) (O := fun z => [(3, some (mO z.1.2.2.2 (.tok 1003)))]) (K := fun _ => [(1003, .live 121 5)]) (μ := fun z => l.length - z.1.1) (i0 := ⟨(0, 0, 0, []), by omega, by omega, by dsimp only; omega, by dsimp only; omega, by dsimp only; omega, by dsimp only; omega, rfl, rfl⟩)) (@mO.eq_1) ?_
  rintro ⟨⟨i, x, y, out⟩, hi, h14, hx0, hx1, hy0, hy1, ho, hp⟩ ih
  dsimp only at hi h14 hx0 hx1 hy0 hy1 ho hp
  have eo := alen out
  by_cases hlt : i < l.length ∧ i < 14
  · obtain ⟨hlt, hl14⟩ := hlt
    have h1 : (i : Int) < l.length := by omega
    have h2 : (i : Int) < 14 := by omega
    have hget := bp_get hlt
    obtain ⟨b1, b2, b3, b4⟩ := bp_at hl hlt
    rw [made_drop hlt, if_neg (by omega)] at hp
    generalize l.getD i default = e at hget b1 b2 b3 b4 hp
    have d1 : divT e.1 21 = e.1 / 21 := divT_nn b1
    by_cases hm : i % 5 = 4
    · rw [if_pos hm] at hp
      have c1 : decide ((i : Int) % 5 = 4) = true := decide_eq_true (by omega)
      simp only [go_sem, mO]
      refine wgoF (And.intro (@h1) (And.intro (@h2) (And.intro (@hget) (And.intro (@d1) (And.intro (@c1) (@eo)))))) ?_
      (apply Run.retok 52 1003; (case hk => simp only [go_sem]; rfl); (case ht => simp only [go_sem]; rfl); (case ht' => simp only [go_sem]); (case hs => simp only [go_sem]; rfl))
      exact wnxtF (ih ⟨(i + 1, 0, y + 22, out ++ [mkA i x y e]), by dsimp only; omega, by dsimp only; omega, by dsimp only; omega, by dsimp only; omega, by dsimp only; omega, by dsimp only; omega, by simp [ho], by rw [List.append_assoc]; exact hp⟩) (And.intro (@mO.eq_1) (And.intro (@Ar.d.eq_1) (@mkA.eq_1)))
    · rw [if_neg hm] at hp
      have c1 : decide ((i : Int) % 5 = 4) = false := decide_eq_false (by omega)
      simp only [go_sem, mO]
      refine wgoF (And.intro (@h1) (And.intro (@h2) (And.intro (@hget) (And.intro (@d1) (And.intro (@c1) (@eo)))))) ?_
      (apply Run.retok 52 1003; (case hk => simp only [go_sem]; rfl); (case ht => simp only [go_sem]; rfl); (case ht' => simp only [go_sem]); (case hs => simp only [go_sem]; rfl))
      exact wnxtF (ih ⟨(i + 1, x + (e.1 % 21 + 1 + e.1 / 21 % 9), y, out ++ [mkA i x y e]), by dsimp only; omega, by dsimp only; omega, by dsimp only; omega, by dsimp only; omega, by dsimp only; omega, by dsimp only; omega, by simp [ho], by rw [List.append_assoc]; exact hp⟩) (And.intro (@mO.eq_1) (And.intro (@Ar.d.eq_1) (@mkA.eq_1)))
  · have c : (decide ((i : Int) < l.length) && decide ((i : Int) < 14)) = false := by
      rw [Bool.and_eq_false_iff]
      by_cases q : i < l.length
      · right; exact decide_eq_false (by omega)
      · left; exact decide_eq_false (by omega)
    have hout : out = madeA l := by
      rw [← hp]
      by_cases q : i < l.length
      · rw [made_drop q, if_pos (by omega), List.append_nil]
      · rw [List.drop_eq_nil_of_le (by omega)]; simp [madeGo]
    simp only [go_sem, mO]
    refine wgoF (@c) ?_
    exact wretF (And.intro (@madeB.eq_1) (And.intro (@Brd.d.eq_1) (And.intro (@mT.eq_1) (And.intro (@mC.eq_1) (And.intro (@Ck.d.eq_1) (And.intro (@ptD.eq_1) (@hout)))))))
end Go.Proofs.YtojgjdcciojpeaaGreat

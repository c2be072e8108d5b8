/-
  A part of the walks of this seat: each theorem says what a function of the program gives. No condition beyond its own premises.
-/
import Derived.Test.YtojgjdcciojpeaaM3
import Derived.Test.YtojgjdcciojpeaaM5
set_option linter.unusedSimpArgs false
set_option linter.unusedVariables false
namespace Go.Proofs.Ytojgjdcciojpeaa
open Go Go.PS
set_option maxRecDepth 100000
set_option maxHeartbeats 4000000
/-- A chord of a board. -/
structure Ck where
  keys : List UInt8
  k : Int
  deriving DecidableEq, Inhabited
def Ck.d (c : Ck) : D := .agg [.str c.keys, .int .u8 c.k]
/-- A board: areas and templates as they lie. -/
structure Brd where
  za : Nat
  A : List D
  zt : Nat
  T : List D
  cs : List Ck
def Brd.d (b : Brd) : D := .agg [.sl b.za b.A, .sl b.zt b.T, .sl 2 (b.cs.map Ck.d)]
theorem ck_get {l : List Ck} {i : Nat} (h : i < l.length) : (List.map Ck.d l).getD i .nilp = .agg [.str (l.getD i default).keys, .int .u8 (l.getD i default).k] := by simp [h, Ck.d]
def ckOk (l : List Ck) : Prop := l.length ≤ 100000 ∧ ∀ c ∈ l, 0 ≤ c.k ∧ c.k ≤ 255
theorem ck_ok {l : List Ck} (h : ckOk l) {i : Nat} (hi : i < l.length) : 0 ≤ (l.getD i default).k ∧ (l.getD i default).k ≤ 255 := by
  have e : l.getD i default = l[i] := by simp [hi]
  rw [e]; exact h.2 _ (List.getElem_mem hi)
def chordR (l : List Ck) (keys : List UInt8) : List (List Ch) × Int :=
  match l.find? (fun c => decide (c.keys = keys)) with
  | some c => ([[⟨c.k, 0⟩]], 0)
  | none => ([], 10)
theorem chord_drop {l : List Ck} {i : Nat} (h : i < l.length) (keys : List UInt8) : chordR (l.drop i) keys = if (l.getD i default).keys = keys then ([[⟨(l.getD i default).k, 0⟩]], 0) else chordR (l.drop (i + 1)) keys := by
  have e : l.getD i default = l[i] := by simp [h]
  rw [List.drop_eq_getElem_cons h, e]
  unfold chordR
  rw [List.find?_cons]
  by_cases q : l[i].keys = keys
  · rw [if_pos q, decide_eq_true q]
  · rw [if_neg q, decide_eq_false q]
def rD (r : List (List Ch) × Int) : D := .tup [slsD r.1, .int .i64 r.2]
theorem byteK {k : Int} (h : 0 ≤ k ∧ k ≤ 255) : typedF [UInt8.ofNat k.toNat] = [[⟨k, 0⟩]] := by
  have : ((UInt8.ofNat k.toNat).toNat : Int) = k := by
    rw [UInt8.toNat_ofNat']; omega
  show [[(⟨((UInt8.ofNat k.toNat).toNat : Int), 0⟩ : Ch)]] = _
  rw [this]
theorem key86 (b : Brd) (tp : D) (e : Ev) (hk : e.keys.length ≤ 100000) : PCall Try.prog 22 [b.d, tp, e.d] (rD (typedF e.keys, 0)) := by
  refine enterP tabOk Try.func22 11 [0, 2, 5, 6, 7] [.tmp 6, .tmp 7] rfl (r := [_, _]) rfl (h := ?_); intro E hK; simp only [go_sem]
  refine wgoF (And.intro (@Brd.d.eq_1) (@Ev.d.eq_1)) ?_
  refine wcall (typed112 e.keys hk) ?_
  refine wgo ?_
  exact wretF (@rD.eq_1)
theorem paste90 (b : Brd) (tp : D) (e : Ev) (hk : e.text.length ≤ 100000) : PCall Try.prog 26 [b.d, tp, e.d] (rD (typedF e.text, 0)) := by
  refine enterP tabOk Try.func26 11 [0, 2, 5, 6, 7] [.tmp 6, .tmp 7] rfl (r := [_, _]) rfl (h := ?_); intro E hK; simp only [go_sem]
  refine wgoF (And.intro (@Brd.d.eq_1) (@Ev.d.eq_1)) ?_
  refine wcall (typed112 e.text hk) ?_
  refine wgo ?_
  exact wretF (@rD.eq_1)
theorem chord87 (b : Brd) (tp : D) (e : Ev) (hc : ckOk b.cs) : PCall Try.prog 23 [b.d, tp, e.d] (rD (chordR b.cs e.keys)) := by
  obtain ⟨za, A, zt, T, cs⟩ := b
  have hl := hc.1
  dsimp only at hl hc
  refine enterP tabOk Try.func23 28 [0, 2, 3, 5, 6, 7, 9, 11, 12, 13, 14, 21] [.tmp 6, .tmp 7] rfl (r := [_, _]) rfl (h := ?_); intro E hK; simp only [go_sem]
  refine wgoF (And.intro (@Brd.d.eq_1) (@Ev.d.eq_1)) ?_
  refine wlp (Run.loopC (ι := { i : Nat // i ≤ cs.length ∧ chordR (cs.drop i) e.keys = chordR cs e.keys }) (U := fun i => [(13, .d (.int .i64 i.1))]) (O := fun i => []) (K := fun _ => []) (μ := fun i => cs.length - i.1) (i0 := ⟨0, by omega, rfl⟩)) ?_
  rintro ⟨i, hi, hp⟩ ih
  by_cases hlt : i < cs.length
  · have h1 : (i : Int) < cs.length := by omega
    have hget := ck_get hlt
    have hb := ck_ok hc hlt
    rw [chord_drop hlt] at hp
    by_cases q : (cs.getD i default).keys = e.keys
    · rw [if_pos q] at hp
      have ht := typed112 [UInt8.ofNat (cs.getD i default).k.toNat] (by simp)
      rw [byteK hb] at ht
      simp only [go_sem]
      refine wgoF (And.intro (@h1) (And.intro (@hget) (And.intro (@q) (And.intro (@hb.1) (@hb.2))))) ?_
      refine wcall (ht) ?_
      refine wgo ?_
      have hp2 := hp.symm
      exact wretF (And.intro (@rD.eq_1) (And.intro (@hp2) (And.intro (@slsD.eq_1) (And.intro (@slD.eq_1) (@Ch.d.eq_1)))))
    · rw [if_neg q] at hp
      have q2 : decide ((cs.getD i default).keys = e.keys) = false := decide_eq_false q
      simp only [go_sem]
      refine wgoF (And.intro (@h1) (And.intro (@hget) (@q2))) ?_
      exact wnxt (ih ⟨i + 1, by omega, hp⟩)
  · have h1 : ¬ (i : Int) < cs.length := by omega
    have hp2 : chordR cs e.keys = ([], 10) := by rw [← hp, List.drop_eq_nil_of_le (by omega)]; rfl
    simp only [go_sem]
    refine wgoF (@h1) ?_
    exact wretF (And.intro (@rD.eq_1) (And.intro (@hp2) (@slsD.eq_1)))
/-- One slot, or an error. -/
def wrapS (r : List Ch × Int) : List (List Ch) × Int := if r.2 = 0 then ([r.1], 0) else ([], r.2)
theorem pt0 {p : List Pt} (h : 0 < p.length) : (List.map Pt.d p).getD 0 .nilp = .agg [.int .i64 (p.getD 0 default).x, .int .i64 (p.getD 0 default).y] := pt_get h
theorem touch88 (b : Brd) (tz : Nat) (tp : List D) (e : Ev) (hp : 0 < e.p.length) (r : List Ch × Int) (hT : PCall Try.prog 29 [b.d, .sl tz tp, (e.p.getD 0 default).d] (.tup [slD r.1, .int .i64 r.2])) : PCall Try.prog 24 [b.d, .sl tz tp, e.d] (rD (wrapS r)) := by
  have hpl : (0 : Int) < e.p.length := by omega
  have g := pt0 hp
  obtain ⟨s, x⟩ := r
  by_cases hx : x = 0
  · subst hx
    refine enterP tabOk Try.func24 25 [0, 1, 2, 3, 5, 6, 7, 8, 9, 21] [.tmp 6, .tmp 7] rfl (r := [_, _]) rfl (h := ?_); intro E hK; simp only [go_sem]
    refine wgoF (And.intro (@Brd.d.eq_1) (And.intro (@Ev.d.eq_1) (And.intro (@g) (@hpl)))) ?_
    refine wcallF (hT) (And.intro (@Pt.d.eq_1) (@Brd.d.eq_1)) ?_
    refine wgoF (@slD.eq_1) ?_
    exact wretF (And.intro (@rD.eq_1) (And.intro (@wrapS.eq_1) (And.intro (@slsD.eq_1) (@slD.eq_1))))
  · have hx2 : decide (x = 0) = false := decide_eq_false hx
    have hw : wrapS (s, x) = ([], x) := if_neg hx
    refine enterP tabOk Try.func24 25 [0, 1, 2, 3, 5, 6, 7, 8, 9, 21] [.tmp 6, .tmp 7] rfl (r := [_, _]) rfl (h := ?_); intro E hK; simp only [go_sem]
    refine wgoF (And.intro (@Brd.d.eq_1) (And.intro (@Ev.d.eq_1) (And.intro (@g) (@hpl)))) ?_
    refine wcallF (hT) (And.intro (@Pt.d.eq_1) (@Brd.d.eq_1)) ?_
    refine wgoF (@hx2) ?_
    exact wretF (And.intro (@rD.eq_1) (And.intro (@hw) (And.intro (@slsD.eq_1) (@slD.eq_1))))
theorem drawing89 (b : Brd) (tp : D) (e : Ev) (r : List Ch × Int) (hT : PCall Try.prog 30 [b.d, .sl 2 (e.p.map Pt.d)] (.tup [slD r.1, .int .i64 r.2])) : PCall Try.prog 25 [b.d, tp, e.d] (rD (wrapS r)) := by
  obtain ⟨s, x⟩ := r
  by_cases hx : x = 0
  · subst hx
    refine enterP tabOk Try.func25 22 [0, 2, 3, 5, 6, 7, 8, 9, 18] [.tmp 6, .tmp 7] rfl (r := [_, _]) rfl (h := ?_); intro E hK; simp only [go_sem]
    refine wgoF (And.intro (@Brd.d.eq_1) (@Ev.d.eq_1)) ?_
    refine wcallF (hT) (@Brd.d.eq_1) ?_
    refine wgoF (@slD.eq_1) ?_
    exact wretF (And.intro (@rD.eq_1) (And.intro (@wrapS.eq_1) (And.intro (@slsD.eq_1) (@slD.eq_1))))
  · have hx2 : decide (x = 0) = false := decide_eq_false hx
    have hw : wrapS (s, x) = ([], x) := if_neg hx
    refine enterP tabOk Try.func25 22 [0, 2, 3, 5, 6, 7, 8, 9, 18] [.tmp 6, .tmp 7] rfl (r := [_, _]) rfl (h := ?_); intro E hK; simp only [go_sem]
    refine wgoF (And.intro (@Brd.d.eq_1) (@Ev.d.eq_1)) ?_
    refine wcallF (hT) (@Brd.d.eq_1) ?_
    refine wgoF (@hx2) ?_
    exact wretF (And.intro (@rD.eq_1) (And.intro (@hw) (And.intro (@slsD.eq_1) (@slD.eq_1))))
def mkD : D := .agg [.nilf, .fn (.func 22) [] [], .fn (.func 23) [] [], .fn (.func 24) [] [], .fn (.func 25) [] [], .fn (.func 26) [] [], .nilf, .nilf, .nilf, .nilf, .nilf, .nilf, .nilf]
theorem makers63 : PCall Try.prog 17 [] mkD := by
  refine enterP tabOk Try.func17 2 [0] [.cell 0 68] rfl (r := [_]) rfl (h := ?_); intro E hK; simp only [go_sem]
  refine wgo ?_
  exact wretF (@mkD.eq_1)
end Go.Proofs.Ytojgjdcciojpeaa

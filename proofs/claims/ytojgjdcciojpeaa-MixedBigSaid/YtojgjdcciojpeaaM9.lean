/-
  A part of the walks of this seat: each theorem says what a function of the program gives. No condition beyond its own premises.
-/
import Derived.Test.YtojgjdcciojpeaaM8
set_option linter.unusedSimpArgs false
set_option linter.unusedVariables false
namespace Go.Proofs.Ytojgjdcciojpeaa
open Go Go.PS
set_option maxRecDepth 100000
set_option maxHeartbeats 4000000
/-- The cost of the first choice with a letter. -/
def findC (s : List Ch) (k : Int) : Option Int := (s.find? (fun c => decide (c.k = k))).map (·.c)
def choR (o : Option Int) : D := .tup [.int .i64 (o.getD 0), .bool o.isSome]
theorem find_drop {l : List Ch} {i : Nat} (h : i < l.length) (k : Int) : findC (l.drop i) k = if (l.getD i default).k = k then some (l.getD i default).c else findC (l.drop (i + 1)) k := by
  have e : l.getD i default = l[i] := by simp [h]
  rw [List.drop_eq_getElem_cons h, e]
  unfold findC
  rw [List.find?_cons]
  by_cases q : l[i].k = k
  · rw [if_pos q, decide_eq_true q]; rfl
  · rw [if_neg q, decide_eq_false q]
theorem choice65 (s : List Ch) (k : Int) (hl : s.length ≤ 100000) : PCall Try.prog 27 [slD s, .int .u8 k] (choR (findC s k)) := by
  refine enterP tabOk Try.func27 21 [0, 1, 4, 5, 7, 8, 9, 10, 11, 17] [.tmp 4, .tmp 5] rfl (r := [_, _]) rfl (h := ?_); intro E hK; simp only [go_sem]
  refine wgoF (@slD.eq_1) ?_
  refine wlp (Run.loopC (ι := { i : Nat // i ≤ s.length ∧ findC (s.drop i) k = findC s k }) (U := fun i => [(10, .d (.int .i64 i.1))]) (O := fun i => []) (K := fun _ => []) (μ := fun i => s.length - i.1) (i0 := ⟨0, by omega, rfl⟩)) ?_
  rintro ⟨i, hi, hp⟩ ih
  by_cases hlt : i < s.length
  · have h1 : (i : Int) < s.length := by omega
    have hget := ch_get hlt
    rw [find_drop hlt] at hp
    by_cases q : (s.getD i default).k = k
    · rw [if_pos q] at hp
      have hp2 := hp.symm
      have q2 : decide ((s.getD i default).k = k) = true := decide_eq_true q
      simp only [go_sem]
      refine wgoF (And.intro (@h1) (And.intro (@hget) (@q2))) ?_
      exact wretF (And.intro (@choR.eq_1) (@hp2))
    · rw [if_neg q] at hp
      have q2 : decide ((s.getD i default).k = k) = false := decide_eq_false q
      simp only [go_sem]
      refine wgoF (And.intro (@h1) (And.intro (@hget) (@q2))) ?_
      exact wnxt (ih ⟨i + 1, by omega, hp⟩)
  · have h1 : ¬ (i : Int) < s.length := by omega
    have hp2 : findC s k = none := by rw [← hp, List.drop_eq_nil_of_le (by omega)]; rfl
    simp only [go_sem]
    refine wgoF (@h1) ?_
    exact wretF (And.intro (@choR.eq_1) (@hp2))
def cheapL (l : List (List Ch)) : Prop := ∀ s ∈ l, s.length ≤ 100000 ∧ ∀ c ∈ s, 0 ≤ c.c ∧ c.c ≤ 1000
theorem find_bd {s : List Ch} (h : ∀ c ∈ s, 0 ≤ c.c ∧ c.c ≤ 1000) {k v : Int} (hf : findC s k = some v) : 0 ≤ v ∧ v ≤ 1000 := by
  unfold findC at hf
  obtain ⟨c, hc, rfl⟩ := Option.map_eq_some_iff.1 hf
  exact h c (List.mem_of_find?_eq_some hc)
/-- The sum of the first k letters' costs. -/
def costTo (l : List (List Ch)) (inp : List UInt8) : Nat → Option Int
  | 0 => some 0
  | k + 1 => match costTo l inp k, findC (l.getD k []) ((inp.getD k 0).toNat : Int) with
    | some a, some b => some (a + b)
    | _, _ => none
def costF (l : List (List Ch)) (inp : List UInt8) : Option Int := if inp.length = l.length then costTo l inp l.length else none
theorem cost_bd {l : List (List Ch)} (h : cheapL l) (inp : List UInt8) : ∀ (k : Nat) (v : Int), k ≤ l.length → costTo l inp k = some v → 0 ≤ v ∧ v ≤ 1000 * k
  | 0, v, _, hv => by simp [costTo] at hv; omega
  | k + 1, v, hk, hv => by
    unfold costTo at hv
    cases h1 : costTo l inp k with
    | none => rw [h1] at hv; simp at hv
    | some a =>
      rw [h1] at hv
      cases h2 : findC (l.getD k []) ((inp.getD k 0).toNat : Int) with
      | none => rw [h2] at hv; simp at hv
      | some b =>
        rw [h2] at hv
        simp only [Option.some.injEq] at hv
        have e : l.getD k [] = l[k] := by simp [show k < l.length by omega]
        rw [e] at h2
        have b1 := cost_bd h inp k a (by omega) h1
        have b2 := find_bd (h _ (List.getElem_mem (show k < l.length by omega))).2 h2
        push_cast
        omega
theorem cost_none {l : List (List Ch)} {inp : List UInt8} {k : Nat} (h : costTo l inp k = none) : ∀ n, k ≤ n → costTo l inp n = none := by
  intro n hn
  induction n with
  | zero =>
    obtain rfl : k = 0 := by omega
    exact h
  | succ n ih =>
    by_cases e : k = n + 1
    · subst e; exact h
    · rw [costTo, ih (by omega)]
theorem cost23 (l : List (List Ch)) (inp : List UInt8) (hl : l.length ≤ 100000) (hb : cheapL l) : PCall Try.prog 18 [slsD l, .str inp] (choR (costF l inp)) := by
  have e1 := mlen l
  by_cases hne : inp.length = l.length
  · have h0 : decide ((inp.length : Int) = (l.length : Int)) = true := decide_eq_true (by omega)
    have hF : costF l inp = costTo l inp l.length := if_pos hne
    refine enterP tabOk Try.func18 38 [0, 1, 4, 5, 6, 7, 8, 9, 14, 16, 17, 18, 32] [.tmp 4, .tmp 5] rfl (r := [_, _]) rfl (h := ?_); intro E hK; simp only [go_sem]
    refine wgoF (And.intro (@slsD.eq_1) (And.intro (@h0) (@e1))) ?_
    refine wlp (Run.loopC (ι := { x : Nat × Int // x.1 ≤ l.length ∧ costTo l inp x.1 = some x.2 }) (U := fun x => [(6, .d (.int .i64 x.1.2)), (17, .d (.int .i64 x.1.1))]) (O := fun i => []) (K := fun _ => []) (μ := fun x => l.length - x.1.1) (i0 := ⟨(0, 0), by omega, rfl⟩)) ?_
    rintro ⟨⟨i, v⟩, hi, hp⟩ ih
    dsimp only at hi hp
    by_cases hlt : i < l.length
    · have h1 : (i : Int) < l.length := by omega
      have h1b : (i : Int) < inp.length := by omega
      have hget := sl_get hlt
      have e : l.getD i [] = l[i] := by simp [hlt]
      have hm := hb _ (List.getElem_mem hlt)
      rw [← e] at hm
      have hc := choice65 (l.getD i []) ((inp.getD i 0).toNat : Int) hm.1
      have hbd := cost_bd hb inp i v hi hp
      cases hf : findC (l.getD i []) ((inp.getD i 0).toNat : Int) with
      | none =>
        have hs : costTo l inp (i + 1) = none := by rw [costTo, hp, hf]
        have hr : costF l inp = none := by rw [hF]; exact cost_none hs _ hlt
        rw [hf] at hc
        simp only [go_sem]
        refine wgoF (And.intro (@h1) (And.intro (@h1b) (@hget))) ?_
        refine wcallF (hc) (@slD.eq_1) ?_
        refine wgoF (@choR.eq_1) ?_
        exact wretF (And.intro (@choR.eq_1) (@hr))
      | some b =>
        have hs : costTo l inp (i + 1) = some (v + b) := by rw [costTo, hp, hf]
        have hbb := find_bd hm.2 hf
        rw [hf] at hc
        simp only [go_sem]
        refine wgoF (And.intro (@h1) (And.intro (@h1b) (@hget))) ?_
        refine wcallF (hc) (@slD.eq_1) ?_
        refine wgoF (@choR.eq_1) ?_
        exact wnxt (ih ⟨(i + 1, v + b), by omega, hs⟩)
    · have h1 : ¬ (i : Int) < l.length := by omega
      obtain rfl : i = l.length := by omega
      have hr : costF l inp = some v := by rw [hF, hp]
      simp only [go_sem]
      refine wgoF (@h1) ?_
      exact wretF (And.intro (@choR.eq_1) (@hr))
  · have h0 : decide ((inp.length : Int) = (l.length : Int)) = false := decide_eq_false (by omega)
    have hF : costF l inp = none := if_neg hne
    refine enterP tabOk Try.func18 38 [0, 1, 4, 5, 6, 7, 8, 9, 14, 16, 17, 18, 32] [.tmp 4, .tmp 5] rfl (r := [_, _]) rfl (h := ?_); intro E hK; simp only [go_sem]
    refine wgoF (And.intro (@slsD.eq_1) (And.intro (@h0) (@e1))) ?_
    exact wretF (And.intro (@choR.eq_1) (@hF))
def exSl : List (List Ch) := [[⟨97, 3⟩, ⟨98, 0⟩], [⟨99, 2⟩]]
theorem costs60 (inp : List UInt8) (w : Int) (hw : (costF exSl inp = none ∧ w = -1) ∨ (costF exSl inp = some w ∧ 0 ≤ w)) : PCall Try.prog 13 [.str inp, .int .i64 w] (.bool true) := by
  have hc := cost23 exSl inp (by simp [exSl]) (by intro s hs; simp [exSl] at hs; rcases hs with rfl | rfl <;> simp)
  rcases hw with ⟨h, rfl⟩ | ⟨h, h0⟩
  · rw [h] at hc
    refine enterP tabOk Try.func13 28 [0, 1, 4, 5, 6] [.tmp 4] rfl (r := [_]) rfl (h := ?_); intro E hK; simp only [go_sem]
    refine wgo ?_
    refine wcallF (hc) (And.intro (@slsD.eq_1) (And.intro (@exSl.eq_1) (And.intro (@slD.eq_1) (@Ch.d.eq_1)))) ?_
    have h1 : max (-1 : Int) 0 = 0 := by decide
    refine wgoF (And.intro (@choR.eq_1) (@h1)) ?_
    exact wret
  · rw [h] at hc
    have h1 : max w 0 = w := by omega
    have h2 : decide (w = w) = true := by simp
    refine enterP tabOk Try.func13 28 [0, 1, 4, 5, 6] [.tmp 4] rfl (r := [_]) rfl (h := ?_); intro E hK; simp only [go_sem]
    refine wgo ?_
    refine wcallF (hc) (And.intro (@slsD.eq_1) (And.intro (@exSl.eq_1) (And.intro (@slD.eq_1) (@Ch.d.eq_1)))) ?_
    refine wgoF (And.intro (@choR.eq_1) (And.intro (@h0) (And.intro (@h1) (@h2)))) ?_
    exact wret
end Go.Proofs.Ytojgjdcciojpeaa

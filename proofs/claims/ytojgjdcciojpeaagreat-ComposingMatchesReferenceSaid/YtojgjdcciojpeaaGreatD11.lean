/-
  A part of the walks of this seat: each theorem says what a function of the program gives. No condition beyond its own premises.
-/
import Derived.Test.YtojgjdcciojpeaaGreatD10
namespace Go.PS
open Go Go.RowKit
set_option linter.unusedVariables false
set_option linter.unusedSimpArgs false

/-- What was grown of a token reads as data. -/
def killLeaf (t : Nat) : PV → PV
  | .own sz xs (.tok n) => if n = t then .d (.sl sz xs) else .own sz xs (.tok n)
  | .own sz xs .full => .own sz xs .full
  | .hp i k off => .hp i k off
  | .hrow i s lo len cap => .hrow i s lo len cap
  | .hmap i => .hmap i
  | .d x => .d x
  | .agg cs => .agg cs
  | .tup cs => .tup cs
  | .fn f a b => .fn f a b
  | .any => .any
theorem killLeaf_ok (t : Nat) : LeafOk (killLeaf t) := by
  intro x cs hx h
  cases x <;> simp only [PV.leaf, reduceCtorEq] at hx <;> try (cases h; done)
  rename_i sz xs tk
  cases tk with
  | full => cases h
  | tok n =>
    simp only [killLeaf] at h
    split at h <;> cases h
def delTk (t : Nat) : List (Nat × TS) → List (Nat × TS)
  | [] => []
  | (i, v) :: l => if i = t then delTk t l else (i, v) :: delTk t l
theorem lk_delTk (t : Nat) : ∀ (l : List (Nat × TS)) (i : Nat), lk .never (delTk t l) i = if i = t then .never else lk .never l i
  | [], i => by simp [delTk, lk]
  | (j, v) :: l, i => by
    have ih := lk_delTk t l i
    simp only [delTk]
    by_cases hj : j = t
    · rw [if_pos hj, ih]
      by_cases hi : i = t
      · rw [if_pos hi, if_pos hi]
      · rw [if_neg hi, if_neg hi]; simp only [lk]; rw [if_neg (by omega)]
    · rw [if_neg hj]
      simp only [lk]
      by_cases hij : i = j
      · subst hij; rw [if_pos rfl, if_neg hj, if_pos rfl]
      · rw [if_neg hij, ih, if_neg hij]
def SL.kill (s : SL) (t : Nat) : SL := ⟨mapTm (killLeaf t) s.tm, mapOb (killLeaf t) s.ob, delTk t s.tk⟩
theorem SLe.kill {E : Env} {s : SL} (t : Nat) : SLe E s (s.kill t) := by
  intro γ own a w hC
  let γ' : Gh := ⟨γ.K, γ.m, fun n => if n = t then none else γ.τ n⟩
  have hleaf : ∀ (x : PV) (v : Value), x.leaf = true → Rep γ x v → Rep γ' (killLeaf t x) v := by
    intro x v hx h
    cases h with
    | d h => exact .d h
    | @own sz xs tk v h ht =>
      cases tk with
      | full => exact .own h ht
      | tok n =>
        simp only [killLeaf]
        split
        · exact .d h
        · rename_i hn
          refine .own h ?_
          show (if n = t then none else γ.τ n) = some v
          rw [if_neg hn]; exact ht
    | agg => cases hx
    | tup => cases hx
    | hp h => exact .hp h
    | hrow h h1 h2 => exact .hrow h h1 h2
    | hmap h => exact .hmap h
    | fn => cases hx
    | any => cases hx
  have hw := hC.world
  have htk : ∀ n, (SL.of (s.kill t)).tk n = if n = t then .never else s.of.tk n := fun n => lk_delTk t s.tk n
  refine ⟨γ', own, hC.defers, hC.size, fun i => ?_, ?_⟩
  · change Rep _ (lk .any (mapTm _ s.tm) i) _
    rw [lk_mapTm]
    exact mapv_rep hleaf (hC.tm i)
  · refine ⟨hw.k0, hw.knew, hw.ksub, hw.below, ?_, ?_, hw.inj, ?_, ?_, ?_, hw.pas, ?_⟩
    · intro i o' hio
      have hio' : lk none (mapOb _ s.ob) i = some o' := hio
      rw [lk_mapOb] at hio'
      simp only [Option.map_eq_some_iff] at hio'
      obtain ⟨o1, ho1, rfl⟩ := hio'
      obtain ⟨blk, cs, hm, hok⟩ := hw.obj i o1 ho1
      exact ⟨blk, cs, hm, hok.mapv (killLeaf_ok _) hleaf fun off => hok.free off⟩
    · intro i hio
      have hio' : lk none (mapOb _ s.ob) i = none := hio
      rw [lk_mapOb] at hio'
      simp only [Option.map_eq_none_iff] at hio'
      exact hw.nob i hio'
    · intro n e sz hn
      rw [htk] at hn
      split at hn
      · cases hn
      · rename_i hne
        obtain ⟨v, hv, hok⟩ := hw.tok n e sz hn
        refine ⟨v, by show (if n = t then none else γ.τ n) = some v; rw [if_neg hne]; exact hv, ?_⟩
        cases ho : own n with
        | none => rw [ho] at hok; exact hok
        | some g =>
          rw [ho] at hok
          obtain ⟨m, cap, cur, hok⟩ := hok
          exact ⟨m, cap, cur, hok.keep rfl (fun off h => hok.free off h) fun i s h => hok.noobj i s h⟩
    · intro n n' e e' s1 s2 g hn hn'
      rw [htk] at hn hn'
      split at hn
      · cases hn
      · split at hn'
        · cases hn'
        · exact hw.tinj n n' e e' s1 s2 g hn hn'
    · intro n hn
      show (if n = t then none else γ.τ n) = none
      rw [htk] at hn
      split
      · rfl
      · rename_i hne
        rw [if_neg hne] at hn
        exact hw.ntok n hn
    · intro n e sz v h3 hn hτ ho
      rw [htk] at hn
      split at hn
      · cases hn
      · rename_i hne
        have hτ' : γ.τ n = some v := by
          have : (if n = t then none else γ.τ n) = some v := hτ
          rw [if_neg hne] at this; exact this
        exact hw.tmine n e sz v h3 hn hτ' ho
theorem kill_def (tm ob tk) (t : Nat) : SL.kill ⟨tm, ob, tk⟩ t = ⟨mapTm (killLeaf t) tm, mapOb (killLeaf t) ob, delTk t tk⟩ := rfl
theorem kill_D (t : Nat) (l : List D) : PV.mapv.mapL (killLeaf t) (l.map PV.ofD.PV.ofD1) = l.map PV.ofD.PV.ofD1 := mapL_D (fun _ => rfl) l
theorem kill_rI (t : Nat) (l : List Int) : PV.mapv.mapL (killLeaf t) (rI l) = rI l := by rw [rI_ofD1]; exact kill_D _ _
/-- The token t takes the place of an elder one. -/
theorem Run.retok {P : Program} {E : Env} {fn : Func} {f : FuncId} {r : List D} {k : List Item} {s s1 s' : SL} (t t' : Nat) {e : TypeId} {size : Nat} (hk : s.kill t' = s1) (ht : lk .never s1.tk t = .live e size) (ht' : lk .never s1.tk t' = .never) (hs : s1.ren t t' e size = s')
    (h : Run P E fn f r k s'.of) : Run P E fn f r k s.of := by
  subst hk; subst hs
  exact Run.le ((SLe.kill t').trans (SLe.ren t t' ht ht')) h
theorem dle_self (x : D) : dle x x = True := eq_true (dle_refl x)
attribute [go_sem] dle_self
attribute [go_sem] kill_def killLeaf delTk kill_D kill_rI
end Go.PS
set_option linter.unusedSimpArgs false
set_option linter.unusedVariables false
namespace Go.Proofs.YtojgjdcciojpeaaGreat
open Go Go.PS
set_option maxRecDepth 100000
set_option maxHeartbeats 4000000
/-! Pins: what the program's functions compute. -/
structure Pn where
  f : Int
  t : Int
  w : Int
  deriving DecidableEq, Inhabited
def Pn.d (p : Pn) : D := .agg [.int .i64 p.f, .int .i64 p.t, .int .i64 p.w]
theorem pn_get {l : List Pn} {i : Nat} (h : i < l.length) : (List.map Pn.d l).getD i .nilp = .agg [.int .i64 (l.getD i default).f, .int .i64 (l.getD i default).t, .int .i64 (l.getD i default).w] := by simp [h, Pn.d]
def Pn.sm (p : Pn) : Prop := -1000000 ≤ p.f ∧ p.f ≤ 1000000 ∧ -1000000 ≤ p.t ∧ p.t ≤ 1000000
def pnOk (l : List Pn) : Prop := l.length ≤ 1000 ∧ ∀ p ∈ l, p.sm
theorem pn_at {l : List Pn} (h : pnOk l) {i : Nat} (hi : i < l.length) : (l.getD i default).sm := by
  have e : l.getD i default = l[i] := by simp [hi]
  rw [e]; exact h.2 _ (List.getElem_mem hi)
def badP (n e : Int) (p : Pn) : Bool := (decide (p.f < e) || decide (p.t ≤ p.f) || decide (n < p.t)) || (decide (p.w < -1) || decide (200 ≤ p.w))
def pvTo (n : Int) : List Pn → Int → Bool
  | [], _ => true
  | p :: r, e => !badP n e p && pvTo n r p.t
def pvB (l : List Pn) (n : Int) : Bool := decide (0 ≤ n) && decide (n ≤ 40) && pvTo n l 0
theorem pv_drop (n : Int) {l : List Pn} {i : Nat} (h : i < l.length) (e : Int) : pvTo n (l.drop i) e = (!badP n e (l.getD i default) && pvTo n (l.drop (i + 1)) (l.getD i default).t) := by
  have e1 : l.getD i default = l[i] := by simp [h]
  rw [List.drop_eq_getElem_cons h, e1]; rfl
theorem pv_out {l : List Pn} {n : Int} (h : n < 0 ∨ 40 < n) : pvB l n = false := by
  unfold pvB
  rcases h with h | h
  · rw [decide_eq_false (show ¬ 0 ≤ n by omega)]; rfl
  · rw [decide_eq_false (show ¬ n ≤ 40 by omega), Bool.and_false]; rfl
theorem pv_in {l : List Pn} {n : Int} (h1 : ¬ n < 0) (h2 : ¬ 40 < n) : pvB l n = pvTo n l 0 := by
  unfold pvB
  rw [decide_eq_true (show 0 ≤ n by omega), decide_eq_true (show n ≤ 40 by omega)]; rfl
theorem pvalid80 (l : List Pn) (n : Int) (hl : l.length ≤ 1000) : PCall Tryz.prog 80 [.sl 3 (l.map Pn.d), .int .i64 n] (.bool (pvB l n)) := by
  by_cases hn : n < 0 ∨ 40 < n
  · have c : (decide (n < 0) || decide (40 < n)) = true := by simpa using hn
    have hr := pv_out (l := l) hn
    refine enterP tabOk Tryz.func80 48 [0, 1, 4, 5, 7, 13, 14, 15, 16, 17, 36, 44] [.tmp 4] rfl (r := [_]) rfl (h := ?_); intro E hK; simp only [go_sem]
    refine wgoF (@c) ?_
    exact wretF (@hr)
  · have c1 : ¬ n < 0 := fun h => hn (.inl h)
    have c2 : ¬ 40 < n := fun h => hn (.inr h)
    have hr := pv_in (l := l) c1 c2
    rw [hr]
    refine enterP tabOk Tryz.func80 48 [0, 1, 4, 5, 7, 13, 14, 15, 16, 17, 36, 44] [.tmp 4] rfl (r := [_]) rfl (h := ?_); intro E hK; simp only [go_sem]
    refine wgoF (And.intro (@c1) (@c2)) ?_
    refine wlp (Run.loopC (ι := { x : Nat × Int // x.1 ≤ l.length ∧ pvTo n (l.drop x.1) x.2 = pvTo n l 0 }) (U := fun x => [(5, .d (.int .i64 x.1.2)), (16, .d (.int .i64 x.1.1))]) (O := fun i => []) (K := fun _ => []) (μ := fun x => l.length - x.1.1) (i0 := ⟨(0, 0), by omega, rfl⟩)) ?_
    rintro ⟨⟨i, e⟩, hi, hp⟩ ih
    dsimp only at hi hp
    by_cases hlt : i < l.length
    · have h1 : (i : Int) < l.length := by omega
      have hget := pn_get hlt
      rw [pv_drop n hlt] at hp
      generalize l.getD i default = p at hget hp
      unfold badP at hp
      cases d1 : (decide (p.f < e) || decide (p.t ≤ p.f) || decide (n < p.t)) with
      | true =>
        rw [d1] at hp
        have hp2 : pvTo n l 0 = false := hp.symm
        simp only [go_sem]
        refine wgoF (And.intro (@h1) (And.intro (@hget) (@d1))) ?_
        exact wretF (@hp2)
      | false =>
        rw [d1] at hp
        cases d2 : (decide (p.w < -1) || decide (200 ≤ p.w)) with
        | true =>
          rw [d2] at hp
          have hp2 : pvTo n l 0 = false := hp.symm
          simp only [go_sem]
          refine wgoF (And.intro (@h1) (And.intro (@hget) (And.intro (@d1) (@d2)))) ?_
          exact wretF (@hp2)
        | false =>
          rw [d2] at hp
          simp only [go_sem]
          refine wgoF (And.intro (@h1) (And.intro (@hget) (And.intro (@d1) (@d2)))) ?_
          exact wnxt (ih ⟨(i + 1, p.t), by omega, by rw [← hp]; simp⟩)
    · have h1 : ¬ (i : Int) < l.length := by omega
      have hp2 : pvTo n l 0 = true := by rw [← hp, List.drop_eq_nil_of_le (by omega)]; rfl
      simp only [go_sem]
      refine wgoF (@h1) ?_
      exact wretF (@hp2)
theorem pvalid56 (l : List Pn) (n : Int) (hl : l.length ≤ 1000) : PCall Tryz.prog 56 [.sl 3 (l.map Pn.d), .int .i64 n] (.bool (pvB l n)) := by
  by_cases hn : n < 0 ∨ 40 < n
  · have c : (decide (n < 0) || decide (40 < n)) = true := by simpa using hn
    have hr := pv_out (l := l) hn
    refine enterP tabOk Tryz.func56 80 [0, 1, 4, 5, 11, 15, 79] [.tmp 4] rfl (r := [_]) rfl (h := ?_); intro E hK; simp only [go_sem]
    refine wgoF (@c) ?_
    exact wretF (@hr)
  · have c1 : ¬ n < 0 := fun h => hn (.inl h)
    have c2 : ¬ 40 < n := fun h => hn (.inr h)
    have hr := pv_in (l := l) c1 c2
    rw [hr]
    refine enterP tabOk Tryz.func56 80 [0, 1, 4, 5, 11, 15, 79] [.tmp 4] rfl (r := [_]) rfl (h := ?_); intro E hK; simp only [go_sem]
    refine wgoF (And.intro (@c1) (@c2)) ?_
    refine wlp (Run.loopC (ι := { x : Nat × Int // x.1 ≤ l.length ∧ 0 ≤ x.2 ∧ (x.1 = 0 → x.2 = 0) ∧ (∀ j, x.1 = j + 1 → x.2 = (l.getD j default).t) ∧ pvTo n (l.drop x.1) x.2 = pvTo n l 0 }) (U := fun x => [(5, .d (.int .i64 x.1.1))]) (O := fun i => []) (K := fun _ => []) (μ := fun x => l.length - x.1.1) (i0 := ⟨(0, 0), by omega, by omega, fun _ => rfl, fun j h => by simp at h, rfl⟩)) ?_
    rintro ⟨⟨i, e⟩, hi, he, he0, hej, hp⟩ ih
    dsimp only at hi he he0 hej hp
    by_cases hlt : i < l.length
    · have h1 : (i : Int) < l.length := by omega
      have hget := pn_get hlt
      rw [pv_drop n hlt] at hp
      have hbad : badP n e (l.getD i default) = true → pvTo n l 0 = false := fun h => by rw [← hp, h]; rfl
      have hgood : badP n e (l.getD i default) = false → pvTo n (l.drop (i + 1)) (l.getD i default).t = pvTo n l 0 := fun h => by rw [← hp, h]; simp
      have hfin : ∀ j, i + 1 = j + 1 → (l.getD i default).t = (l.getD j default).t := fun j h => by rw [show j = i by omega]
      cases d1 : ((((decide ((l.getD i default).f < 0) || decide ((l.getD i default).t ≤ (l.getD i default).f)) || decide (n < (l.getD i default).t)) || decide ((l.getD i default).w < -1)) || decide (200 ≤ (l.getD i default).w)) with
      | true =>
        have hp2 := hbad (by
          simp only [Bool.or_eq_true, decide_eq_true_eq] at d1
          unfold badP
          simp only [Bool.or_eq_true, decide_eq_true_eq]
          omega)
        generalize l.getD i default = p at hget d1
        simp only [go_sem]
        refine wgoF (And.intro (@h1) (And.intro (@hget) (@d1))) ?_
        exact wretF (@hp2)
      | false =>
        have d2 := d1
        simp only [Bool.or_eq_false_iff, decide_eq_false_iff_not] at d2
        obtain ⟨⟨⟨⟨q1, q2⟩, q3⟩, q4⟩, q5⟩ := d2
        cases i with
        | zero =>
          have z1 : ¬ (0 : Int) < ((0 : Nat) : Int) := by omega
          have z3 : ¬ (0 : Int) < 0 := by omega
          have z4 : (0 : Int) < l.length := by omega
          have he1 := he0 rfl
          have hg := hgood (by
            unfold badP
            rw [he1]
            simp only [Bool.or_eq_false_iff, decide_eq_false_iff_not]
            exact ⟨⟨⟨q1, q2⟩, q3⟩, q4, q5⟩)
          have ht : 0 ≤ (l.getD 0 default).t := by omega
          generalize hpp : l.getD 0 default = p at hget d1 hg q1 q2 q3 q4 q5 ht
          simp only [go_sem]
          refine wgoF (And.intro (@h1) (And.intro (@hget) (And.intro (@q1) (And.intro (@q2) (And.intro (@q3) (And.intro (@q4) (And.intro (@q5) (And.intro (@z1) (And.intro (@z3) (@z4)))))))))) ?_
          exact wnxt (ih ⟨(0 + 1, p.t), by omega, ht, by simp, by intro j hj; rw [show j = 0 by omega, hpp], hg⟩)
        | succ j =>
          have z1 : (0 : Int) < ((j + 1 : Nat) : Int) := by omega
          have z2 : (((j + 1 : Nat) : Int) - 1).toNat = j := by omega
          have hgj := pn_get (show j < l.length by omega)
          have he1 := hej j rfl
          have ht : 0 ≤ (l.getD (j + 1) default).t := by omega
          by_cases q6 : (l.getD (j + 1) default).f < (l.getD j default).t
          · have hp2 := hbad (by
              unfold badP
              rw [he1, decide_eq_true q6]; rfl)
            generalize l.getD (j + 1) default = p at hget d1 q1 q2 q3 q4 q5 q6
            generalize l.getD j default = p' at hgj q6
            simp only [go_sem]
            refine wgoF (And.intro (@h1) (And.intro (@hget) (And.intro (@hgj) (And.intro (@q1) (And.intro (@q2) (And.intro (@q3) (And.intro (@q4) (And.intro (@q5) (And.intro (@q6) (And.intro (@z1) (@z2))))))))))) ?_
            exact wretF (@hp2)
          · have hg := hgood (by
              unfold badP
              rw [he1]
              simp only [Bool.or_eq_false_iff, decide_eq_false_iff_not]
              exact ⟨⟨⟨q6, q2⟩, q3⟩, q4, q5⟩)
            generalize hpp : l.getD (j + 1) default = p at hget d1 hg q1 q2 q3 q4 q5 q6 ht
            generalize l.getD j default = p' at hgj q6
            simp only [go_sem]
            refine wgoF (And.intro (@h1) (And.intro (@hget) (And.intro (@hgj) (And.intro (@q1) (And.intro (@q2) (And.intro (@q3) (And.intro (@q4) (And.intro (@q5) (And.intro (@q6) (And.intro (@z1) (@z2))))))))))) ?_
            exact wnxt (ih ⟨(j + 1 + 1, p.t), by omega, ht, by simp, by intro j' hj; rw [show j' = j + 1 by omega, hpp], hg⟩)
    · have h1 : ¬ (i : Int) < l.length := by omega
      have hp2 : pvTo n l 0 = true := by rw [← hp, List.drop_eq_nil_of_le (by omega)]; rfl
      simp only [go_sem]
      refine wgoF (@h1) ?_
      exact wretF (@hp2)
/-! Choosing pins. -/
def Pn.c (p : Pn) : List D := [.int .i64 p.f, .int .i64 p.t, .int .i64 p.w]
theorem broken160 (g : Nat) (cp : D) (p : Pn) (b : Bool) (hq : PCall Tryz.prog g [p.d, cp] (.bool b)) : PCall Tryz.prog 160 [.fn (.func g) [] [cp], .ref p.c] (.bool (!b)) := by
  refine enterP tabOk Tryz.func160 8 [0, 1, 3] [.tmp 3] rfl (r := [_]) rfl (h := ?_); intro E hK; simp only [go_sem]
  refine wgoF (@Pn.c.eq_1) ?_
  refine wcallF (hq) (@Pn.d.eq_1) ?_
  refine wgo ?_
  exact wret
theorem idx175 (g : Nat) (cp : D) (p : Pn) (b : Bool) (hq : PCall Tryz.prog g [p.d, cp] (.bool b)) : PCall Tryz.prog 175 [.sl 1 [.fn (.func g) [] [cp]], .fn (.func 160) [] [.ref p.c]] (.int .i64 (if b = true then -1 else 0)) := by
  have hb := broken160 g cp p b hq
  refine enterP tabOk Tryz.func175 19 [0, 1, 4, 5, 7, 8, 9, 16] [.tmp 4] rfl (r := [_]) rfl (h := ?_); intro E hK; simp only [go_sem]
  refine wgo ?_
  refine wlp (Run.loopC (ι := { i : Nat // i ≤ 1 ∧ (i = 1 → b = true) }) (U := fun i => [(8, .d (.int .i64 i.1))]) (O := fun i => []) (K := fun _ => []) (μ := fun i => 1 - i.1) (i0 := ⟨0, by omega, fun h => by simp at h⟩)) ?_
  rintro ⟨i, hi, hb1⟩ ih
  by_cases h0 : i = 0
  · subst h0
    have z : (0 : Int) < 1 := by omega
    cases b with
    | true =>
      simp only [go_sem]
      refine wgoF (@z) ?_
      refine wcall (hb) ?_
      refine wgo ?_
      exact wnxt (ih ⟨1, by omega, fun _ => rfl⟩)
    | false =>
      have zz : ((0 : Nat) : Int) = 0 := rfl
      simp only [go_sem]
      refine wgoF (@z) ?_
      refine wcall (hb) ?_
      refine wgo ?_
      exact wretF (@zz)
  · have h1 : i = 1 := by omega
    subst h1
    have hbt := hb1 rfl
    subst hbt
    have z : ¬ (1 : Int) < 1 := by omega
    simp only [go_sem]
    refine wgoF (@z) ?_
    exact wret
theorem cont161 (g : Nat) (cp : D) (p : Pn) (b : Bool) (hq : PCall Tryz.prog g [p.d, cp] (.bool b)) : PCall Tryz.prog 161 [.sl 1 [.fn (.func g) [] [cp]], .fn (.func 160) [] [.ref p.c]] (.bool (!b)) := by
  have hi := idx175 g cp p b hq
  cases b with
  | true =>
    have z : ¬ (0 : Int) ≤ -1 := by omega
    refine enterP tabOk Tryz.func161 9 [0, 1, 4] [.tmp 4] rfl (r := [_]) rfl (h := ?_); intro E hK; simp only [go_sem]
    refine wgo ?_
    refine wcall (hi) ?_
    refine wgoF (@z) ?_
    exact wret
  | false =>
    have z : (0 : Int) ≤ 0 := by omega
    refine enterP tabOk Tryz.func161 9 [0, 1, 4] [.tmp 4] rfl (r := [_]) rfl (h := ?_); intro E hK; simp only [go_sem]
    refine wgo ?_
    refine wcall (hi) ?_
    refine wgoF (@z) ?_
    exact wret
def fltTo (q : Pn → Bool) (l : List Pn) (i : Nat) : List Pn := (l.take i).filter q
theorem flt_in (q : Pn → Bool) {l : List Pn} {i : Nat} (h : i < l.length) (hb : q (l.getD i default) = true) : fltTo q l (i + 1) = fltTo q l i ++ [l.getD i default] := by
  have e : l.getD i default = l[i] := by simp [h]
  unfold fltTo
  rw [List.take_succ_eq_append_getElem h, List.filter_append, ← e]
  generalize l.getD i default = c at hb
  simp [hb]
theorem flt_out (q : Pn → Bool) {l : List Pn} {i : Nat} (h : i < l.length) (hb : q (l.getD i default) = false) : fltTo q l (i + 1) = fltTo q l i := by
  have e : l.getD i default = l[i] := by simp [h]
  unfold fltTo
  rw [List.take_succ_eq_append_getElem h, List.filter_append, ← e]
  generalize l.getD i default = c at hb
  simp [hb]
theorem flt_len (q : Pn → Bool) (l : List Pn) (i : Nat) : (fltTo q l i).length ≤ l.length := by
  have := List.length_filter_le q (l.take i)
  unfold fltTo
  rw [List.length_take] at this
  omega
theorem choose143 (g : Nat) (cp : D) (q : Pn → Bool) (l : List Pn) (hl : l.length ≤ 1000) (hq : ∀ p ∈ l, PCall Tryz.prog g [p.d, cp] (.bool (q p))) :
    PCall Tryz.prog 143 [.sl 3 (l.map Pn.d), .sl 1 [.fn (.func g) [] [cp]]] (.sl 3 ((l.filter q).map Pn.d)) := by
  have z0 : fltTo q l 0 = [] := rfl
  refine enterP tabOk Tryz.func143 26 [0, 1, 4, 5, 7, 8, 9, 10, 11, 12, 19] [.tmp 4] rfl (r := [_]) rfl (h := ?_); intro E hK; simp only [go_sem]
  refine wgo ?_
  (apply Run.full 5 1005 101 3; (case hi => simp only [go_sem]; rfl); (case ht => simp only [go_sem]); (case hmn => first | exact Or.inl (by decide) | exact Or.inr rfl); (case hs => simp only [go_sem]; rfl))
  refine wlpF (Run.loopC (ι := { i : Nat // i ≤ l.length }) (U := fun i => [(5, .own 3 ((fltTo q l i.1).map Pn.d) (.tok 1005)), (11, .d (.int .i64 i.1))]) (O := fun i => []) (K := fun _ => [(1005, .live 101 3)]) (μ := fun i => l.length - i.1) (i0 := ⟨0, by omega⟩)) (@z0) ?_
  rintro ⟨i, hi⟩ ih
  have hfl := flt_len q l i
  by_cases hlt : i < l.length
  · have h1 : (i : Int) < l.length := by omega
    have hget := pn_get hlt
    have e : l.getD i default = l[i] := by simp [hlt]
    have hqp := hq (l.getD i default) (by rw [e]; exact List.getElem_mem hlt)
    have hin := flt_in q hlt
    have hout := flt_out q hlt
    generalize l.getD i default = p at hget hqp hin hout
    have hc := cont161 g cp p (q p) hqp
    cases hb : q p with
    | true =>
      have hst := hin hb
      rw [hb] at hc
      simp only [go_sem]
      refine woneF (@h1) ?_
      refine woneF (And.intro (@h1) (@hget)) ?_
      (apply Run.freeze 7; (case ho => simp only [go_sem]; rfl); (case hes => simp only [go_sem]; rfl); (case hds => simp only [go_sem]); (case hsz => simp [D.cells]); (case hit => rfl); (case hs => simp only [go_sem]; rfl))
      refine wgo ?_
      refine wcallF (hc) (@Pn.c.eq_1) ?_
      refine wgo ?_
      (apply Run.retok 23 1005; (case hk => simp only [go_sem]; rfl); (case ht => simp only [go_sem]; rfl); (case ht' => simp only [go_sem]); (case hs => simp only [go_sem]; rfl))
      exact wnxtF (ih ⟨i + 1, by omega⟩) (And.intro (@hst) (@Pn.d.eq_1))
    | false =>
      have hst := hout hb
      rw [hb] at hc
      simp only [go_sem]
      refine woneF (@h1) ?_
      refine woneF (And.intro (@h1) (@hget)) ?_
      (apply Run.freeze 7; (case ho => simp only [go_sem]; rfl); (case hes => simp only [go_sem]; rfl); (case hds => simp only [go_sem]); (case hsz => simp [D.cells]); (case hit => rfl); (case hs => simp only [go_sem]; rfl))
      refine wgo ?_
      refine wcallF (hc) (@Pn.c.eq_1) ?_
      refine wgo ?_
      exact wnxtF (ih ⟨i + 1, by omega⟩) (@hst)
  · have h1 : ¬ (i : Int) < l.length := by omega
    have hf : fltTo q l i = l.filter q := by unfold fltTo; rw [List.take_of_length_le (by omega)]
    simp only [go_sem, hf]
    refine wgoF (@h1) ?_
    exact wret
end Go.Proofs.YtojgjdcciojpeaaGreat
set_option linter.unusedSimpArgs false
set_option linter.unusedVariables false
namespace Go.Proofs.YtojgjdcciojpeaaGreat
open Go Go.PS
set_option maxRecDepth 100000
set_option maxHeartbeats 4000000
theorem pn_dry (l : List Pn) : ∀ x ∈ l.map Pn.d, x.cells.all D.dry = true := fun x hx => by
  obtain ⟨c, _, rfl⟩ := List.mem_map.1 hx
  rfl
theorem pn_cells (l : List Pn) : ∀ x ∈ l.map Pn.d, x.cells.length = 3 := fun x hx => by
  obtain ⟨c, _, rfl⟩ := List.mem_map.1 hx
  rfl
theorem choose143o (g : Nat) (cp : D) (q : Pn → Bool) (l : List Pn) (hl : l.length ≤ 1000) (hq : ∀ p ∈ l, PCall Tryz.prog g [p.d, cp] (.bool (q p))) (hne : l.filter q ≠ []) :
    OCall Tryz.prog 143 [.sl 3 (l.map Pn.d), .sl 1 [.fn (.func g) [] [cp]]] 101 3 ((l.filter q).map Pn.d) := by
  have z0 : fltTo q l 0 = [] := rfl
  refine enterO tabOk Tryz.func143 26 [0, 1, 4, 5, 7, 8, 9, 10, 11, 12, 19] [.tmp 4] rfl (r := []) rfl (h := ?_); intro E hK; simp only [go_sem]
  refine wgo ?_
  (apply Run.full 5 1005 101 1000003; (case hi => simp only [go_sem]; rfl); (case ht => simp only [go_sem]); (case hmn => first | exact Or.inl (by decide) | exact Or.inr rfl); (case hs => simp only [go_sem]; rfl))
  refine wlpF (Run.loopC (ι := { i : Nat // i ≤ l.length }) (U := fun i => [(5, .own 3 ((fltTo q l i.1).map Pn.d) (.tok 1005)), (11, .d (.int .i64 i.1))]) (O := fun i => []) (K := fun _ => [(1005, .live 101 1000003)]) (μ := fun i => l.length - i.1) (i0 := ⟨0, by omega⟩)) (@z0) ?_
  rintro ⟨i, hi⟩ ih
  have hfl := flt_len q l i
  by_cases hlt : i < l.length
  · have h1 : (i : Int) < l.length := by omega
    have hget := pn_get hlt
    have e : l.getD i default = l[i] := by simp [hlt]
    have hqp := hq (l.getD i default) (by rw [e]; exact List.getElem_mem hlt)
    have hin := flt_in q hlt
    have hout := flt_out q hlt
    generalize l.getD i default = p at hget hqp hin hout
    have hc := cont161 g cp p (q p) hqp
    cases hb : q p with
    | true =>
      have hst := hin hb
      rw [hb] at hc
      simp only [go_sem]
      refine woneF (@h1) ?_
      refine woneF (And.intro (@h1) (@hget)) ?_
      (apply Run.freeze 7; (case ho => simp only [go_sem]; rfl); (case hes => simp only [go_sem]; rfl); (case hds => simp only [go_sem]); (case hsz => simp [D.cells]); (case hit => rfl); (case hs => simp only [go_sem]; rfl))
      refine wgo ?_
      refine wcallF (hc) (@Pn.c.eq_1) ?_
      refine wgo ?_
      (apply Run.retok 23 1005; (case hk => simp only [go_sem]; rfl); (case ht => simp only [go_sem]; rfl); (case ht' => simp only [go_sem]); (case hs => simp only [go_sem]; rfl))
      exact wnxtF (ih ⟨i + 1, by omega⟩) (And.intro (@hst) (@Pn.d.eq_1))
    | false =>
      have hst := hout hb
      rw [hb] at hc
      simp only [go_sem]
      refine woneF (@h1) ?_
      refine woneF (And.intro (@h1) (@hget)) ?_
      (apply Run.freeze 7; (case ho => simp only [go_sem]; rfl); (case hes => simp only [go_sem]; rfl); (case hds => simp only [go_sem]); (case hsz => simp [D.cells]); (case hit => rfl); (case hs => simp only [go_sem]; rfl))
      refine wgo ?_
      refine wcallF (hc) (@Pn.c.eq_1) ?_
      refine wgo ?_
      exact wnxtF (ih ⟨i + 1, by omega⟩) (@hst)
  · have h1 : ¬ (i : Int) < l.length := by omega
    have hf : fltTo q l i = l.filter q := by unfold fltTo; rw [List.take_of_length_le (by omega)]
    have hxs : (l.filter q).map Pn.d ≠ [] := fun h => hne (by simpa using h)
    have hdry := pn_dry (l.filter q)
    simp only [go_sem, hf]
    (apply Run.thaw 5 1005 200 (hxs := hxs) (hdry := hdry); (case hi => simp only [go_sem]; rfl); (case ht => simp only [go_sem]; rfl); (case hls => decide); (case hsz => rfl); (case hid => decide); (case hob => simp only [go_sem]); (case he => rfl); (case hs => simp only [go_sem]; rfl))
    refine wgoF (@h1) ?_
    ((first | apply ret_runO | apply ret_runO0); (case h => assumption); (case ht => first | (simp only [go_sem]; done) | (simp only [go_sem]; rfl)); (case ho => first | (simp only [go_sem]; done) | (simp only [go_sem]; rfl)))
/-! The conditions. -/
def kI (at' : Int) (p : Pn) : Bool := decide (at' ≤ p.f) || decide (p.t ≤ at')
def kD (at' : Int) (p : Pn) : Bool := decide (at' < p.f) || decide (p.t ≤ at')
def kB (o p : Pn) : Bool := decide (p.t ≤ o.f)
def kA (o p : Pn) : Bool := decide (o.t ≤ p.f)
theorem cl159 (at' : Int) (p : Pn) : PCall Tryz.prog 159 [p.d, .ref [.int .i64 at']] (.bool (kI at' p)) := by
  refine enterP tabOk Tryz.func159 14 [0, 1, 2, 3] [.tmp 3] rfl (r := [_]) rfl (h := ?_); intro E hK; simp only [go_sem]
  refine wgoF (@Pn.d.eq_1) ?_
  exact wretF (@kI.eq_1)
theorem cl144 (at' : Int) (p : Pn) : PCall Tryz.prog 144 [p.d, .ref [.int .i64 at']] (.bool (kD at' p)) := by
  refine enterP tabOk Tryz.func144 14 [0, 1, 2, 3] [.tmp 3] rfl (r := [_]) rfl (h := ?_); intro E hK; simp only [go_sem]
  refine wgoF (@Pn.d.eq_1) ?_
  exact wretF (@kD.eq_1)
theorem cl145 (o p : Pn) : PCall Tryz.prog 145 [p.d, .ref o.c] (.bool (kB o p)) := by
  refine enterP tabOk Tryz.func145 9 [0, 1, 2, 3] [.tmp 3] rfl (r := [_]) rfl (h := ?_); intro E hK; simp only [go_sem]
  refine wgoF (And.intro (@Pn.d.eq_1) (@Pn.c.eq_1)) ?_
  exact wretF (@kB.eq_1)
theorem cl146 (o p : Pn) : PCall Tryz.prog 146 [p.d, .ref o.c] (.bool (kA o p)) := by
  refine enterP tabOk Tryz.func146 9 [0, 1, 2, 3] [.tmp 3] rfl (r := [_]) rfl (h := ?_); intro E hK; simp only [go_sem]
  refine wgoF (And.intro (@Pn.d.eq_1) (@Pn.c.eq_1)) ?_
  exact wretF (@kA.eq_1)
/-! Moving pins. -/
def shI (at' : Int) (p : Pn) : Pn := if at' ≤ p.f then ⟨p.f + 1, p.t + 1, p.w⟩ else p
def shD (at' : Int) (p : Pn) : Pn := if at' < p.f then ⟨p.f - 1, p.t - 1, p.w⟩ else p
def insF (l : List Pn) (at' : Int) : List Pn := (l.filter (kI at')).map (shI at')
def delF (l : List Pn) (at' : Int) : List Pn := (l.filter (kD at')).map (shD at')
/-- Some moved, the rest as they were. -/
def mixS (s : Pn → Pn) (l : List Pn) (i : Nat) : List Pn := (l.take i).map s ++ l.drop i
theorem mixS_len (s : Pn → Pn) {l : List Pn} {i : Nat} (h : i ≤ l.length) : (mixS s l i).length = l.length := by simp [mixS]; omega
theorem mixS_get (s : Pn → Pn) {l : List Pn} {i : Nat} (h : i < l.length) : (mixS s l i).getD i default = l.getD i default := by
  have e1 : ((l.take i).map s).length = i := by simp; omega
  have e : l.getD i default = l[i] := by simp [h]
  unfold mixS
  rw [List.drop_eq_getElem_cons h, e, List.getD_eq_getElem?_getD, List.getElem?_append_right (by omega), e1, Nat.sub_self]
  rfl
theorem mixS_step (s : Pn → Pn) {l : List Pn} {i : Nat} (h : i < l.length) : mixS s l (i + 1) = (mixS s l i).set i (s (l.getD i default)) := by
  have e1 : ((l.take i).map s).length = i := by simp; omega
  have e : l.getD i default = l[i] := by simp [h]
  unfold mixS
  have hd := List.drop_eq_getElem_cons h
  rw [List.take_succ_eq_append_getElem h, e, List.map_append, List.set_append_right _ _ (by omega), e1, Nat.sub_self, hd, List.append_assoc]
  rfl
theorem mixS_same (s : Pn → Pn) {l : List Pn} {i : Nat} (h : i < l.length) (hs : s (l.getD i default) = l.getD i default) : mixS s l (i + 1) = mixS s l i := by
  rw [mixS_step s h, hs, ← mixS_get s h]
  have hl : i < (mixS s l i).length := by rw [mixS_len s (by omega)]; exact h
  have e : (mixS s l i).getD i default = (mixS s l i)[i] := by simp [hl]
  rw [e]
  exact List.set_getElem_self hl
def pE (l : List Pn) : List PV := List.map PV.ofD.PV.ofD1 (List.map Pn.d l)
theorem pE_len (l : List Pn) : (pE l).length = l.length := by simp [pE]
theorem pE_get {l : List Pn} {i : Nat} (h : i < l.length) : (pE l).getD i .any = .agg [.d (.int .i64 (l.getD i default).f), .d (.int .i64 (l.getD i default).t), .d (.int .i64 (l.getD i default).w)] := by simp [pE, h, Pn.d, PV.ofD.PV.ofD1]
theorem pE_set (l : List Pn) (i : Nat) (a b c : Int) : (pE l).set i (.agg [.d (.int .i64 a), .d (.int .i64 b), .d (.int .i64 c)]) = pE (l.set i ⟨a, b, c⟩) := by
  simp [pE, List.map_set, Pn.d, PV.ofD.PV.ofD1]
theorem pE_fold (l : List Pn) : List.map PV.ofD.PV.ofD1 (List.map Pn.d l) = pE l := rfl
theorem set_get {l : List Pn} {i : Nat} (h : i < l.length) (p : Pn) : (l.set i p).getD i default = p := by simp [h]
theorem leE_pE {ob tk} (l : List Pn) : leElems ob tk (pE l) (pE l) = True := leElems_D _
end Go.Proofs.YtojgjdcciojpeaaGreat
set_option linter.unusedSimpArgs false
set_option linter.unusedVariables false
namespace Go.Proofs.YtojgjdcciojpeaaGreat
open Go Go.PS
set_option maxRecDepth 100000
set_option maxHeartbeats 4000000
theorem insert142 (l : List Pn) (at' : Int) (hl : pnOk l) : PCall Tryz.prog 142 [.sl 3 (l.map Pn.d), .int .i64 at'] (.sl 3 ((insF l at').map Pn.d)) := by
  have hll := hl.1
  by_cases h0 : l.filter (kI at') = []
  · have hr : insF l at' = [] := by unfold insF; rw [h0]; rfl
    have hc := choose143 159 (.ref [.int .i64 at']) (kI at') l hl.1 (fun p _ => cl159 at' p)
    rw [h0] at hc
    have z : ¬ ((0 : Nat) : Int) < ((0 : Nat) : Int) := by omega
    have z2 : ¬ (0 : Int) < 0 := by omega
    refine enterP tabOk Tryz.func142 41 [0, 1, 3, 4, 5, 6, 7, 12, 13, 14, 15, 22] [.tmp 4] rfl (r := [_]) rfl (h := ?_); intro E hK; simp only [go_sem]
    refine wone ?_
    (apply Run.freeze 3; (case ho => simp only [go_sem]; rfl); (case hes => simp only [go_sem]; rfl); (case hds => simp only [go_sem]); (case hsz => simp [D.cells]); (case hit => rfl); (case hs => simp only [go_sem]; rfl))
    refine wgo ?_
    refine wcall (hc) ?_
    refine wgo ?_
    refine run_loop ?_
    refine wgoF (And.intro (@z) (@z2)) ?_
    exact wretF (@hr)
  · have hc := choose143o 159 (.ref [.int .i64 at']) (kI at') l hl.1 (fun p _ => cl159 at' p) h0
    have hcl := pn_cells (l.filter (kI at'))
    have hKs : ∀ p ∈ l.filter (kI at'), p.sm := fun p hp => hl.2 p (List.mem_filter.1 hp).1
    have hKl : (l.filter (kI at')).length ≤ 1000 := Nat.le_trans (List.length_filter_le _ _) hl.1
    have hr : insF l at' = (l.filter (kI at')).map (shI at') := rfl
    generalize l.filter (kI at') = K at hc hcl hKs hKl hr
    have m0 : List.map PV.ofD.PV.ofD1 (List.map Pn.d K) = pE (mixS (shI at') K 0) := by simp [pE, mixS]
    refine enterP tabOk Tryz.func142 41 [0, 1, 3, 4, 5, 6, 7, 12, 13, 14, 15, 22] [.tmp 4] rfl (r := [_]) rfl (h := ?_); intro E hK; simp only [go_sem]
    refine wone ?_
    (apply Run.freeze 3; (case ho => simp only [go_sem]; rfl); (case hes => simp only [go_sem]; rfl); (case hds => simp only [go_sem]); (case hsz => simp [D.cells]); (case hit => rfl); (case hs => simp only [go_sem]; rfl))
    refine wgo ?_
    (apply rops_ocall (200) (hcall := (hc)); (case hg => simp only [go_sem]); (case he => simp only [go_sem]; first | exact ⟨rfl, rfl⟩ | rfl); (case hle => first | exact DLeL.refl _ | (refine dleL_leL ?_; simp only [go_sem])); (case hid => simp only [go_sem]); (case hidn => decide); (case hel => exact (hcl)); (case hd => simp only [go_sem]); (case hs => simp only [go_sem]; rfl))
    refine wgo ?_
    refine wlpF (Run.loopC (ι := { i : Nat // i ≤ K.length }) (U := fun i => [(14, .d (.int .i64 i.1))]) (O := fun i => [(200, some ⟨101, 3, pE (mixS (shI at') K i.1)⟩)]) (K := fun _ => []) (μ := fun i => K.length - i.1) (i0 := ⟨0, by omega⟩)) (And.intro (@m0) (And.intro (@pE_len) (@leE_pE))) ?_
    rintro ⟨i, hi⟩ ih
    have hml := mixS_len (shI at') hi
    by_cases hlt : i < K.length
    · have h1 : (i : Int) < K.length := by omega
      have hmi : i < (mixS (shI at') K i).length := by omega
      have hget := pE_get hmi
      have hst := mixS_step (shI at') hlt
      have hsm := mixS_same (shI at') hlt
      rw [mixS_get (shI at') hlt] at hget
      have e : K.getD i default = K[i] := by simp [hlt]
      have hps : (K.getD i default).sm := by rw [e]; exact hKs _ (List.getElem_mem hlt)
      generalize K.getD i default = p at hget hst hsm hps
      generalize mixS (shI at') K i = m at hml hmi hget hst hsm
      obtain ⟨b1, b2, b3, b4⟩ := hps
      by_cases hf : at' ≤ p.f
      · have hs1 : shI at' p = ⟨p.f + 1, p.t + 1, p.w⟩ := if_pos hf
        rw [hs1] at hst
        have g1 := pE_get (l := m.set i ⟨p.f + 1, p.t, p.w⟩) (i := i) (by simpa using hmi)
        rw [set_get hmi] at g1
        have g2 : (m.set i ⟨p.f + 1, p.t, p.w⟩).set i ⟨p.f + 1, p.t + 1, p.w⟩ = m.set i ⟨p.f + 1, p.t + 1, p.w⟩ := by rw [List.set_set]
        have g3 : (m.set i ⟨p.f + 1, p.t, p.w⟩).length = m.length := by simp
        have f1 := pE_set m i
        have f2 := pE_set (m.set i ⟨p.f + 1, p.t, p.w⟩) i
        have mi2 : i < m.length := hmi
        have l1 := pE_len m
        have l2 := pE_len (m.set i ⟨p.f + 1, p.t, p.w⟩)
        have l3 : i < K.length := hlt
        simp only [go_sem]
        refine wgoF (And.intro (@h1) (And.intro (@hget) (And.intro (@hf) (And.intro (@g1) (And.intro (@g3) (And.intro (@f1) (And.intro (@f2) (And.intro (@mi2) (And.intro (@l1) (And.intro (@l2) (And.intro (@hml) (@l3)))))))))))) ?_
        exact wnxtF (ih ⟨i + 1, by omega⟩) (And.intro (@hst) (And.intro (@g2) (@leE_pE)))
      · have hs1 : shI at' p = p := if_neg hf
        have hst2 := hsm hs1
        have l1 := pE_len m
        have l3 : i < K.length := hlt
        simp only [go_sem]
        refine wgoF (And.intro (@h1) (And.intro (@hget) (And.intro (@hf) (And.intro (@l1) (And.intro (@hml) (@l3)))))) ?_
        exact wnxtF (ih ⟨i + 1, by omega⟩) (And.intro (@hst2) (@leE_pE))
    · have h1 : ¬ (i : Int) < K.length := by omega
      have hm : mixS (shI at') K i = K.map (shI at') := by unfold mixS; rw [List.take_of_length_le (by omega), List.drop_eq_nil_of_le (by omega), List.append_nil]
      have he1 : (List.map (shI at') K).length = K.length := by simp
      have he2 : List.take K.length (List.map Pn.d (List.map (shI at') K)) = List.map Pn.d (List.map (shI at') K) := List.take_of_length_le (by simp)
      have he3 : K.length ≤ K.length := Nat.le_refl _
      simp only [go_sem, hm, pE]
      (apply Run.freezeRow 200; (case ho => simp only [go_sem]; rfl); (case hsz => intro e he; obtain ⟨x, _, rfl⟩ := List.mem_map.1 he; rfl); (case hit => rfl); (case hs => simp only [go_sem]; rfl))
      refine wgoF (And.intro (@h1) (And.intro (@he1) (And.intro (@he2) (@he3)))) ?_
      exact wretF (@hr)
end Go.Proofs.YtojgjdcciojpeaaGreat
set_option linter.unusedSimpArgs false
set_option linter.unusedVariables false
namespace Go.Proofs.YtojgjdcciojpeaaGreat
open Go Go.PS
set_option maxRecDepth 100000
set_option maxHeartbeats 4000000
theorem delete119 (l : List Pn) (at' : Int) (hl : pnOk l) : PCall Tryz.prog 119 [.sl 3 (l.map Pn.d), .int .i64 at'] (.sl 3 ((delF l at').map Pn.d)) := by
  have hll := hl.1
  by_cases h0 : l.filter (kD at') = []
  · have hr : delF l at' = [] := by unfold delF; rw [h0]; rfl
    have hc := choose143 144 (.ref [.int .i64 at']) (kD at') l hl.1 (fun p _ => cl144 at' p)
    rw [h0] at hc
    have z : ¬ ((0 : Nat) : Int) < ((0 : Nat) : Int) := by omega
    have z2 : ¬ (0 : Int) < 0 := by omega
    refine enterP tabOk Tryz.func119 41 [0, 1, 3, 4, 5, 6, 7, 12, 13, 14, 15, 22] [.tmp 4] rfl (r := [_]) rfl (h := ?_); intro E hK; simp only [go_sem]
    refine wone ?_
    (apply Run.freeze 3; (case ho => simp only [go_sem]; rfl); (case hes => simp only [go_sem]; rfl); (case hds => simp only [go_sem]); (case hsz => simp [D.cells]); (case hit => rfl); (case hs => simp only [go_sem]; rfl))
    refine wgo ?_
    refine wcall (hc) ?_
    refine wgo ?_
    refine run_loop ?_
    refine wgoF (And.intro (@z) (@z2)) ?_
    exact wretF (@hr)
  · have hc := choose143o 144 (.ref [.int .i64 at']) (kD at') l hl.1 (fun p _ => cl144 at' p) h0
    have hcl := pn_cells (l.filter (kD at'))
    have hKs : ∀ p ∈ l.filter (kD at'), p.sm := fun p hp => hl.2 p (List.mem_filter.1 hp).1
    have hKl : (l.filter (kD at')).length ≤ 1000 := Nat.le_trans (List.length_filter_le _ _) hl.1
    have hr : delF l at' = (l.filter (kD at')).map (shD at') := rfl
    generalize l.filter (kD at') = K at hc hcl hKs hKl hr
    have m0 : List.map PV.ofD.PV.ofD1 (List.map Pn.d K) = pE (mixS (shD at') K 0) := by simp [pE, mixS]
    refine enterP tabOk Tryz.func119 41 [0, 1, 3, 4, 5, 6, 7, 12, 13, 14, 15, 22] [.tmp 4] rfl (r := [_]) rfl (h := ?_); intro E hK; simp only [go_sem]
    refine wone ?_
    (apply Run.freeze 3; (case ho => simp only [go_sem]; rfl); (case hes => simp only [go_sem]; rfl); (case hds => simp only [go_sem]); (case hsz => simp [D.cells]); (case hit => rfl); (case hs => simp only [go_sem]; rfl))
    refine wgo ?_
    (apply rops_ocall (200) (hcall := (hc)); (case hg => simp only [go_sem]); (case he => simp only [go_sem]; first | exact ⟨rfl, rfl⟩ | rfl); (case hle => first | exact DLeL.refl _ | (refine dleL_leL ?_; simp only [go_sem])); (case hid => simp only [go_sem]); (case hidn => decide); (case hel => exact (hcl)); (case hd => simp only [go_sem]); (case hs => simp only [go_sem]; rfl))
    refine wgo ?_
    refine wlpF (Run.loopC (ι := { i : Nat // i ≤ K.length }) (U := fun i => [(14, .d (.int .i64 i.1))]) (O := fun i => [(200, some ⟨101, 3, pE (mixS (shD at') K i.1)⟩)]) (K := fun _ => []) (μ := fun i => K.length - i.1) (i0 := ⟨0, by omega⟩)) (And.intro (@m0) (And.intro (@pE_len) (@leE_pE))) ?_
    rintro ⟨i, hi⟩ ih
    have hml := mixS_len (shD at') hi
    by_cases hlt : i < K.length
    · have h1 : (i : Int) < K.length := by omega
      have hmi : i < (mixS (shD at') K i).length := by omega
      have hget := pE_get hmi
      have hst := mixS_step (shD at') hlt
      have hsm := mixS_same (shD at') hlt
      rw [mixS_get (shD at') hlt] at hget
      have e : K.getD i default = K[i] := by simp [hlt]
      have hps : (K.getD i default).sm := by rw [e]; exact hKs _ (List.getElem_mem hlt)
      generalize K.getD i default = p at hget hst hsm hps
      generalize mixS (shD at') K i = m at hml hmi hget hst hsm
      obtain ⟨b1, b2, b3, b4⟩ := hps
      by_cases hf : at' < p.f
      · have hs1 : shD at' p = ⟨p.f - 1, p.t - 1, p.w⟩ := if_pos hf
        rw [hs1] at hst
        have g1 := pE_get (l := m.set i ⟨p.f - 1, p.t, p.w⟩) (i := i) (by simpa using hmi)
        rw [set_get hmi] at g1
        have g2 : (m.set i ⟨p.f - 1, p.t, p.w⟩).set i ⟨p.f - 1, p.t - 1, p.w⟩ = m.set i ⟨p.f - 1, p.t - 1, p.w⟩ := by rw [List.set_set]
        have g3 : (m.set i ⟨p.f - 1, p.t, p.w⟩).length = m.length := by simp
        have f1 := pE_set m i
        have f2 := pE_set (m.set i ⟨p.f - 1, p.t, p.w⟩) i
        have mi2 : i < m.length := hmi
        have l1 := pE_len m
        have l2 := pE_len (m.set i ⟨p.f - 1, p.t, p.w⟩)
        have l3 : i < K.length := hlt
        simp only [go_sem]
        refine wgoF (And.intro (@h1) (And.intro (@hget) (And.intro (@hf) (And.intro (@g1) (And.intro (@g3) (And.intro (@f1) (And.intro (@f2) (And.intro (@mi2) (And.intro (@l1) (And.intro (@l2) (And.intro (@hml) (@l3)))))))))))) ?_
        exact wnxtF (ih ⟨i + 1, by omega⟩) (And.intro (@hst) (And.intro (@g2) (@leE_pE)))
      · have hs1 : shD at' p = p := if_neg hf
        have hst2 := hsm hs1
        have l1 := pE_len m
        have l3 : i < K.length := hlt
        simp only [go_sem]
        refine wgoF (And.intro (@h1) (And.intro (@hget) (And.intro (@hf) (And.intro (@l1) (And.intro (@hml) (@l3)))))) ?_
        exact wnxtF (ih ⟨i + 1, by omega⟩) (And.intro (@hst2) (@leE_pE))
    · have h1 : ¬ (i : Int) < K.length := by omega
      have hm : mixS (shD at') K i = K.map (shD at') := by unfold mixS; rw [List.take_of_length_le (by omega), List.drop_eq_nil_of_le (by omega), List.append_nil]
      have he1 : (List.map (shD at') K).length = K.length := by simp
      have he2 : List.take K.length (List.map Pn.d (List.map (shD at') K)) = List.map Pn.d (List.map (shD at') K) := List.take_of_length_le (by simp)
      have he3 : K.length ≤ K.length := Nat.le_refl _
      simp only [go_sem, hm, pE]
      (apply Run.freezeRow 200; (case ho => simp only [go_sem]; rfl); (case hsz => intro e he; obtain ⟨x, _, rfl⟩ := List.mem_map.1 he; rfl); (case hit => rfl); (case hs => simp only [go_sem]; rfl))
      refine wgoF (And.intro (@h1) (And.intro (@he1) (And.intro (@he2) (@he3)))) ?_
      exact wretF (@hr)

/-! The reference's. -/
def insTo (l : List Pn) (at' : Int) (i : Nat) : List Pn := ((l.take i).filter (kI at')).map (shI at')
theorem ins_in {l : List Pn} {at' : Int} {i : Nat} (h : i < l.length) (hb : kI at' (l.getD i default) = true) : insTo l at' (i + 1) = insTo l at' i ++ [shI at' (l.getD i default)] := by
  have := flt_in (kI at') h hb
  unfold fltTo at this
  unfold insTo
  rw [this, List.map_append]; rfl
theorem ins_out {l : List Pn} {at' : Int} {i : Nat} (h : i < l.length) (hb : kI at' (l.getD i default) = false) : insTo l at' (i + 1) = insTo l at' i := by
  have := flt_out (kI at') h hb
  unfold fltTo at this
  unfold insTo
  rw [this]
theorem ins_len (l : List Pn) (at' : Int) (i : Nat) : (insTo l at' i).length ≤ l.length := by
  have := flt_len (kI at') l i
  unfold fltTo at this
  unfold insTo
  rw [List.length_map]; exact this
theorem rinsert121 (l : List Pn) (at' : Int) (hl : pnOk l) : PCall Tryz.prog 121 [.sl 3 (l.map Pn.d), .int .i64 at'] (.sl 3 ((insF l at').map Pn.d)) := by
  have hll := hl.1
  have z0 : insTo l at' 0 = [] := rfl
  refine enterP tabOk Tryz.func121 40 [0, 1, 4, 5, 6, 7, 12, 22, 34] [.tmp 4] rfl (r := [_]) rfl (h := ?_); intro E hK; simp only [go_sem]
  refine wgo ?_
  (apply Run.full 5 1005 101 3; (case hi => simp only [go_sem]; rfl); (case ht => simp only [go_sem]); (case hmn => first | exact Or.inl (by decide) | exact Or.inr rfl); (case hs => simp only [go_sem]; rfl))
  refine wlpF (Run.loopC (ι := { i : Nat // i ≤ l.length }) (U := fun i => [(5, .own 3 ((insTo l at' i.1).map Pn.d) (.tok 1005)), (6, .d (.int .i64 i.1))]) (O := fun i => []) (K := fun _ => [(1005, .live 101 3)]) (μ := fun i => l.length - i.1) (i0 := ⟨0, by omega⟩)) (@z0) ?_
  rintro ⟨i, hi⟩ ih
  have hfl := ins_len l at' i
  by_cases hlt : i < l.length
  · have h1 : (i : Int) < l.length := by omega
    have hget := pn_get hlt
    obtain ⟨b1, b2, b3, b4⟩ := pn_at hl hlt
    have hin := ins_in (at' := at') hlt
    have hout := ins_out (at' := at') hlt
    generalize l.getD i default = p at hget hin hout b1 b2 b3 b4
    by_cases c1 : at' ≤ p.f
    · have hst := hin (by unfold kI; rw [decide_eq_true c1]; rfl)
      have hs : shI at' p = ⟨p.f + 1, p.t + 1, p.w⟩ := if_pos c1
      rw [hs] at hst
      simp only [go_sem]
      refine wgoF (And.intro (@h1) (And.intro (@hget) (@c1))) ?_
      (apply Run.retok 38 1005; (case hk => simp only [go_sem]; rfl); (case ht => simp only [go_sem]; rfl); (case ht' => simp only [go_sem]); (case hs => simp only [go_sem]; rfl))
      exact wnxtF (ih ⟨i + 1, by omega⟩) (And.intro (@hst) (@Pn.d.eq_1))
    · by_cases c2 : at' < p.t
      · have hst := hout (by unfold kI; rw [decide_eq_false c1, decide_eq_false (show ¬ p.t ≤ at' by omega)]; rfl)
        simp only [go_sem]
        refine wgoF (And.intro (@h1) (And.intro (@hget) (And.intro (@c1) (@c2)))) ?_
        exact wnxtF (ih ⟨i + 1, by omega⟩) (@hst)
      · have hst := hin (by unfold kI; rw [decide_eq_true (show p.t ≤ at' by omega), Bool.or_true])
        have hs : shI at' p = p := if_neg c1
        rw [hs] at hst
        simp only [go_sem]
        refine wgoF (And.intro (@h1) (And.intro (@hget) (And.intro (@c1) (@c2)))) ?_
        (apply Run.retok 38 1005; (case hk => simp only [go_sem]; rfl); (case ht => simp only [go_sem]; rfl); (case ht' => simp only [go_sem]); (case hs => simp only [go_sem]; rfl))
        exact wnxtF (ih ⟨i + 1, by omega⟩) (And.intro (@hst) (@Pn.d.eq_1))
  · have h1 : ¬ (i : Int) < l.length := by omega
    have hf : insTo l at' i = insF l at' := by unfold insTo insF; rw [List.take_of_length_le (by omega)]
    simp only [go_sem, hf]
    refine wgoF (@h1) ?_
    exact wret

def delTo (l : List Pn) (at' : Int) (i : Nat) : List Pn := ((l.take i).filter (kD at')).map (shD at')
theorem del_in {l : List Pn} {at' : Int} {i : Nat} (h : i < l.length) (hb : kD at' (l.getD i default) = true) : delTo l at' (i + 1) = delTo l at' i ++ [shD at' (l.getD i default)] := by
  have := flt_in (kD at') h hb
  unfold fltTo at this
  unfold delTo
  rw [this, List.map_append]; rfl
theorem del_out {l : List Pn} {at' : Int} {i : Nat} (h : i < l.length) (hb : kD at' (l.getD i default) = false) : delTo l at' (i + 1) = delTo l at' i := by
  have := flt_out (kD at') h hb
  unfold fltTo at this
  unfold delTo
  rw [this]
theorem del_len (l : List Pn) (at' : Int) (i : Nat) : (delTo l at' i).length ≤ l.length := by
  have := flt_len (kD at') l i
  unfold fltTo at this
  unfold delTo
  rw [List.length_map]; exact this
theorem rdelete107 (l : List Pn) (at' : Int) (hl : pnOk l) : PCall Tryz.prog 107 [.sl 3 (l.map Pn.d), .int .i64 at'] (.sl 3 ((delF l at').map Pn.d)) := by
  have hll := hl.1
  have z0 : delTo l at' 0 = [] := rfl
  refine enterP tabOk Tryz.func107 40 [0, 1, 4, 5, 6, 7, 12, 22, 34] [.tmp 4] rfl (r := [_]) rfl (h := ?_); intro E hK; simp only [go_sem]
  refine wgo ?_
  (apply Run.full 5 1005 101 3; (case hi => simp only [go_sem]; rfl); (case ht => simp only [go_sem]); (case hmn => first | exact Or.inl (by decide) | exact Or.inr rfl); (case hs => simp only [go_sem]; rfl))
  refine wlpF (Run.loopC (ι := { i : Nat // i ≤ l.length }) (U := fun i => [(5, .own 3 ((delTo l at' i.1).map Pn.d) (.tok 1005)), (6, .d (.int .i64 i.1))]) (O := fun i => []) (K := fun _ => [(1005, .live 101 3)]) (μ := fun i => l.length - i.1) (i0 := ⟨0, by omega⟩)) (@z0) ?_
  rintro ⟨i, hi⟩ ih
  have hfl := del_len l at' i
  by_cases hlt : i < l.length
  · have h1 : (i : Int) < l.length := by omega
    have hget := pn_get hlt
    obtain ⟨b1, b2, b3, b4⟩ := pn_at hl hlt
    have hin := del_in (at' := at') hlt
    have hout := del_out (at' := at') hlt
    generalize l.getD i default = p at hget hin hout b1 b2 b3 b4
    by_cases c1 : at' < p.f
    · have hst := hin (by unfold kD; rw [decide_eq_true c1]; rfl)
      have hs : shD at' p = ⟨p.f - 1, p.t - 1, p.w⟩ := if_pos c1
      rw [hs] at hst
      simp only [go_sem]
      refine wgoF (And.intro (@h1) (And.intro (@hget) (@c1))) ?_
      (apply Run.retok 38 1005; (case hk => simp only [go_sem]; rfl); (case ht => simp only [go_sem]; rfl); (case ht' => simp only [go_sem]); (case hs => simp only [go_sem]; rfl))
      exact wnxtF (ih ⟨i + 1, by omega⟩) (And.intro (@hst) (@Pn.d.eq_1))
    · by_cases c2 : at' < p.t
      · have hst := hout (by unfold kD; rw [decide_eq_false c1, decide_eq_false (show ¬ p.t ≤ at' by omega)]; rfl)
        simp only [go_sem]
        refine wgoF (And.intro (@h1) (And.intro (@hget) (And.intro (@c1) (@c2)))) ?_
        exact wnxtF (ih ⟨i + 1, by omega⟩) (@hst)
      · have hst := hin (by unfold kD; rw [decide_eq_true (show p.t ≤ at' by omega), Bool.or_true])
        have hs : shD at' p = p := if_neg c1
        rw [hs] at hst
        simp only [go_sem]
        refine wgoF (And.intro (@h1) (And.intro (@hget) (And.intro (@c1) (@c2)))) ?_
        (apply Run.retok 38 1005; (case hk => simp only [go_sem]; rfl); (case ht => simp only [go_sem]; rfl); (case ht' => simp only [go_sem]); (case hs => simp only [go_sem]; rfl))
        exact wnxtF (ih ⟨i + 1, by omega⟩) (And.intro (@hst) (@Pn.d.eq_1))
  · have h1 : ¬ (i : Int) < l.length := by omega
    have hf : delTo l at' i = delF l at' := by unfold delTo delF; rw [List.take_of_length_le (by omega)]
    simp only [go_sem, hf]
    refine wgoF (@h1) ?_
    exact wret
end Go.Proofs.YtojgjdcciojpeaaGreat
set_option linter.unusedSimpArgs false
set_option linter.unusedVariables false
namespace Go.Proofs.YtojgjdcciojpeaaGreat
open Go Go.PS
set_option maxRecDepth 100000
set_option maxHeartbeats 4000000
def putF (l : List Pn) (p : Pn) : List Pn := l.filter (kB p) ++ p :: l.filter (kA p)
def putR (l : List Pn) (p : Pn) (n : Int) : List Pn × Int := if (pvB l n && pvB [p] n) = true then (putF l p, 0) else ([], 180)
def pn0 : Pn := ⟨0, 0, 0⟩
theorem pE_rep (k : Nat) : List.replicate k (PV.agg [.d (.int .i64 0), .d (.int .i64 0), .d (.int .i64 0)]) = pE (List.replicate k pn0) := by
  simp [pE, Pn.d, pn0, PV.ofD.PV.ofD1]
theorem pE_app (a b : List Pn) : pE a ++ pE b = pE (a ++ b) := by simp [pE]
theorem pE_drop (a : List Pn) (n : Nat) : List.drop n (pE a) = pE (a.drop n) := by simp [pE]
theorem pE_take (a : List Pn) (n : Nat) : List.take n (pE a) = pE (a.take n) := by simp [pE]
theorem put120 (l : List Pn) (p : Pn) (n : Int) (hl : l.length ≤ 1000) : PCall Tryz.prog 120 [.sl 3 (l.map Pn.d), p.d, .int .i64 n] (.tup [.sl 3 ((putR l p n).1.map Pn.d), .int .i64 (putR l p n).2]) := by
  have v1 := pvalid80 l n hl
  have v2 := pvalid80 [p] n (by simp)
  have hB := choose143 145 (.ref p.c) (kB p) l hl (fun x _ => cl145 p x)
  have hA := choose143 146 (.ref p.c) (kA p) l hl (fun x _ => cl146 p x)
  have hBl : (l.filter (kB p)).length ≤ 1000 := Nat.le_trans (List.length_filter_le _ _) hl
  have hAl : (l.filter (kA p)).length ≤ 1000 := Nat.le_trans (List.length_filter_le _ _) hl
  cases b1 : pvB l n with
  | false =>
    have hr : putR l p n = ([], 180) := by unfold putR; rw [b1]; rfl
    rw [b1] at v1
    refine enterP tabOk Tryz.func120 53 [0, 1, 2, 4, 6, 7, 8, 9, 10, 21] [.tmp 6, .tmp 7] rfl (r := [_, _]) rfl (h := ?_); intro E hK; simp only [go_sem]
    refine woneF (@Pn.d.eq_1) ?_
    (apply Run.freeze 4; (case ho => simp only [go_sem]; rfl); (case hes => simp only [go_sem]; rfl); (case hds => simp only [go_sem]); (case hsz => simp [D.cells]); (case hit => rfl); (case hs => simp only [go_sem]; rfl))
    refine wgo ?_
    refine wcall (v1) ?_
    refine wgo ?_
    exact wretF (@hr)
  | true =>
    rw [b1] at v1
    cases b2 : pvB [p] n with
    | false =>
      have hr : putR l p n = ([], 180) := by unfold putR; rw [b1, b2]; rfl
      rw [b2] at v2
      refine enterP tabOk Tryz.func120 53 [0, 1, 2, 4, 6, 7, 8, 9, 10, 21] [.tmp 6, .tmp 7] rfl (r := [_, _]) rfl (h := ?_); intro E hK; simp only [go_sem]
      refine woneF (@Pn.d.eq_1) ?_
      (apply Run.freeze 4; (case ho => simp only [go_sem]; rfl); (case hes => simp only [go_sem]; rfl); (case hds => simp only [go_sem]); (case hsz => simp [D.cells]); (case hit => rfl); (case hs => simp only [go_sem]; rfl))
      refine wgo ?_
      refine wcall (v1) ?_
      refine wgo ?_
      refine wcallF (v2) (@Pn.d.eq_1) ?_
      refine wgo ?_
      exact wretF (@hr)
    | true =>
      have hr : putR l p n = (putF l p, 0) := by unfold putR; rw [b1, b2]; rfl
      have hf : putF l p = l.filter (kB p) ++ p :: l.filter (kA p) := rfl
      rw [b2] at v2
      generalize l.filter (kB p) = B at hB hf hBl
      generalize l.filter (kA p) = A at hA hf hAl
      have q0 : ((B.length : Int) + 1 + (A.length : Int)).toNat = B.length + 1 + A.length := by omega
      have q1 := pE_rep (B.length + 1 + A.length)
      have q2 : List.map PV.ofD.PV.ofD1 (List.map Pn.d B) ++ List.drop B.length (pE (List.replicate (B.length + 1 + A.length) pn0)) = pE (B ++ pn0 :: List.replicate A.length pn0) := by
        show pE B ++ _ = _
        rw [pE_drop, pE_app, List.drop_replicate, show B.length + 1 + A.length - B.length = A.length + 1 by omega, List.replicate_succ]
      have q3 := pE_get (l := B ++ pn0 :: List.replicate A.length pn0) (i := B.length) (by simp)
      have q3b : (B ++ pn0 :: List.replicate A.length pn0).getD B.length default = pn0 := by simp
      rw [q3b] at q3
      have q4 := pE_set (B ++ pn0 :: List.replicate A.length pn0) B.length p.f p.t p.w
      have q5 : (B ++ pn0 :: List.replicate A.length pn0).set B.length ⟨p.f, p.t, p.w⟩ = B ++ p :: List.replicate A.length pn0 := by simp
      rw [q5] at q4
      have q6 : List.take (B.length + 1) (pE (B ++ p :: List.replicate A.length pn0)) ++ List.map PV.ofD.PV.ofD1 (List.map Pn.d A) ++ List.drop (B.length + 1 + A.length) (pE (B ++ p :: List.replicate A.length pn0)) = List.map PV.ofD.PV.ofD1 (List.map Pn.d (B ++ p :: A)) := by
        show _ ++ pE A ++ _ = pE (B ++ p :: A)
        have t1 : (B ++ p :: List.replicate A.length pn0).take (B.length + 1) = B ++ [p] := by
          rw [List.take_append, List.take_of_length_le (by omega), Nat.add_sub_cancel_left]
          rfl
        have t2 : (B ++ p :: List.replicate A.length pn0).drop (B.length + 1 + A.length) = [] := List.drop_eq_nil_of_le (by simp; omega)
        rw [pE_take, pE_drop, t1, t2, pE_app, pE_app]
        simp
      have e1 : ∀ m : List Pn, (List.map Pn.d m).length = m.length := fun m => List.length_map ..
      have l1 : (pE (List.replicate (B.length + 1 + A.length) pn0)).length = B.length + 1 + A.length := by simp [pE]
      have l2 : (pE (B ++ pn0 :: List.replicate A.length pn0)).length = B.length + 1 + A.length := by simp [pE]; omega
      have l3 : (pE (B ++ p :: List.replicate A.length pn0)).length = B.length + 1 + A.length := by simp [pE]; omega
      have l4 : ((B.length : Int) + 1).toNat = B.length + 1 := by omega
      have l5 : B.length < B.length + 1 + A.length := by omega
      have l6 : B.length ≤ B.length + 1 + A.length := by omega
      have lb : B.length + 1 + A.length ≤ B.length + 1 + A.length := Nat.le_refl _
      have lc : A.length ≤ A.length := Nat.le_refl _
      have ld : B.length + 1 + A.length = B.length + 1 + A.length := rfl
      have l7 : ¬ ((B.length : Int) + 1 + (A.length : Int) = 0) := by omega
      have l8 : B.length + 1 + A.length - (B.length + 1) = A.length := by omega
      have l9 : (List.map Pn.d (B ++ p :: A)).length = B.length + 1 + A.length := by simp; omega
      have la : List.take (B.length + 1 + A.length) (List.map Pn.d (B ++ p :: A)) = List.map Pn.d (B ++ p :: A) := List.take_of_length_le (by rw [l9]; exact Nat.le_refl _)
      have ly : decide ((B.length : Int) + 1 = 0) = false := decide_eq_false (by omega)
      by_cases hz : A = []
      · have hz0 : A.length = 0 := by rw [hz]; rfl
        have lz : decide ((B.length : Int) + 1 = ((B.length + 1 + A.length : Nat) : Int)) = true := decide_eq_true (by omega)
        have hzm : List.map Pn.d A = [] := by rw [hz]; rfl
        have q6b : pE (B ++ p :: List.replicate A.length pn0) = List.map PV.ofD.PV.ofD1 (List.map Pn.d (B ++ [p])) := by rw [hz]; rfl
        have hf2 : putF l p = B ++ [p] := by rw [hf, hz]
        have l9b : (List.map Pn.d (B ++ [p])).length = B.length + 1 + A.length := by simp; omega
        have lab : List.take (B.length + 1 + A.length) (List.map Pn.d (B ++ [p])) = List.map Pn.d (B ++ [p]) := List.take_of_length_le (by rw [l9b]; exact Nat.le_refl _)
        generalize B ++ [p] = W at q6b hf2 l9b lab
        have lw : B.length + 1 + A.length ≤ W.length := by rw [List.length_map] at l9b; omega
        refine enterP tabOk Tryz.func120 53 [0, 1, 2, 4, 6, 7, 8, 9, 10, 21] [.tmp 6, .tmp 7] rfl (r := [_, _]) rfl (h := ?_); intro E hK; simp only [go_sem]
        refine woneF (@Pn.d.eq_1) ?_
        (apply Run.freeze 4; (case ho => simp only [go_sem]; rfl); (case hes => simp only [go_sem]; rfl); (case hds => simp only [go_sem]); (case hsz => simp [D.cells]); (case hit => rfl); (case hs => simp only [go_sem]; rfl))
        refine wgo ?_
        refine wcall (v1) ?_
        refine wgo ?_
        refine wcallF (v2) (@Pn.d.eq_1) ?_
        refine wgo ?_
        refine wcallF (hB) (@Pn.c.eq_1) ?_
        refine wgo ?_
        refine wcallF (hA) (@Pn.c.eq_1) ?_
        refine wgoF (And.intro (@e1) (And.intro (@q0) (And.intro (@q1) (And.intro (@q2) (And.intro (@q3) (And.intro (@q4) (And.intro (@l1) (And.intro (@l2) (And.intro (@l3) (And.intro (@l4) (And.intro (@l5) (And.intro (@l6) (And.intro (@l7) (And.intro (@l8) (And.intro (@lb) (And.intro (@lc) (And.intro (@lz) (@ly)))))))))))))))))) ?_
        refine wgoF (And.intro (@hzm) (@q6b)) ?_
        (apply Run.freezeRow 36; (case ho => simp only [go_sem]; rfl); (case hsz => intro e he; obtain ⟨x, _, rfl⟩ := List.mem_map.1 he; rfl); (case hit => rfl); (case hs => simp only [go_sem]; rfl))
        refine wgoF (And.intro (@lab) (@lw)) ?_
        exact wretF (And.intro (@hr) (And.intro (@hf2) (And.intro (@lab) (@lw))))
      · have hz0 : 0 < A.length := List.length_pos_iff.2 hz
        have lz : decide ((B.length : Int) + 1 = ((B.length + 1 + A.length : Nat) : Int)) = false := decide_eq_false (by omega)
        obtain ⟨W, hW⟩ : ∃ W, B ++ p :: A = W := ⟨_, rfl⟩
        rw [hW] at q6 hf l9 la
        have lw : B.length + 1 + A.length ≤ W.length := by rw [List.length_map] at l9; omega
        refine enterP tabOk Tryz.func120 53 [0, 1, 2, 4, 6, 7, 8, 9, 10, 21] [.tmp 6, .tmp 7] rfl (r := [_, _]) rfl (h := ?_); intro E hK; simp only [go_sem]
        refine woneF (@Pn.d.eq_1) ?_
        (apply Run.freeze 4; (case ho => simp only [go_sem]; rfl); (case hes => simp only [go_sem]; rfl); (case hds => simp only [go_sem]); (case hsz => simp [D.cells]); (case hit => rfl); (case hs => simp only [go_sem]; rfl))
        refine wgo ?_
        refine wcall (v1) ?_
        refine wgo ?_
        refine wcallF (v2) (@Pn.d.eq_1) ?_
        refine wgo ?_
        refine wcallF (hB) (@Pn.c.eq_1) ?_
        refine wgo ?_
        refine wcallF (hA) (@Pn.c.eq_1) ?_
        refine wgoF (And.intro (@e1) (And.intro (@q0) (And.intro (@q1) (And.intro (@q2) (And.intro (@q3) (And.intro (@q4) (And.intro (@l1) (And.intro (@l2) (And.intro (@l3) (And.intro (@l4) (And.intro (@l5) (And.intro (@l6) (And.intro (@l7) (And.intro (@l8) (And.intro (@lb) (And.intro (@lc) (And.intro (@lz) (And.intro (@ly) (@q6))))))))))))))))))) ?_
        (apply Run.freezeRow 36; (case ho => simp only [go_sem]; rfl); (case hsz => intro e he; obtain ⟨x, _, rfl⟩ := List.mem_map.1 he; rfl); (case hit => rfl); (case hs => simp only [go_sem]; rfl))
        refine wgoF (And.intro (@la) (@lw)) ?_
        exact wretF (And.intro (@hr) (And.intro (@hf) (And.intro (@la) (@lw))))
end Go.Proofs.YtojgjdcciojpeaaGreat

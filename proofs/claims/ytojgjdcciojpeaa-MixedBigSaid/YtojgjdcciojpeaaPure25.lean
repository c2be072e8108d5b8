/-
  A token that is no longer wanted is struck; a slice grown in a round takes the round's token again.
-/
import Derived.Test.YtojgjdcciojpeaaPure24
namespace Go.PS
open Go Go.RowKit
set_option linter.unusedVariables false
set_option linter.unusedSimpArgs false

/-- What was grown of a token reads as data. -/
def killLeaf (t : Nat) : PV → PV
  | .own sz xs (.tok n) => if n = t then .d (.sl sz xs) else .own sz xs (.tok n)
  | .own sz xs .full => .own sz xs .full
  | .hp i k off => .hp i k off
  | .hrow i s lo len cap => .hrow i s lo len cap
  | .hmap i => .hmap i
  | .d x => .d x
  | .agg cs => .agg cs
  | .tup cs => .tup cs
  | .fn f a b => .fn f a b
  | .any => .any
theorem killLeaf_ok (t : Nat) : LeafOk (killLeaf t) := by
  intro x cs hx h
  cases x <;> simp only [PV.leaf, reduceCtorEq] at hx <;> try (cases h; done)
  rename_i sz xs tk
  cases tk with
  | full => cases h
  | tok n =>
    simp only [killLeaf] at h
    split at h <;> cases h
def delTk (t : Nat) : List (Nat × TS) → List (Nat × TS)
  | [] => []
  | (i, v) :: l => if i = t then delTk t l else (i, v) :: delTk t l
theorem lk_delTk (t : Nat) : ∀ (l : List (Nat × TS)) (i : Nat), lk .never (delTk t l) i = if i = t then .never else lk .never l i
  | [], i => by simp [delTk, lk]
  | (j, v) :: l, i => by
    have ih := lk_delTk t l i
    simp only [delTk]
    by_cases hj : j = t
    · rw [if_pos hj, ih]
      by_cases hi : i = t
      · rw [if_pos hi, if_pos hi]
      · rw [if_neg hi, if_neg hi]; simp only [lk]; rw [if_neg (by omega)]
    · rw [if_neg hj]
      simp only [lk]
      by_cases hij : i = j
      · subst hij; rw [if_pos rfl, if_neg hj, if_pos rfl]
      · rw [if_neg hij, ih, if_neg hij]
def SL.kill (s : SL) (t : Nat) : SL := ⟨mapTm (killLeaf t) s.tm, mapOb (killLeaf t) s.ob, delTk t s.tk⟩
theorem SLe.kill {E : Env} {s : SL} (t : Nat) : SLe E s (s.kill t) := by
  intro γ own a w hC
  let γ' : Gh := ⟨γ.K, γ.m, fun n => if n = t then none else γ.τ n⟩
  have hleaf : ∀ (x : PV) (v : Value), x.leaf = true → Rep γ x v → Rep γ' (killLeaf t x) v := by
    intro x v hx h
    cases h with
    | d h => exact .d h
    | @own sz xs tk v h ht =>
      cases tk with
      | full => exact .own h ht
      | tok n =>
        simp only [killLeaf]
        split
        · exact .d h
        · rename_i hn
          refine .own h ?_
          show (if n = t then none else γ.τ n) = some v
          rw [if_neg hn]; exact ht
    | agg => cases hx
    | tup => cases hx
    | hp h => exact .hp h
    | hrow h h1 h2 => exact .hrow h h1 h2
    | hmap h => exact .hmap h
    | fn => cases hx
    | any => cases hx
  have hw := hC.world
  have htk : ∀ n, (SL.of (s.kill t)).tk n = if n = t then .never else s.of.tk n := fun n => lk_delTk t s.tk n
  refine ⟨γ', own, hC.defers, hC.size, fun i => ?_, ?_⟩
  · change Rep _ (lk .any (mapTm _ s.tm) i) _
    rw [lk_mapTm]
    exact mapv_rep hleaf (hC.tm i)
  · refine ⟨hw.k0, hw.knew, hw.ksub, hw.below, ?_, ?_, hw.inj, ?_, ?_, ?_, hw.pas, ?_⟩
    · intro i o' hio
      have hio' : lk none (mapOb _ s.ob) i = some o' := hio
      rw [lk_mapOb] at hio'
      simp only [Option.map_eq_some_iff] at hio'
      obtain ⟨o1, ho1, rfl⟩ := hio'
      obtain ⟨blk, cs, hm, hok⟩ := hw.obj i o1 ho1
      exact ⟨blk, cs, hm, hok.mapv (killLeaf_ok _) hleaf fun off => hok.free off⟩
    · intro i hio
      have hio' : lk none (mapOb _ s.ob) i = none := hio
      rw [lk_mapOb] at hio'
      simp only [Option.map_eq_none_iff] at hio'
      exact hw.nob i hio'
    · intro n e sz hn
      rw [htk] at hn
      split at hn
      · cases hn
      · rename_i hne
        obtain ⟨v, hv, hok⟩ := hw.tok n e sz hn
        refine ⟨v, by show (if n = t then none else γ.τ n) = some v; rw [if_neg hne]; exact hv, ?_⟩
        cases ho : own n with
        | none => rw [ho] at hok; exact hok
        | some g =>
          rw [ho] at hok
          obtain ⟨m, cap, cur, hok⟩ := hok
          exact ⟨m, cap, cur, hok.keep rfl (fun off h => hok.free off h) fun i s h => hok.noobj i s h⟩
    · intro n n' e e' s1 s2 g hn hn'
      rw [htk] at hn hn'
      split at hn
      · cases hn
      · split at hn'
        · cases hn'
        · exact hw.tinj n n' e e' s1 s2 g hn hn'
    · intro n hn
      show (if n = t then none else γ.τ n) = none
      rw [htk] at hn
      split
      · rfl
      · rename_i hne
        rw [if_neg hne] at hn
        exact hw.ntok n hn
    · intro n e sz v h3 hn hτ ho
      rw [htk] at hn
      split at hn
      · cases hn
      · rename_i hne
        have hτ' : γ.τ n = some v := by
          have : (if n = t then none else γ.τ n) = some v := hτ
          rw [if_neg hne] at this; exact this
        exact hw.tmine n e sz v h3 hn hτ' ho
theorem kill_def (tm ob tk) (t : Nat) : SL.kill ⟨tm, ob, tk⟩ t = ⟨mapTm (killLeaf t) tm, mapOb (killLeaf t) ob, delTk t tk⟩ := rfl
theorem kill_D (t : Nat) (l : List D) : PV.mapv.mapL (killLeaf t) (l.map PV.ofD.PV.ofD1) = l.map PV.ofD.PV.ofD1 := mapL_D (fun _ => rfl) l
theorem kill_rI (t : Nat) (l : List Int) : PV.mapv.mapL (killLeaf t) (rI l) = rI l := by rw [rI_ofD1]; exact kill_D _ _
/-- The token t takes the place of an elder one. -/
theorem Run.retok {P : Program} {E : Env} {fn : Func} {f : FuncId} {r : List D} {k : List Item} {s s1 s' : SL} (t t' : Nat) {e : TypeId} {size : Nat} (hk : s.kill t' = s1) (ht : lk .never s1.tk t = .live e size) (ht' : lk .never s1.tk t' = .never) (hs : s1.ren t t' e size = s')
    (h : Run P E fn f r k s'.of) : Run P E fn f r k s.of := by
  subst hk; subst hs
  exact Run.le ((SLe.kill t').trans (SLe.ren t t' ht ht')) h
theorem dle_self (x : D) : dle x x = True := eq_true (dle_refl x)
attribute [go_sem] dle_self
attribute [go_sem] kill_def killLeaf delTk kill_D kill_rI
end Go.PS

/-
  A part of the walks of this seat: each theorem says what a function of the program gives. No condition beyond its own premises.
-/
import Derived.Shelf.SlSortCmp.NoneTotal
import Derived.Ground.SlsfProg
import Derived.Ground.NamesProg
import Derived.Test.YtojgjdcciojpeaaGreatProg
import Derived.Handy
import Derived.LoopTactic
import Derived.Test.YtojgjdcciojpeaaGreatD16
set_option linter.unusedSimpArgs false
set_option linter.unusedVariables false
namespace Go.Proofs.YtojgjdcciojpeaaGreat
open Go Go.PS
set_option maxRecDepth 100000
set_option maxHeartbeats 4000000
--%extra hE
theorem keys25 (l : List Ch) : PCall Tryz.prog 135 [.map (kvD l)] (.fn (.func 155) [] [.ref [.map (kvD l)]]) := by
  refine enterP tabOk Tryz.func135 4 [0, 1, 2] [.tmp 2] rfl (r := [_]) rfl (h := ?_); intro E hK; simp only [go_sem]
  refine wgo ?_
  (apply Run.freeze 1; (case ho => simp only [go_sem]; rfl); (case hes => simp only [go_sem]; rfl); (case hds => simp only [go_sem]); (case hsz => simp [D.cells]); (case hit => rfl); (case hs => simp only [go_sem]; rfl))
  exact wret

/-! The costs, in plain terms. -/
def lookC : List Ch → Int → Option (Nat × Int)
  | [], _ => none
  | c :: r, k => if c.k = k then some (0, c.c) else (lookC r k).map fun p => (p.1 + 1, p.2)
def putC (m : List Ch) (k c : Int) : List Ch := match lookC m k with
  | some (i, _) => m.set i ⟨k, c⟩
  | none => m ++ [⟨k, c⟩]
def cst (p q : List Pt) : Int := min (dist p q / 16) 1000
def stepC (p : List Pt) (m : List Ch) (t : Tpl) : List Ch := putC m t.key (match lookC m t.key with
  | some (_, old) => min old (cst p t.p)
  | none => cst p t.p)
def costsF (p : List Pt) (T : List Tpl) : List Ch := T.foldl (stepC p) []
def costAt (m : List Ch) (k : Int) : Int := ((lookC m k).map (·.2)).getD 0
def chE (m : List Ch) : List PV := (m.map Ch.d).map PV.ofD.PV.ofD1

theorem findE (k : Int) : ∀ m : List Ch, findP (.int .u8 k) (chE m) = some ((lookC m k).map fun p => (p.1, .d (.int .i64 p.2)))
  | [] => rfl
  | c :: m => by
    have ih := findE k m
    have e : chE (c :: m) = .agg [.d (.int .u8 c.k), .d (.int .i64 c.c)] :: chE m := rfl
    rw [e, findP, ih]
    by_cases h : c.k = k
    · simp [eqKey, lookC, h]
    · simp only [eqKey, lookC, h, if_true, if_false, decide_false]
      cases lookC m k <;> rfl
theorem pairs_kv : ∀ m : List Ch, pairsP (kvD m) = chE m
  | [] => rfl
  | c :: m => by
    have e : kvD (c :: m) = .int .u8 c.k :: .int .i64 c.c :: kvD m := by simp [kvD, Ch.d, D.cells]
    rw [e, pairsP, pairs_kv m]; rfl
theorem chE_set (m : List Ch) (i : Nat) (k c : Int) : (chE m).set i (.agg [.d (.int .u8 k), .d (.int .i64 c)]) = chE (m.set i ⟨k, c⟩) := by simp [chE, Ch.d, PV.ofD.PV.ofD1]
theorem chE_app (m : List Ch) (k c : Int) : chE m ++ [.agg [.d (.int .u8 k), .d (.int .i64 c)]] = chE (m ++ [⟨k, c⟩]) := by simp [chE, Ch.d, PV.ofD.PV.ofD1]
theorem chE_le {ob tk} (m : List Ch) : leElems ob tk (chE m) (chE m) = True := leElems_D _
theorem look_lt {m : List Ch} {k : Int} {i : Nat} {c : Int} (h : lookC m k = some (i, c)) : i < m.length := by
  induction m generalizing i with
  | nil => cases h
  | cons a m ih =>
    simp only [lookC] at h
    split at h
    · simp only [Option.some.injEq, Prod.mk.injEq] at h; simp; omega
    · cases hl : lookC m k with
      | none => rw [hl] at h; cases h
      | some q =>
        rw [hl] at h
        simp only [Option.map_some, Option.some.injEq, Prod.mk.injEq] at h
        have := ih (i := q.1) (by rw [hl]; rw [← h.2])
        simp; omega

def TOk (T : List Tpl) : Prop := ∀ t ∈ T, 0 ≤ t.key ∧ t.key ≤ 255 ∧ okL0 t.p ∧ 0 < t.p.length ∧ t.p.length ≤ 100
theorem tpl_get {l : List Tpl} {i : Nat} (h : i < l.length) : (List.map Tpl.d l).getD i .nilp = .agg [.int .u8 (l.getD i default).key, .sl 2 ((l.getD i default).p.map Pt.d)] := by simp [h, Tpl.d]
theorem tok_get {l : List Tpl} (h : TOk l) {i : Nat} (hi : i < l.length) : 0 ≤ (l.getD i default).key ∧ (l.getD i default).key ≤ 255 ∧ okL0 (l.getD i default).p ∧ 0 < (l.getD i default).p.length ∧ (l.getD i default).p.length ≤ 100 := by
  have e : l.getD i default = l[i] := by simp [hi]
  rw [e]; exact h _ (List.getElem_mem hi)
theorem take_step {p : List Pt} {l : List Tpl} {i : Nat} (h : i < l.length) : costsF p (l.take (i + 1)) = stepC p (costsF p (l.take i)) (l.getD i default) := by
  have e : l.getD i default = l[i] := by simp [h]
  rw [List.take_succ_eq_append_getElem h, e, costsF, List.foldl_append]; rfl

def mapO (m : List Ch) : OB := ⟨4000000000, 2, chE m⟩
/-- What a board has beside its templates. -/
structure Bd where
  za : Nat
  A : List D
  zc : Nat
  C : List D
def bdD (bd : Bd) (T : List Tpl) : D := .agg [.sl bd.za bd.A, .sl 2 (T.map Tpl.d), .sl bd.zc bd.C]
def brdB (bd : Bd) (T : List Tpl) : OB := ⟨32, 3, [.agg [.d (.sl bd.za bd.A), .d (.sl 2 (T.map Tpl.d)), .d (.sl bd.zc bd.C)]]⟩
def mtH (bd : Bd) (T : List Tpl) (p : List Pt) (i : Nat) : SL :=
  SL.mk [(1, pL p), (2, .hp 2 0 0), (6, .hmap 24), (26, .d (.sl 2 (T.map Tpl.d))), (27, .d (.int .i64 T.length)), (28, .d (.int .i64 i))] [(2, some (brdB bd T)), (24, some (mapO (costsF p (T.take i))))] []
def slotF (m : List Ch) : List Ch := (sortK (m.map (·.k))).map fun k => ⟨k, costAt m k⟩
theorem kv_fold (m : List Ch) : List.flatMap D.cells (List.map Ch.d m) = kvD m := rfl
theorem look_mem {m : List Ch} {k : Int} (h : k ∈ m.map (·.k)) : ∃ j, lookC m k = some (j, costAt m k) := by
  have key : ∀ m : List Ch, k ∈ m.map (·.k) → ∃ q, lookC m k = some q := by
    intro m
    induction m with
    | nil => intro h; cases h
    | cons a m ih =>
      intro h
      simp only [lookC]
      by_cases ha : a.k = k
      · exact ⟨_, if_pos ha⟩
      · rw [if_neg ha]
        have h' : k ∈ m.map (·.k) := by
          rcases List.mem_cons.1 h with h | h
          · exact absurd h.symm ha
          · exact h
        obtain ⟨q, hq⟩ := ih h'
        exact ⟨_, by rw [hq]; rfl⟩
  obtain ⟨q, hq⟩ := key m h
  exact ⟨q.1, by simp [costAt, hq]⟩
theorem b_get {l : List Int} {i : Nat} (h : i < l.length) : (List.map bD l).getD i .nilp = .int .u8 (l.getD i 0) := by simp [h, bD]
theorem slot_succ {m : List Ch} {i : Nat} (h : i < (sortK (m.map (·.k))).length) : ((slotF m).take (i + 1)).map Ch.d = ((slotF m).take i).map Ch.d ++ [.agg [.int .u8 ((sortK (m.map (·.k))).getD i 0), .int .i64 (costAt m ((sortK (m.map (·.k))).getD i 0))]] := by
  have h2 : i < (slotF m).length := by simpa [slotF] using h
  have e : (sortK (m.map (·.k))).getD i 0 = (sortK (m.map (·.k)))[i] := by simp [h]
  rw [List.take_succ_eq_append_getElem h2, List.map_append, e]
  simp [slotF, Ch.d]
theorem slot_len (m : List Ch) : (slotF m).length = m.length := by simp [slotF, (sortK_perm _).length_eq]
def m2H (bd : Bd) (m : List Ch) (T : List Tpl) (t k : Nat) : SL :=
  SL.mk [(6, .d (.map (kvD m))), (12, .own 2 (((slotF m).take k).map Ch.d) (.tok t)), (58, .d (.sl 1 ((sortK (m.map (·.k))).map bD))), (59, .d (.int .i64 m.length)), (60, .d (.int .i64 k))] [(2, some (brdB bd T))] [(t, .live 62 1000002)]
theorem keys_put (m : List Ch) (k c : Int) : (putC m k c).map (·.k) = if lookC m k = none then m.map (·.k) ++ [k] else m.map (·.k) := by
  unfold putC
  cases h : lookC m k with
  | none => simp
  | some q =>
    simp only [reduceCtorEq, if_false, List.map_set]
    have : ∀ (m : List Ch) (q : Nat × Int), lookC m k = some q → (m.map (·.k)).set q.1 k = m.map (·.k) := by
      intro m
      induction m with
      | nil => intro q h; cases h
      | cons a m ih =>
        intro q h
        simp only [lookC] at h
        split at h
        · rename_i ha
          simp only [Option.some.injEq] at h
          subst h; simp [ha]
        · cases hl : lookC m k with
          | none => rw [hl] at h; cases h
          | some r =>
            rw [hl] at h
            simp only [Option.map_some, Option.some.injEq] at h
            subst h
            simp only [List.map_cons, List.set_cons_succ, ih r hl]
    exact this m q h
theorem look_none {m : List Ch} {k : Int} : lookC m k = none ↔ k ∉ m.map (·.k) := by
  induction m with
  | nil => simp [lookC]
  | cons a m ih =>
    simp only [lookC, List.map_cons, List.mem_cons]
    by_cases h : a.k = k
    · simp [h]
    · rw [if_neg h, Option.map_eq_none_iff, ih]
      have : ¬ k = a.k := fun e => h e.symm
      simp [this]
theorem costs_keys (p : List Pt) (P : Int → Prop) : ∀ (T : List Tpl) (m : List Ch), ((m.map (·.k)).Nodup ∧ ∀ k ∈ m.map (·.k), P k) → (∀ t ∈ T, P t.key) → ((T.foldl (stepC p) m).map (·.k)).Nodup ∧ ∀ k ∈ (T.foldl (stepC p) m).map (·.k), P k
  | [], m, h, _ => h
  | t :: T, m, h, hT => by
    refine costs_keys p P T _ ?_ (fun t' ht => hT t' (by simp [ht]))
    unfold stepC
    rw [keys_put]
    split
    · rename_i hn
      refine ⟨List.nodup_append.2 ⟨h.1, by simp, fun a ha b hb e => ?_⟩, fun k hk => ?_⟩
      · simp only [List.mem_singleton] at hb
        subst hb; subst e
        exact look_none.1 hn ha
      · rcases List.mem_append.1 hk with hk | hk
        · exact h.2 k hk
        · simp only [List.mem_singleton] at hk; subst hk; exact hT t (by simp)
    · exact h
theorem costs_ne (p : List Pt) {T : List Tpl} (h : T ≠ []) : costsF p T ≠ [] := by
  have key : ∀ (T : List Tpl) (m : List Ch), m ≠ [] → T.foldl (stepC p) m ≠ [] := by
    intro T
    induction T with
    | nil => intro m h; exact h
    | cons t T ih =>
      intro m hm
      refine ih _ fun e => hm ?_
      have := congrArg List.length e
      unfold stepC putC at this
      split at this
      · exact List.eq_nil_of_length_eq_zero (by simpa using this)
      · simp at this
  cases T with
  | nil => exact absurd rfl h
  | cons t T =>
    refine key T _ fun e => ?_
    have := congrArg List.length e
    simp [stepC, putC, lookC] at this
theorem valid_ok {p : List Pt} (h : validB p = true) : okL0 p ∧ 2 ≤ p.length ∧ p.length ≤ 12 := by
  simp only [validB, Bool.and_eq_true, decide_eq_true_eq, List.all_eq_true] at h
  refine ⟨fun q hq => ?_, h.1.1, h.1.2⟩
  have := h.2 q hq
  simp only [Pt.inB, Bool.and_eq_true, decide_eq_true_eq] at this
  exact ⟨this.1.1.1, this.1.1.2, this.1.2, this.2⟩
theorem least1 (x y : Int) : leastI x [y] = min x y := by simp only [leastI]; split <;> omega

theorem match13 (bd : Bd) (T : List Tpl) (p : List Pt) (hT : TOk T) (hp : validB p = true) (hne : T ≠ []) (hl : T.length ≤ 100) (hm : (costsF p T).length ≤ 8) :
    PCall Tryz.prog 114 [bdD bd T, .sl 2 (p.map Pt.d)] (.tup [.sl 2 ((slotF (costsF p T)).map Ch.d), .int .i64 0]) := by
  have hTl : ¬ ((T.length : Int) = 0) := by have := List.length_pos_iff.2 hne; omega
  have hv := valid19 p
  rw [hp] at hv
  obtain ⟨hpo, hpl1, hpl2⟩ := valid_ok hp
  obtain ⟨hnd, hkr⟩ := costs_keys p (fun k => 0 ≤ k ∧ k ≤ 255) T [] ⟨List.nodup_nil, fun k h => by cases h⟩ (fun t ht => ⟨(hT t ht).1, (hT t ht).2.1⟩)
  have hsorted := sorted24 (costsF p T) (costs_ne p hne) (by omega) (fun c hc => hkr _ (List.mem_map.2 ⟨c, hc, rfl⟩)) hnd
  refine enterP tabOk Tryz.func114 83 [0, 1, 2, 4, 5, 6, 8, 9, 10, 11, 12, 14, 23, 26, 27, 28, 29, 46, 58, 59, 60, 61, 75] [.tmp 4, .tmp 5] rfl (r := [_, _]) rfl (h := ?_); intro E hK; simp only [go_sem, Pt.d, Tpl.d, pL, mtH, mapO, brdB, bdD, chE_set, chE_app, chE_le, m2H, kv_fold]
  refine wgoF (And.intro (@Pt.d.eq_1) (And.intro (@Tpl.d.eq_1) (And.intro (@pL.eq_1) (And.intro (@mtH.eq_1) (And.intro (@mapO.eq_1) (And.intro (@brdB.eq_1) (And.intro (@bdD.eq_1) (And.intro (@chE_set) (And.intro (@chE_app) (And.intro (@chE_le) (And.intro (@m2H.eq_1) (@kv_fold)))))))))))) ?_
  refine wcallF (hv) (And.intro (@Pt.d.eq_1) (And.intro (@Tpl.d.eq_1) (And.intro (@pL.eq_1) (And.intro (@mtH.eq_1) (And.intro (@mapO.eq_1) (And.intro (@brdB.eq_1) (And.intro (@bdD.eq_1) (And.intro (@chE_set) (And.intro (@chE_app) (And.intro (@chE_le) (And.intro (@m2H.eq_1) (@kv_fold)))))))))))) ?_
  refine wgoF (And.intro (@hTl) (And.intro (@Pt.d.eq_1) (And.intro (@Tpl.d.eq_1) (And.intro (@pL.eq_1) (And.intro (@mtH.eq_1) (And.intro (@mapO.eq_1) (And.intro (@brdB.eq_1) (And.intro (@bdD.eq_1) (And.intro (@chE_set) (And.intro (@chE_app) (And.intro (@chE_le) (And.intro (@m2H.eq_1) (@kv_fold))))))))))))) ?_
  refine wlpF (Run.loop (ι := { i : Nat // i ≤ T.length }) (H := fun i => mtH bd T p i.1) (μ := fun i => T.length - i.1) (i0 := ⟨0, by omega⟩)) (And.intro (@costsF.eq_1) (And.intro (@chE.eq_1) (And.intro (@Pt.d.eq_1) (And.intro (@Tpl.d.eq_1) (And.intro (@pL.eq_1) (And.intro (@mtH.eq_1) (And.intro (@mapO.eq_1) (And.intro (@brdB.eq_1) (And.intro (@bdD.eq_1) (And.intro (@chE_set) (And.intro (@chE_app) (And.intro (@chE_le) (And.intro (@m2H.eq_1) (@kv_fold)))))))))))))) ?_
  rintro ⟨i, hi⟩ ih
  by_cases hlt : i < T.length
  · have h1 : (i : Int) < T.length := by omega
    have hget := tpl_get hlt
    obtain ⟨b1, b2, b3, b4, b5⟩ := tok_get hT hlt
    have hd := dist15 p (T.getD i default).p hpo.ok b3.ok (by omega) (by omega) (by omega) b4
    have hd0 := Wg_bound0 hpo b3 (i := p.length - 1) (j := (T.getD i default).p.length - 1) (by omega) (by omega)
    have hd1 : 0 ≤ dist p (T.getD i default).p ∧ dist p (T.getD i default).p ≤ 1000000 := hd0
    obtain ⟨hd2, hd3⟩ := hd1
    have hs1 := smallest (dist p (T.getD i default).p / 16) [1000] (by simp)
    simp only [go_sem, Pt.d, Tpl.d, pL, mtH, mapO, brdB, bdD, chE_set, chE_app, chE_le, m2H, kv_fold]
    refine wgoF (And.intro (@h1) (And.intro (@hget) (And.intro (@Pt.d.eq_1) (And.intro (@Tpl.d.eq_1) (And.intro (@pL.eq_1) (And.intro (@mtH.eq_1) (And.intro (@mapO.eq_1) (And.intro (@brdB.eq_1) (And.intro (@bdD.eq_1) (And.intro (@chE_set) (And.intro (@chE_app) (And.intro (@chE_le) (And.intro (@m2H.eq_1) (@kv_fold)))))))))))))) ?_
    refine wcallF (hd) (And.intro (@Pt.d.eq_1) (And.intro (@Tpl.d.eq_1) (And.intro (@pL.eq_1) (And.intro (@mtH.eq_1) (And.intro (@mapO.eq_1) (And.intro (@brdB.eq_1) (And.intro (@bdD.eq_1) (And.intro (@chE_set) (And.intro (@chE_app) (And.intro (@chE_le) (And.intro (@m2H.eq_1) (@kv_fold)))))))))))) ?_
    refine wgoF (And.intro (@Pt.d.eq_1) (And.intro (@Tpl.d.eq_1) (And.intro (@pL.eq_1) (And.intro (@mtH.eq_1) (And.intro (@mapO.eq_1) (And.intro (@brdB.eq_1) (And.intro (@bdD.eq_1) (And.intro (@chE_set) (And.intro (@chE_app) (And.intro (@chE_le) (And.intro (@m2H.eq_1) (@kv_fold)))))))))))) ?_
    have hdv : divT (dist p (T.getD i default).p) 16 = dist p (T.getD i default).p / 16 := divT_nn hd2
    refine wcallF (hs1) (And.intro (@hdv) (And.intro (@iD.eq_1) (And.intro (@Pt.d.eq_1) (And.intro (@Tpl.d.eq_1) (And.intro (@pL.eq_1) (And.intro (@mtH.eq_1) (And.intro (@mapO.eq_1) (And.intro (@brdB.eq_1) (And.intro (@bdD.eq_1) (And.intro (@chE_set) (And.intro (@chE_app) (And.intro (@chE_le) (And.intro (@m2H.eq_1) (@kv_fold)))))))))))))) ?_
    have hc1 : leastI (dist p (T.getD i default).p / 16) [1000] = cst p (T.getD i default).p := least1 _ _
    rw [hc1]
    generalize hmi : costsF p (T.take i) = m
    have hstep := take_step (p := p) hlt
    rw [hmi] at hstep
    cases hlook : lookC m (T.getD i default).key with
    | none =>
      have hf : findP (.int .u8 (T.getD i default).key) (chE m) = some none := by rw [findE, hlook]; rfl
      have hst : costsF p (T.take (i + 1)) = m ++ [⟨(T.getD i default).key, cst p (T.getD i default).p⟩] := by rw [hstep, stepC, putC, hlook]
      refine wgoF (And.intro (@hf) (And.intro (@Pt.d.eq_1) (And.intro (@Tpl.d.eq_1) (And.intro (@pL.eq_1) (And.intro (@mtH.eq_1) (And.intro (@mapO.eq_1) (And.intro (@brdB.eq_1) (And.intro (@bdD.eq_1) (And.intro (@chE_set) (And.intro (@chE_app) (And.intro (@chE_le) (And.intro (@m2H.eq_1) (@kv_fold))))))))))))) ?_
      exact wnxtF (ih ⟨i + 1, by omega⟩) (And.intro (@hst) (And.intro (@Pt.d.eq_1) (And.intro (@Tpl.d.eq_1) (And.intro (@pL.eq_1) (And.intro (@mtH.eq_1) (And.intro (@mapO.eq_1) (And.intro (@brdB.eq_1) (And.intro (@bdD.eq_1) (And.intro (@chE_set) (And.intro (@chE_app) (And.intro (@chE_le) (And.intro (@m2H.eq_1) (@kv_fold)))))))))))))
    | some q =>
      obtain ⟨j, old⟩ := q
      have hf : findP (.int .u8 (T.getD i default).key) (chE m) = some (some (j, .d (.int .i64 old))) := by rw [findE, hlook]; rfl
      have hst : costsF p (T.take (i + 1)) = m.set j ⟨(T.getD i default).key, leastI old [cst p (T.getD i default).p]⟩ := by rw [hstep, stepC, putC, hlook, least1]
      have hs2 := smallest old [cst p (T.getD i default).p] (by simp)
      refine wgoF (And.intro (@hf) (And.intro (@Pt.d.eq_1) (And.intro (@Tpl.d.eq_1) (And.intro (@pL.eq_1) (And.intro (@mtH.eq_1) (And.intro (@mapO.eq_1) (And.intro (@brdB.eq_1) (And.intro (@bdD.eq_1) (And.intro (@chE_set) (And.intro (@chE_app) (And.intro (@chE_le) (And.intro (@m2H.eq_1) (@kv_fold))))))))))))) ?_
      refine wcallF (hs2) (And.intro (@Pt.d.eq_1) (And.intro (@Tpl.d.eq_1) (And.intro (@pL.eq_1) (And.intro (@mtH.eq_1) (And.intro (@mapO.eq_1) (And.intro (@brdB.eq_1) (And.intro (@bdD.eq_1) (And.intro (@chE_set) (And.intro (@chE_app) (And.intro (@chE_le) (And.intro (@m2H.eq_1) (@kv_fold)))))))))))) ?_
      refine wgoF (And.intro (@hf) (And.intro (@Pt.d.eq_1) (And.intro (@Tpl.d.eq_1) (And.intro (@pL.eq_1) (And.intro (@mtH.eq_1) (And.intro (@mapO.eq_1) (And.intro (@brdB.eq_1) (And.intro (@bdD.eq_1) (And.intro (@chE_set) (And.intro (@chE_app) (And.intro (@chE_le) (And.intro (@m2H.eq_1) (@kv_fold))))))))))))) ?_
      exact wnxtF (ih ⟨i + 1, by omega⟩) (And.intro (@hst) (And.intro (@Pt.d.eq_1) (And.intro (@Tpl.d.eq_1) (And.intro (@pL.eq_1) (And.intro (@mtH.eq_1) (And.intro (@mapO.eq_1) (And.intro (@brdB.eq_1) (And.intro (@bdD.eq_1) (And.intro (@chE_set) (And.intro (@chE_app) (And.intro (@chE_le) (And.intro (@m2H.eq_1) (@kv_fold)))))))))))))
  · have h1 : ¬ (i : Int) < T.length := by omega
    have hti : T.take i = T := List.take_of_length_le (by omega)
    generalize hmm : costsF p T = m at hm hnd hkr hsorted
    have hskl : (sortK (m.map (·.k))).length = m.length := by rw [(sortK_perm _).length_eq, List.length_map]
    simp only [go_sem, hti, hmm, Pt.d, Tpl.d, pL, mtH, mapO, brdB, bdD, chE_set, chE_app, chE_le, m2H, kv_fold]
    (apply Run.freezeRow 24; (case ho => simp only [go_sem, Pt.d, Tpl.d, pL, mtH, mapO, brdB, bdD, chE_set, chE_app, chE_le, m2H, kv_fold]; rfl); (case hsz => intro e he; obtain ⟨x, _, rfl⟩ := List.mem_map.1 he; rfl); (case hit => rfl); (case hs => simp only [go_sem, Pt.d, Tpl.d, pL, mtH, mapO, brdB, bdD, chE_set, chE_app, chE_le, m2H, kv_fold]; rfl))
    refine wgoF (And.intro (@h1) (And.intro (@Pt.d.eq_1) (And.intro (@Tpl.d.eq_1) (And.intro (@pL.eq_1) (And.intro (@mtH.eq_1) (And.intro (@mapO.eq_1) (And.intro (@brdB.eq_1) (And.intro (@bdD.eq_1) (And.intro (@chE_set) (And.intro (@chE_app) (And.intro (@chE_le) (And.intro (@m2H.eq_1) (@kv_fold))))))))))))) ?_
    refine wcallF (keys25 m) (And.intro (@Pt.d.eq_1) (And.intro (@Tpl.d.eq_1) (And.intro (@pL.eq_1) (And.intro (@mtH.eq_1) (And.intro (@mapO.eq_1) (And.intro (@brdB.eq_1) (And.intro (@bdD.eq_1) (And.intro (@chE_set) (And.intro (@chE_app) (And.intro (@chE_le) (And.intro (@m2H.eq_1) (@kv_fold)))))))))))) ?_
    refine wgoF (And.intro (@Pt.d.eq_1) (And.intro (@Tpl.d.eq_1) (And.intro (@pL.eq_1) (And.intro (@mtH.eq_1) (And.intro (@mapO.eq_1) (And.intro (@brdB.eq_1) (And.intro (@bdD.eq_1) (And.intro (@chE_set) (And.intro (@chE_app) (And.intro (@chE_le) (And.intro (@m2H.eq_1) (@kv_fold)))))))))))) ?_
    refine wcallF (hsorted) (And.intro (@Pt.d.eq_1) (And.intro (@Tpl.d.eq_1) (And.intro (@pL.eq_1) (And.intro (@mtH.eq_1) (And.intro (@mapO.eq_1) (And.intro (@brdB.eq_1) (And.intro (@bdD.eq_1) (And.intro (@chE_set) (And.intro (@chE_app) (And.intro (@chE_le) (And.intro (@m2H.eq_1) (@kv_fold)))))))))))) ?_
    refine wgoF (And.intro (@Pt.d.eq_1) (And.intro (@Tpl.d.eq_1) (And.intro (@pL.eq_1) (And.intro (@mtH.eq_1) (And.intro (@mapO.eq_1) (And.intro (@brdB.eq_1) (And.intro (@bdD.eq_1) (And.intro (@chE_set) (And.intro (@chE_app) (And.intro (@chE_le) (And.intro (@m2H.eq_1) (@kv_fold)))))))))))) ?_
    (apply Run.full 12 1012 62 1000002; (case hi => simp only [go_sem, Pt.d, Tpl.d, pL, mtH, mapO, brdB, bdD, chE_set, chE_app, chE_le, m2H, kv_fold]; rfl); (case ht => simp only [go_sem, Pt.d, Tpl.d, pL, mtH, mapO, brdB, bdD, chE_set, chE_app, chE_le, m2H, kv_fold]); (case hmn => first | exact Or.inl (by decide) | exact Or.inr rfl); (case hs => simp only [go_sem, Pt.d, Tpl.d, pL, mtH, mapO, brdB, bdD, chE_set, chE_app, chE_le, m2H, kv_fold]; rfl))
    refine wlpF (Run.loop (ι := { k : Nat // k ≤ m.length }) (H := fun i => m2H bd m T 1012 i.1) (μ := fun i => m.length - i.1) (i0 := ⟨0, by omega⟩)) (And.intro (@hskl) (And.intro (@Pt.d.eq_1) (And.intro (@Tpl.d.eq_1) (And.intro (@pL.eq_1) (And.intro (@mtH.eq_1) (And.intro (@mapO.eq_1) (And.intro (@brdB.eq_1) (And.intro (@bdD.eq_1) (And.intro (@chE_set) (And.intro (@chE_app) (And.intro (@chE_le) (And.intro (@m2H.eq_1) (@kv_fold))))))))))))) ?_
    rintro ⟨k, hk⟩ ih
    by_cases hkt : k < m.length
    · have h2 : (k : Int) < m.length := by omega
      have hks : k < (sortK (m.map (·.k))).length := by omega
      have hgk := b_get hks
      have hmem : (sortK (m.map (·.k))).getD k 0 ∈ m.map (·.k) := by
        have e : (sortK (m.map (·.k))).getD k 0 = (sortK (m.map (·.k)))[k] := by simp [hks]
        rw [e]; exact (sortK_perm _).mem_iff.1 (List.getElem_mem hks)
      obtain ⟨j, hlook⟩ := look_mem hmem
      have hf : findP (.int .u8 ((sortK (m.map (·.k))).getD k 0)) (pairsP (kvD m)) = some (some (j, .d (.int .i64 (costAt m ((sortK (m.map (·.k))).getD k 0))))) := by rw [pairs_kv, findE, hlook]; rfl
      have hsl := slot_len m
      have hlen : ((slotF m).take k).length ≤ 100 := by rw [List.length_take]; omega
      simp only [go_sem, Pt.d, Tpl.d, pL, mtH, mapO, brdB, bdD, chE_set, chE_app, chE_le, m2H, kv_fold]
      refine wgoF (And.intro (@h2) (And.intro (@hgk) (And.intro (@hf) (And.intro (@Pt.d.eq_1) (And.intro (@Tpl.d.eq_1) (And.intro (@pL.eq_1) (And.intro (@mtH.eq_1) (And.intro (@mapO.eq_1) (And.intro (@brdB.eq_1) (And.intro (@bdD.eq_1) (And.intro (@chE_set) (And.intro (@chE_app) (And.intro (@chE_le) (And.intro (@m2H.eq_1) (@kv_fold))))))))))))))) ?_
      apply Run.forget (s' := m2H bd m T 71 (k + 1)); (case htk => simp only [go_sem, slot_succ hks, Pt.d, Tpl.d, pL, mtH, mapO, brdB, bdD, chE_set, chE_app, chE_le, m2H, kv_fold]); (case hob => simp only [go_sem, slot_succ hks, Pt.d, Tpl.d, pL, mtH, mapO, brdB, bdD, chE_set, chE_app, chE_le, m2H, kv_fold]); (case htm => ((try (simp only [go_sem, slot_succ hks, Pt.d, Tpl.d, pL, mtH, mapO, brdB, bdD, chE_set, chE_app, chE_le, m2H, kv_fold])); (try ((repeat' apply And.intro) <;> first | rfl | omega | skip))))
      (apply Run.ren 71 1012; (case ht => simp only [go_sem, Pt.d, Tpl.d, pL, mtH, mapO, brdB, bdD, chE_set, chE_app, chE_le, m2H, kv_fold]; rfl); (case ht' => simp only [go_sem, Pt.d, Tpl.d, pL, mtH, mapO, brdB, bdD, chE_set, chE_app, chE_le, m2H, kv_fold]); (case hs => simp only [go_sem, Pt.d, Tpl.d, pL, mtH, mapO, brdB, bdD, chE_set, chE_app, chE_le, m2H, kv_fold]; rfl))
      exact wnxtF (ih ⟨k + 1, by omega⟩) (And.intro (@Pt.d.eq_1) (And.intro (@Tpl.d.eq_1) (And.intro (@pL.eq_1) (And.intro (@mtH.eq_1) (And.intro (@mapO.eq_1) (And.intro (@brdB.eq_1) (And.intro (@bdD.eq_1) (And.intro (@chE_set) (And.intro (@chE_app) (And.intro (@chE_le) (And.intro (@m2H.eq_1) (@kv_fold))))))))))))
    · have h2 : ¬ (k : Int) < m.length := by omega
      have hsl := slot_len m
      have hk2 : (slotF m).take k = slotF m := List.take_of_length_le (by omega)
      have h3 : ¬ (8 : Int) < ((slotF m).length : Int) := by omega
      simp only [go_sem, hk2, Pt.d, Tpl.d, pL, mtH, mapO, brdB, bdD, chE_set, chE_app, chE_le, m2H, kv_fold]
      refine wgoF (And.intro (@h2) (And.intro (@h3) (And.intro (@Pt.d.eq_1) (And.intro (@Tpl.d.eq_1) (And.intro (@pL.eq_1) (And.intro (@mtH.eq_1) (And.intro (@mapO.eq_1) (And.intro (@brdB.eq_1) (And.intro (@bdD.eq_1) (And.intro (@chE_set) (And.intro (@chE_app) (And.intro (@chE_le) (And.intro (@m2H.eq_1) (@kv_fold)))))))))))))) ?_
      exact wretF (And.intro (@Pt.d.eq_1) (And.intro (@Tpl.d.eq_1) (And.intro (@pL.eq_1) (And.intro (@mtH.eq_1) (And.intro (@mapO.eq_1) (And.intro (@brdB.eq_1) (And.intro (@bdD.eq_1) (And.intro (@chE_set) (And.intro (@chE_app) (And.intro (@chE_le) (And.intro (@m2H.eq_1) (@kv_fold))))))))))))
theorem match13_bad (bd : Bd) (T : List Tpl) (p : List Pt) (hbad : validB p = false ∨ T = []) : PCall Tryz.prog 114 [bdD bd T, .sl 2 (p.map Pt.d)] (.tup [.sl 2 [], .int .i64 220]) := by
  have hv := valid19 p
  cases hb : validB p with
  | false =>
    rw [hb] at hv
    refine enterP tabOk Tryz.func114 83 [0, 1, 2, 4, 5, 6, 8, 9, 10, 11, 12, 14, 23, 26, 27, 28, 29, 46, 58, 59, 60, 61, 75] [.tmp 4, .tmp 5] rfl (r := [_, _]) rfl (h := ?_); intro E hK; simp only [go_sem, Pt.d, Tpl.d, pL, mtH, mapO, brdB, bdD, chE_set, chE_app, chE_le, m2H, kv_fold]
    refine wgoF (And.intro (@Pt.d.eq_1) (And.intro (@Tpl.d.eq_1) (And.intro (@pL.eq_1) (And.intro (@mtH.eq_1) (And.intro (@mapO.eq_1) (And.intro (@brdB.eq_1) (And.intro (@bdD.eq_1) (And.intro (@chE_set) (And.intro (@chE_app) (And.intro (@chE_le) (And.intro (@m2H.eq_1) (@kv_fold)))))))))))) ?_
    refine wcallF (hv) (And.intro (@Pt.d.eq_1) (And.intro (@Tpl.d.eq_1) (And.intro (@pL.eq_1) (And.intro (@mtH.eq_1) (And.intro (@mapO.eq_1) (And.intro (@brdB.eq_1) (And.intro (@bdD.eq_1) (And.intro (@chE_set) (And.intro (@chE_app) (And.intro (@chE_le) (And.intro (@m2H.eq_1) (@kv_fold)))))))))))) ?_
    refine wgoF (And.intro (@Pt.d.eq_1) (And.intro (@Tpl.d.eq_1) (And.intro (@pL.eq_1) (And.intro (@mtH.eq_1) (And.intro (@mapO.eq_1) (And.intro (@brdB.eq_1) (And.intro (@bdD.eq_1) (And.intro (@chE_set) (And.intro (@chE_app) (And.intro (@chE_le) (And.intro (@m2H.eq_1) (@kv_fold)))))))))))) ?_
    exact wretF (And.intro (@Pt.d.eq_1) (And.intro (@Tpl.d.eq_1) (And.intro (@pL.eq_1) (And.intro (@mtH.eq_1) (And.intro (@mapO.eq_1) (And.intro (@brdB.eq_1) (And.intro (@bdD.eq_1) (And.intro (@chE_set) (And.intro (@chE_app) (And.intro (@chE_le) (And.intro (@m2H.eq_1) (@kv_fold))))))))))))
  | true =>
    have hT : T = [] := by
      rcases hbad with h | h
      · rw [hb] at h; cases h
      · exact h
    subst hT
    rw [hb] at hv
    have h0 : decide ((([] : List D).length : Int) = 0) = true := by simp
    have h00 : decide ((0 : Int) = 0) = true := by simp
    refine enterP tabOk Tryz.func114 83 [0, 1, 2, 4, 5, 6, 8, 9, 10, 11, 12, 14, 23, 26, 27, 28, 29, 46, 58, 59, 60, 61, 75] [.tmp 4, .tmp 5] rfl (r := [_, _]) rfl (h := ?_); intro E hK; simp only [go_sem, Pt.d, Tpl.d, pL, mtH, mapO, brdB, bdD, chE_set, chE_app, chE_le, m2H, kv_fold]
    refine wgoF (And.intro (@Pt.d.eq_1) (And.intro (@Tpl.d.eq_1) (And.intro (@pL.eq_1) (And.intro (@mtH.eq_1) (And.intro (@mapO.eq_1) (And.intro (@brdB.eq_1) (And.intro (@bdD.eq_1) (And.intro (@chE_set) (And.intro (@chE_app) (And.intro (@chE_le) (And.intro (@m2H.eq_1) (@kv_fold)))))))))))) ?_
    refine wcallF (hv) (And.intro (@Pt.d.eq_1) (And.intro (@Tpl.d.eq_1) (And.intro (@pL.eq_1) (And.intro (@mtH.eq_1) (And.intro (@mapO.eq_1) (And.intro (@brdB.eq_1) (And.intro (@bdD.eq_1) (And.intro (@chE_set) (And.intro (@chE_app) (And.intro (@chE_le) (And.intro (@m2H.eq_1) (@kv_fold)))))))))))) ?_
    refine wgoF (And.intro (@h0) (And.intro (@h00) (And.intro (@Pt.d.eq_1) (And.intro (@Tpl.d.eq_1) (And.intro (@pL.eq_1) (And.intro (@mtH.eq_1) (And.intro (@mapO.eq_1) (And.intro (@brdB.eq_1) (And.intro (@bdD.eq_1) (And.intro (@chE_set) (And.intro (@chE_app) (And.intro (@chE_le) (And.intro (@m2H.eq_1) (@kv_fold)))))))))))))) ?_
    exact wretF (And.intro (@Pt.d.eq_1) (And.intro (@Tpl.d.eq_1) (And.intro (@pL.eq_1) (And.intro (@mtH.eq_1) (And.intro (@mapO.eq_1) (And.intro (@brdB.eq_1) (And.intro (@bdD.eq_1) (And.intro (@chE_set) (And.intro (@chE_app) (And.intro (@chE_le) (And.intro (@m2H.eq_1) (@kv_fold))))))))))))
end Go.Proofs.YtojgjdcciojpeaaGreat
set_option linter.unusedSimpArgs false
set_option linter.unusedVariables false
namespace Go.Proofs.YtojgjdcciojpeaaGreat
open Go Go.PS

def lexK (c : Ch) : Int := c.c * 256 + c.k
theorem ins_lex (x : Ch) (hx : 0 ≤ x.k ∧ x.k ≤ 255) : ∀ r : List Ch, (∀ y ∈ r, 0 ≤ y.k ∧ y.k < x.k) → insRev (ltK (·.c)) x r = insRev (ltK lexK) x r
  | [], _ => rfl
  | y :: r, h => by
    have hy := h y (by simp)
    have e : ltK (·.c) x y = ltK lexK x y := by
      unfold ltK lexK
      exact decide_eq_decide.2 (by dsimp only; omega)
    simp only [insRev]
    rw [e, ins_lex x hx r fun z hz => h z (by simp [hz])]
theorem fold_lex : ∀ (l r : List Ch), l.Pairwise (fun a b => a.k < b.k) → (∀ x ∈ l, 0 ≤ x.k ∧ x.k ≤ 255 ∧ ∀ y ∈ r, 0 ≤ y.k ∧ y.k < x.k) → l.foldl (fun r x => insRev (ltK (·.c)) x r) r = l.foldl (fun r x => insRev (ltK lexK) x r) r
  | [], r, _, _ => rfl
  | x :: l, r, hp, h => by
    obtain ⟨h1, h2⟩ := List.pairwise_cons.1 hp
    have hx := h x (by simp)
    rw [List.foldl_cons, List.foldl_cons, ins_lex x ⟨hx.1, hx.2.1⟩ r hx.2.2]
    refine fold_lex l _ h2 fun z hz => ?_
    have h3 := h z (by simp [hz])
    refine ⟨h3.1, h3.2.1, fun y hy => ?_⟩
    rcases List.mem_cons.1 ((insRev_perm _ x r).mem_iff.1 hy) with rfl | hy
    · exact ⟨hx.1, h1 z hz⟩
    · exact h3.2.2 y hy
theorem isort_lex {l : List Ch} (hp : l.Pairwise (fun a b => a.k < b.k)) (h : ∀ x ∈ l, 0 ≤ x.k ∧ x.k ≤ 255) : isort (ltK (·.c)) l.length l 1 = isort (ltK lexK) l.length l 1 := by
  rw [isort_eq, isort_eq, fold_lex l [] hp fun x hx => ⟨(h x hx).1, (h x hx).2, fun y hy => by cases hy⟩]
/-- The eight cheapest, by letter. -/
def bestF (l : List Ch) : List Ch := if l.length ≤ 8 then l else isort (ltK (·.k)) 8 ((isort (ltK (·.c)) l.length l 1).take 8) 1
end Go.Proofs.YtojgjdcciojpeaaGreat
set_option linter.unusedSimpArgs false
set_option linter.unusedVariables false
namespace Go.Proofs.YtojgjdcciojpeaaGreat
open Go Go.PS
set_option maxRecDepth 100000
set_option maxHeartbeats 4000000
--%extra hE
def cmpI (a b : Int) : Int := if a < b then -1 else if b < a then 1 else 0
theorem cmpI_neg (a b : Int) : cmpI a b < 0 ↔ a < b := by unfold cmpI; split <;> (try split) <;> omega
theorem cmpI_bd (a b : Int) : -1 ≤ cmpI a b ∧ cmpI a b ≤ 1 := by unfold cmpI; split <;> (try split) <;> omega
theorem nan38 (a : Int) : PCall Tryz.prog 149 [.int .i64 a] (.bool false) := by
  have h : decide (a = a) = true := by simp
  refine enterP tabOk Tryz.func149 6 [0, 2] [.tmp 2] rfl (r := [_]) rfl (h := ?_); intro E hK; simp only [go_sem]
  refine wgoF (@h) ?_
  exact wret
theorem cmp28 (a b : Int) : PCall Tryz.prog 129 [.int .i64 a, .int .i64 b] (.int .i64 (cmpI a b)) := by
  by_cases h1 : a < b
  · have e : cmpI a b = -1 := by unfold cmpI; rw [if_pos h1]
    refine enterP tabOk Tryz.func129 20 [0, 1, 4, 5, 6, 11, 12, 13, 16, 19] [.tmp 4] rfl (r := [_]) rfl (h := ?_); intro E hK; simp only [go_sem]
    refine wgo ?_
    refine wcall (nan38 a) ?_
    refine wgo ?_
    refine wcall (nan38 b) ?_
    refine wgoF (@h1) ?_
    exact wretF (@e)
  · by_cases h2 : b < a
    · have e : cmpI a b = 1 := by unfold cmpI; rw [if_neg h1, if_pos h2]
      refine enterP tabOk Tryz.func129 20 [0, 1, 4, 5, 6, 11, 12, 13, 16, 19] [.tmp 4] rfl (r := [_]) rfl (h := ?_); intro E hK; simp only [go_sem]
      refine wgo ?_
      refine wcall (nan38 a) ?_
      refine wgo ?_
      refine wcall (nan38 b) ?_
      refine wgoF (And.intro (@h1) (@h2)) ?_
      exact wretF (@e)
    · have e : cmpI a b = 0 := by unfold cmpI; rw [if_neg h1, if_neg h2]
      refine enterP tabOk Tryz.func129 20 [0, 1, 4, 5, 6, 11, 12, 13, 16, 19] [.tmp 4] rfl (r := [_]) rfl (h := ?_); intro E hK; simp only [go_sem]
      refine wgo ?_
      refine wcall (nan38 a) ?_
      refine wgo ?_
      refine wcall (nan38 b) ?_
      refine wgoF (And.intro (@h1) (@h2)) ?_
      exact wretF (@e)
theorem cmp31 (a b : Int) : PCall Tryz.prog 127 [.int .u8 a, .int .u8 b] (.int .i64 (cmpI a b)) := by
  by_cases h1 : a < b
  · have e : cmpI a b = -1 := by unfold cmpI; rw [if_pos h1]
    refine enterP tabOk Tryz.func127 20 [0, 1, 4, 5, 6, 11, 12, 13, 16, 19] [.tmp 4] rfl (r := [_]) rfl (h := ?_); intro E hK; simp only [go_sem]
    refine wgo ?_
    refine wcall (nan41 a) ?_
    refine wgo ?_
    refine wcall (nan41 b) ?_
    refine wgoF (@h1) ?_
    exact wretF (@e)
  · by_cases h2 : b < a
    · have e : cmpI a b = 1 := by unfold cmpI; rw [if_neg h1, if_pos h2]
      refine enterP tabOk Tryz.func127 20 [0, 1, 4, 5, 6, 11, 12, 13, 16, 19] [.tmp 4] rfl (r := [_]) rfl (h := ?_); intro E hK; simp only [go_sem]
      refine wgo ?_
      refine wcall (nan41 a) ?_
      refine wgo ?_
      refine wcall (nan41 b) ?_
      refine wgoF (And.intro (@h1) (@h2)) ?_
      exact wretF (@e)
    · have e : cmpI a b = 0 := by unfold cmpI; rw [if_neg h1, if_neg h2]
      refine enterP tabOk Tryz.func127 20 [0, 1, 4, 5, 6, 11, 12, 13, 16, 19] [.tmp 4] rfl (r := [_]) rfl (h := ?_); intro E hK; simp only [go_sem]
      refine wgo ?_
      refine wcall (nan41 a) ?_
      refine wgo ?_
      refine wcall (nan41 b) ?_
      refine wgoF (And.intro (@h1) (@h2)) ?_
      exact wretF (@e)

theorem by27 (a b : Ch) : PCall Tryz.prog 137 [a.d, b.d] (.int .i64 (cmpI a.c b.c)) := by
  refine enterP tabOk Tryz.func137 10 [0, 1, 2, 3, 4] [.tmp 4] rfl (r := [_]) rfl (h := ?_); intro E hK; simp only [go_sem, Ch.d]
  refine wgoF (@Ch.d.eq_1) ?_
  refine wcallF (cmp28 a.c b.c) (@Ch.d.eq_1) ?_
  refine wgoF (@Ch.d.eq_1) ?_
  exact wretF (@Ch.d.eq_1)
theorem by30 (a b : Ch) : PCall Tryz.prog 139 [a.d, b.d] (.int .i64 (cmpI a.k b.k)) := by
  refine enterP tabOk Tryz.func139 10 [0, 1, 2, 3, 4] [.tmp 4] rfl (r := [_]) rfl (h := ?_); intro E hK; simp only [go_sem, Ch.d]
  refine wgoF (@Ch.d.eq_1) ?_
  refine wcallF (cmp31 a.k b.k) (@Ch.d.eq_1) ?_
  refine wgoF (@Ch.d.eq_1) ?_
  exact wretF (@Ch.d.eq_1)
theorem chE_len (l : List Ch) : (chE l).length = l.length := by simp [chE]
theorem chE_get {l : List Ch} {k : Nat} (h : k < l.length) : (chE l).getD k .any = .agg [.d (.int .u8 (l.getD k default).k), .d (.int .i64 (l.getD k default).c)] := by simp [chE, h, Ch.d, PV.ofD.PV.ofD1]
theorem chE_set2 (m : List Ch) (i : Nat) (c : Ch) : (chE m).set i (.agg [.d (.int .u8 c.k), .d (.int .i64 c.c)]) = chE (m.set i c) := chE_set m i c.k c.c
theorem chE_fold (l : List Ch) : List.map PV.ofD.PV.ofD1 (List.map Ch.d l) = chE l := rfl
def cO (l : List Ch) : OB := ⟨62, 2, chE l⟩
def cPO (l : List Ch) : PO := ⟨5000, 62, 2, l.map Ch.d⟩
theorem cPO_el (l : List Ch) : ∀ q ∈ [cPO l], ∀ e ∈ q.elems, e.cells.length = q.sz := by
  intro q hq e he
  simp only [List.mem_singleton] at hq
  subst hq
  obtain ⟨x, _, rfl⟩ := List.mem_map.1 he
  rfl
def is44H (g n : Nat) (z : List Ch) (i : Nat) : SL := SL.mk [(0, .hrow 5000 2 0 n n), (1, .d (.int .i64 0)), (2, .d (.int .i64 n)), (3, .fn (.func g) [] []), (8, .d (.int .i64 i))] [(5000, some (cO z))] []
def is44J (g n : Nat) (z : List Ch) (i j : Nat) : SL := SL.mk [(0, .hrow 5000 2 0 n n), (1, .d (.int .i64 0)), (2, .d (.int .i64 n)), (3, .fn (.func g) [] []), (8, .d (.int .i64 i)), (9, .d (.int .i64 j))] [(5000, some (cO z))] []

theorem isort44 (g : Nat) (key : Ch → Int) (hg : ∀ a b : Ch, PCall Tryz.prog g [a.d, b.d] (.int .i64 (cmpI (key a) (key b)))) (l : List Ch) (hl : l.length ≤ 1000) :
    MCall Tryz.prog 164 [cPO l] [.hrow 5000 2 0 l.length l.length, .d (.int .i64 0), .d (.int .i64 l.length), .d (.fn (.func g) [] [])] (.tup []) [cPO (isort (ltK key) l.length l 1)] := by
  refine enterM tabOk Tryz.func164 53 [0, 1, 2, 3, 8, 9, 14, 34] [] rfl (r := []) rfl (cPO_el l) (ids_one rfl) (h := ?_); intro E hK; simp only [go_sem, is44H, is44J, cO, chE_len, chE_set2, chE_le, cPO, chE_fold]
  refine wgoF (And.intro (@is44H.eq_1) (And.intro (@is44J.eq_1) (And.intro (@cO.eq_1) (And.intro (@chE_len) (And.intro (@chE_set2) (And.intro (@chE_le) (And.intro (@cPO.eq_1) (@chE_fold)))))))) ?_
  refine wlpF (Run.loop (ι := { x : Nat × List Ch × Nat // x.2.1.length = l.length ∧ isort (ltK key) x.2.2 x.2.1 x.1 = isort (ltK key) l.length l 1 ∧ l.length ≤ x.1 + x.2.2 }) (H := fun i => is44H g l.length i.1.2.1 i.1.1) (μ := fun i => l.length - i.1.1) (i0 := ⟨(1, l, l.length), rfl, rfl, by dsimp only; omega⟩)) (And.intro (@is44H.eq_1) (And.intro (@is44J.eq_1) (And.intro (@cO.eq_1) (And.intro (@chE_len) (And.intro (@chE_set2) (And.intro (@chE_le) (And.intro (@cPO.eq_1) (@chE_fold)))))))) ?_
  rintro ⟨⟨i, z, fu⟩, hz, hs, hfu⟩ ih0
  dsimp only at hz hs hfu
  by_cases hlt : i < l.length
  · have h1 : (i : Int) < l.length := by omega
    have hs2 : isort (ltK key) (fu - 1) (bubble (ltK key) z i) (i + 1) = isort (ltK key) l.length l 1 := by
      obtain ⟨fu', rfl⟩ : ∃ f, fu = f + 1 := ⟨fu - 1, by omega⟩
      rw [← hs, isort, if_pos (by omega)]; rfl
    simp only [go_sem, is44H, is44J, cO, chE_len, chE_set2, chE_le, cPO, chE_fold]
    refine wgoF (And.intro (@h1) (And.intro (@is44H.eq_1) (And.intro (@is44J.eq_1) (And.intro (@cO.eq_1) (And.intro (@chE_len) (And.intro (@chE_set2) (And.intro (@chE_le) (And.intro (@cPO.eq_1) (@chE_fold))))))))) ?_
    refine wlpF (Run.loop (ι := { x : Nat × List Ch // x.2.length = l.length ∧ x.1 ≤ i ∧ bubble (ltK key) x.2 x.1 = bubble (ltK key) z i }) (H := fun j => is44J g l.length j.1.2 i j.1.1) (μ := fun j => j.1.1) (i0 := ⟨(i, z), hz, Nat.le_refl _, rfl⟩)) (And.intro (@is44H.eq_1) (And.intro (@is44J.eq_1) (And.intro (@cO.eq_1) (And.intro (@chE_len) (And.intro (@chE_set2) (And.intro (@chE_le) (And.intro (@cPO.eq_1) (@chE_fold)))))))) ?_
    rintro ⟨⟨j, y⟩, hy, hj, hb⟩ ih
    dsimp only at hy hj hb
    cases j with
    | zero =>
      have h2 : ¬ (0 : Int) < ((0 : Nat) : Int) := by omega
      have hyz : y = bubble (ltK key) z i := by rw [← hb]; rfl
      simp only [go_sem, is44H, is44J, cO, chE_len, chE_set2, chE_le, cPO, chE_fold]
      refine wgoF (And.intro (@h2) (And.intro (@is44H.eq_1) (And.intro (@is44J.eq_1) (And.intro (@cO.eq_1) (And.intro (@chE_len) (And.intro (@chE_set2) (And.intro (@chE_le) (And.intro (@cPO.eq_1) (@chE_fold))))))))) ?_
      exact wnxtF (ih0 ⟨(i + 1, y, fu - 1), by rw [hyz, bubble_len]; exact hz, by rw [hyz]; exact hs2, by dsimp only; omega⟩) (And.intro (@is44H.eq_1) (And.intro (@is44J.eq_1) (And.intro (@cO.eq_1) (And.intro (@chE_len) (And.intro (@chE_set2) (And.intro (@chE_le) (And.intro (@cPO.eq_1) (@chE_fold))))))))
    | succ j =>
      have h2 : (0 : Int) < ((j + 1 : Nat) : Int) := by omega
      have m1 : (((j + 1 : Nat) : Int) - 1).toNat = j := by omega
      have e1 := chE_get (l := y) (k := j + 1) (by omega)
      have e2 := chE_get (l := y) (k := j) (by omega)
      have e3 := chE_get (l := y.set (j + 1) (y.getD j default)) (k := j) (by simp; omega)
      have hcmp := hg (y.getD (j + 1) default) (y.getD j default)
      have hlen2 : j + 1 < y.length := by omega
      cases hc : ltK key (y.getD (j + 1) default) (y.getD j default) with
      | true =>
        have hb2 : bubble (ltK key) ((y.set (j + 1) (y.getD j default)).set j (y.getD (j + 1) default)) j = bubble (ltK key) z i := by rw [← hb, bubble, if_pos hc]
        have hc2 : cmpI (key (y.getD (j + 1) default)) (key (y.getD j default)) < 0 := (cmpI_neg _ _).2 (of_decide_eq_true hc)
        simp only [go_sem, is44H, is44J, cO, chE_len, chE_set2, chE_le, cPO, chE_fold]
        refine wgoF (And.intro (@h2) (And.intro (@m1) (And.intro (@e1) (And.intro (@e2) (And.intro (@is44H.eq_1) (And.intro (@is44J.eq_1) (And.intro (@cO.eq_1) (And.intro (@chE_len) (And.intro (@chE_set2) (And.intro (@chE_le) (And.intro (@cPO.eq_1) (@chE_fold)))))))))))) ?_
        refine wcallF (hcmp) (And.intro (@is44H.eq_1) (And.intro (@is44J.eq_1) (And.intro (@cO.eq_1) (And.intro (@chE_len) (And.intro (@chE_set2) (And.intro (@chE_le) (And.intro (@cPO.eq_1) (@chE_fold)))))))) ?_
        refine wgoF (And.intro (@h2) (And.intro (@m1) (And.intro (@e1) (And.intro (@e2) (And.intro (@e3) (And.intro (@hc2) (And.intro (@is44H.eq_1) (And.intro (@is44J.eq_1) (And.intro (@cO.eq_1) (And.intro (@chE_len) (And.intro (@chE_set2) (And.intro (@chE_le) (And.intro (@cPO.eq_1) (@chE_fold)))))))))))))) ?_
        exact wnxtF (ih ⟨(j, (y.set (j + 1) (y.getD j default)).set j (y.getD (j + 1) default)), by simpa using hy, by omega, hb2⟩) (And.intro (@is44H.eq_1) (And.intro (@is44J.eq_1) (And.intro (@cO.eq_1) (And.intro (@chE_len) (And.intro (@chE_set2) (And.intro (@chE_le) (And.intro (@cPO.eq_1) (@chE_fold))))))))
      | false =>
        have hb2 : y = bubble (ltK key) z i := by rw [← hb, bubble, if_neg (by rw [hc]; simp)]
        have hc2 : ¬ cmpI (key (y.getD (j + 1) default)) (key (y.getD j default)) < 0 := fun h => of_decide_eq_false hc ((cmpI_neg _ _).1 h)
        simp only [go_sem, is44H, is44J, cO, chE_len, chE_set2, chE_le, cPO, chE_fold]
        refine wgoF (And.intro (@h2) (And.intro (@m1) (And.intro (@e1) (And.intro (@e2) (And.intro (@is44H.eq_1) (And.intro (@is44J.eq_1) (And.intro (@cO.eq_1) (And.intro (@chE_len) (And.intro (@chE_set2) (And.intro (@chE_le) (And.intro (@cPO.eq_1) (@chE_fold)))))))))))) ?_
        refine wcallF (hcmp) (And.intro (@is44H.eq_1) (And.intro (@is44J.eq_1) (And.intro (@cO.eq_1) (And.intro (@chE_len) (And.intro (@chE_set2) (And.intro (@chE_le) (And.intro (@cPO.eq_1) (@chE_fold)))))))) ?_
        refine wgoF (And.intro (@hc2) (And.intro (@is44H.eq_1) (And.intro (@is44J.eq_1) (And.intro (@cO.eq_1) (And.intro (@chE_len) (And.intro (@chE_set2) (And.intro (@chE_le) (And.intro (@cPO.eq_1) (@chE_fold))))))))) ?_
        exact wnxtF (ih0 ⟨(i + 1, y, fu - 1), by rw [hb2, bubble_len]; exact hz, by rw [hb2]; exact hs2, by dsimp only; omega⟩) (And.intro (@is44H.eq_1) (And.intro (@is44J.eq_1) (And.intro (@cO.eq_1) (And.intro (@chE_len) (And.intro (@chE_set2) (And.intro (@chE_le) (And.intro (@cPO.eq_1) (@chE_fold))))))))
  · have h1 : ¬ (i : Int) < l.length := by omega
    have hs2 : z = isort (ltK key) l.length l 1 := by
      rw [← hs]
      cases fu with
      | zero => rfl
      | succ f => rw [isort, if_neg (by omega)]
    subst hs2
    simp only [go_sem, is44H, is44J, cO, chE_len, chE_set2, chE_le, cPO, chE_fold]
    refine wgoF (And.intro (@h1) (And.intro (@is44H.eq_1) (And.intro (@is44J.eq_1) (And.intro (@cO.eq_1) (And.intro (@chE_len) (And.intro (@chE_set2) (And.intro (@chE_le) (And.intro (@cPO.eq_1) (@chE_fold))))))))) ?_
    exact wretF (And.intro (@is44H.eq_1) (And.intro (@is44J.eq_1) (And.intro (@cO.eq_1) (And.intro (@chE_len) (And.intro (@chE_set2) (And.intro (@chE_le) (And.intro (@cPO.eq_1) (@chE_fold))))))))
end Go.Proofs.YtojgjdcciojpeaaGreat
namespace Go.Proofs
open Go.Shelf
def Tryz.sortCh_ren : Go.Shelf.Ren := ⟨fun | 6 => 150 | 15 => 158 | 14 => 157 | 28 => 173 | 29 => 174 | 20 => 164 | 21 => 166 | 22 => 167 | 23 => 168 | 24 => 169 | 25 => 170 | 26 => 171 | 27 => 172 | 46 => 186 | 47 => 187 | 48 => 188 | 49 => 189 | 50 => 190 | 57 => 195 | n => n, fun | 22 => 63 | 24 => 62 | 25 => 172 | 3 => 3 | 39 => 194 | 0 => 0 | 53 => 208 | 55 => 210 | 4 => 4 | 46 => 202 | 45 => 201 | 50 => 52 | 5 => 5 | 9 => 9 | 66 => 218 | 70 => 222 | 76 => 226 | 77 => 227 | n => n, fun | n => n⟩
theorem Tryz.sortCh : Go.Proofs.SlLaysF0.n6 Tryz.prog Tryz.sortCh_ren := {
  mixed := by kernel_rfl
  f6 := ⟨Tryz.f150.name, by decide, Tryz.func150.trans (congrArg some (by kernel_rfl))⟩
  f14 := ⟨Tryz.f157.name, by decide, Tryz.func157.trans (congrArg some (by kernel_rfl))⟩
  f15 := Tryz.func158.trans (congrArg some (by kernel_rfl))
  f20 := ⟨Tryz.f164.name, by decide, Tryz.func164.trans (congrArg some (by kernel_rfl))⟩
  f21 := ⟨Tryz.f166.name, by decide, Tryz.func166.trans (congrArg some (by kernel_rfl))⟩
  f22 := ⟨Tryz.f167.name, by decide, Tryz.func167.trans (congrArg some (by kernel_rfl))⟩
  f23 := ⟨Tryz.f168.name, by decide, Tryz.func168.trans (congrArg some (by kernel_rfl))⟩
  f24 := ⟨Tryz.f169.name, by decide, Tryz.func169.trans (congrArg some (by kernel_rfl))⟩
  f25 := ⟨Tryz.f170.name, by decide, Tryz.func170.trans (congrArg some (by kernel_rfl))⟩
  f26 := ⟨Tryz.f171.name, by decide, Tryz.func171.trans (congrArg some (by kernel_rfl))⟩
  f27 := ⟨Tryz.f172.name, by decide, Tryz.func172.trans (congrArg some (by kernel_rfl))⟩
  f28 := Tryz.func173.trans (congrArg some (by kernel_rfl))
  f29 := Tryz.func174.trans (congrArg some (by kernel_rfl))
  f46 := ⟨Tryz.f186.name, by decide, Tryz.func186.trans (congrArg some (by kernel_rfl))⟩
  f47 := Tryz.func187.trans (congrArg some (by kernel_rfl))
  f48 := Tryz.func188.trans (congrArg some (by kernel_rfl))
  f49 := ⟨Tryz.f189.name, by decide, Tryz.func189.trans (congrArg some (by kernel_rfl))⟩
  f50 := ⟨Tryz.f190.name, by decide, Tryz.func190.trans (congrArg some (by kernel_rfl))⟩
  f57 := ⟨Tryz.f195.name, by decide, Tryz.func195.trans (congrArg some (by kernel_rfl))⟩
  t0 := Tryz.underlying0
  a0 := Tryz.isAgg0
  z0 := Tryz.sizeOf0
  v0 := Tryz.zeroValue0
  t3 := Tryz.underlying3
  a3 := Tryz.isAgg3
  z3 := Tryz.sizeOf3
  v3 := Tryz.zeroValue3
  t4 := Tryz.underlying4
  a4 := Tryz.isAgg4
  z4 := Tryz.sizeOf4
  v4 := Tryz.zeroValue4
  t5 := Tryz.underlying5
  a5 := Tryz.isAgg5
  z5 := Tryz.sizeOf5
  v5 := Tryz.zeroValue5
  t9 := Tryz.underlying9
  a9 := Tryz.isAgg9
  z9 := Tryz.sizeOf9
  v9 := Tryz.zeroValue9
  t22 := Tryz.underlying63
  a22 := Tryz.isAgg63
  z22 := Tryz.sizeOf63
  v22 := Tryz.zeroValue63
  t25 := Tryz.underlying172
  a25 := Tryz.isAgg172
  z25 := Tryz.sizeOf172
  v25 := Tryz.zeroValue172
  t39 := Tryz.underlying194
  a39 := Tryz.isAgg194
  z39 := Tryz.sizeOf194
  v39 := Tryz.zeroValue194
  t45 := Tryz.underlying201
  a45 := Tryz.isAgg201
  z45 := Tryz.sizeOf201
  v45 := Tryz.zeroValue201
  t46 := Tryz.underlying202
  a46 := Tryz.isAgg202
  z46 := Tryz.sizeOf202
  v46 := Tryz.zeroValue202
  t50 := Tryz.underlying52
  a50 := Tryz.isAgg52
  z50 := Tryz.sizeOf52
  v50 := Tryz.zeroValue52
  t53 := Tryz.underlying208
  a53 := Tryz.isAgg208
  z53 := Tryz.sizeOf208
  v53 := Tryz.zeroValue208
  t55 := Tryz.underlying210
  a55 := Tryz.isAgg210
  z55 := Tryz.sizeOf210
  v55 := Tryz.zeroValue210
  t66 := Tryz.underlying218
  a66 := Tryz.isAgg218
  z66 := Tryz.sizeOf218
  v66 := Tryz.zeroValue218
  t70 := Tryz.underlying222
  a70 := Tryz.isAgg222
  z70 := Tryz.sizeOf222
  v70 := Tryz.zeroValue222
  t76 := Tryz.underlying226
  a76 := Tryz.isAgg226
  z76 := Tryz.sizeOf226
  v76 := Tryz.zeroValue226
  t77 := Tryz.underlying227
  a77 := Tryz.isAgg227
  z77 := Tryz.sizeOf227
  v77 := Tryz.zeroValue227 }
end Go.Proofs
set_option linter.unusedSimpArgs false
set_option linter.unusedVariables false
namespace Go.Proofs.YtojgjdcciojpeaaGreat
open Go Go.RowKit Go.Sort Go.Shelf Go.Proofs Go.PS
set_option maxRecDepth 100000
set_option maxHeartbeats 4000000
/-! The comparisons of area.Touch, at the worlds that a sort goes through: they lay blocks, no more. -/
theorem nanI (x : Int) (W : World) : Calls Tryz.prog 149 #[.int .i64 x] W fun e w' => e = .returned (.bool false) ∧ w' = W := by
  go_enter Tryz.func149, Tryz.ntmps149
  go_wp2
  go_ret
  exact ⟨by simp, rfl⟩
theorem nanB (x : Int) (W : World) : Calls Tryz.prog 148 #[.int .u8 x] W fun e w' => e = .returned (.bool false) ∧ w' = W := by
  go_enter Tryz.func148, Tryz.ntmps148
  go_wp2
  go_ret
  exact ⟨by simp, rfl⟩
theorem cmpInt (x y : Int) (W : World) : Calls Tryz.prog 129 #[.int .i64 x, .int .i64 y] W fun e w' => e = .returned (.int .i64 (cmpI x y)) ∧ w' = W := by
  go_enter Tryz.func129, Tryz.ntmps129
  go_wp2_with (go_at_call 149; refine (nanI _ _).mono ?_; rintro e w' ⟨rfl, rfl⟩)
  all_goals go_ret
  all_goals (refine ⟨?_, rfl⟩; unfold cmpI; split <;> (try split) <;> first | rfl | (exfalso; omega))
theorem cmpByte (x y : Int) (W : World) : Calls Tryz.prog 127 #[.int .u8 x, .int .u8 y] W fun e w' => e = .returned (.int .i64 (cmpI x y)) ∧ w' = W := by
  go_enter Tryz.func127, Tryz.ntmps127
  go_wp2_with (go_at_call 148; refine (nanB _ _).mono ?_; rintro e w' ⟨rfl, rfl⟩)
  all_goals go_ret
  all_goals (refine ⟨?_, rfl⟩; unfold cmpI; split <;> (try split) <;> first | rfl | (exfalso; omega))
/-- A choice's two cells. -/
def encC (c : Ch) : List Value := [.int .u8 c.k, .int .i64 c.c]
theorem byK (x y : Ch) (W : World) : Calls Tryz.prog 126 #[.agg (encC x).toArray, .agg (encC y).toArray] W fun e w' => e = .returned (.int .i64 (cmpI x.k y.k)) ∧ ∃ q os', w' = grow (W.drewN q) os' := by
  have hcon := fun W' => cmpByte x.k y.k W'
  generalize cmpI x.k y.k = r at hcon ⊢
  show Calls Tryz.prog 126 #[.agg #[.int .u8 x.k, .int .i64 x.c], .agg #[.int .u8 y.k, .int .i64 y.c]] W _
  go_enter Tryz.func126, Tryz.ntmps126
  go_wp2_with (go_at_call 127; refine (hcon _).mono ?_; rintro e w' ⟨rfl, rfl⟩)
  go_ret
  exact ⟨rfl, 0, _, by rw [alloc_eq_grow, alloc_eq_grow, grow_grow]; rfl⟩
theorem byC (x y : Ch) (W : World) : Calls Tryz.prog 128 #[.agg (encC x).toArray, .agg (encC y).toArray] W fun e w' => e = .returned (.int .i64 (cmpI x.c y.c)) ∧ ∃ q os', w' = grow (W.drewN q) os' := by
  have hcon := fun W' => cmpInt x.c y.c W'
  generalize cmpI x.c y.c = r at hcon ⊢
  show Calls Tryz.prog 128 #[.agg #[.int .u8 x.k, .int .i64 x.c], .agg #[.int .u8 y.k, .int .i64 y.c]] W _
  go_enter Tryz.func128, Tryz.ntmps128
  go_wp2_with (go_at_call 129; refine (hcon _).mono ?_; rintro e w' ⟨rfl, rfl⟩)
  go_ret
  exact ⟨rfl, 0, _, by rw [alloc_eq_grow, alloc_eq_grow, grow_grow]; rfl⟩
/-- The comparison that area.order makes of one function. -/
theorem ord1 (pb po sb so c : Nat) (W : World) (hp : W.cell? ⟨pb, po, none⟩ = some (.slice (some ⟨sb, so, none⟩) 1 c)) (hs : W.cell? ⟨sb, so, none⟩ = some (.func (.func 126) #[] #[])) (hpl : pb < W.heap.size) (hsl : sb < W.heap.size) (x y : Ch) :
    Calls Tryz.prog 151 #[.agg (encC x).toArray, .agg (encC y).toArray, .pointer (some ⟨pb, po, none⟩)] W fun e w' => e = .returned (.int .i64 (cmpI x.k y.k)) ∧ ∃ q os', w' = grow (W.drewN q) os' := by
  show Calls Tryz.prog 151 #[.agg #[.int .u8 x.k, .int .i64 x.c], .agg #[.int .u8 y.k, .int .i64 y.c], .pointer (some ⟨pb, po, none⟩)] W _
  unfold cmpI
  go_enter Tryz.func151, Tryz.ntmps151
  go_wp2
  go_rounds 2
  all_goals go_ret
  all_goals (refine ⟨?_, 0, _, by simp only [alloc_eq_grow, grow_grow]; rfl⟩)
  all_goals (first | rfl | (split <;> (try split) <;> first | rfl | (exfalso; omega)))
/-- By cost, by letter. -/
def cmpL (x y : Ch) : Int := if cmpI x.c y.c ≠ 0 then cmpI x.c y.c else cmpI x.k y.k
theorem boxes (W : World) (o1 o2 : Obj) (q : Nat) (os' : Array Obj) : grow (((W.alloc o1).alloc o2).drewN q) os' = grow (W.drewN q) (#[o1] ++ (#[o2] ++ os')) := by
  show grow (((W.drewN q).alloc o1).alloc o2) os' = _
  rw [alloc_eq_grow, alloc_eq_grow, grow_grow, grow_grow]
theorem boxes_old (W : World) (q : Nat) (os : Array Obj) (a : Addr) (h : a.block < W.heap.size) : (grow (W.drewN q) os).cell? a = W.cell? a := cell?_grow (W.drewN q) os a h
theorem heap_at (W : World) (q : Nat) (os : Array Obj) (i : Nat) : (grow (W.drewN q) os).heap[W.heap.size + i]? = os[i]? := by
  show (W.heap ++ os)[W.heap.size + i]? = _
  rw [Array.getElem?_append_right (by omega)]
  congr 1; omega
theorem boxes_new (W : World) (q : Nat) (cs : Array Value) (ty : TypeId) (os : Array Obj) (i j : Nat) (v : Value) (h : os[i]? = some (Obj.cells cs ty)) (hv : cs[j]? = some v) : (grow (W.drewN q) os).cell? ⟨W.heap.size + i, j, none⟩ = some v := by
  simp [World.cell?, heap_at, h, hv]
theorem at0 (a b : Obj) (c : Array Obj) : (#[a] ++ (#[b] ++ c))[0]? = some a := by
  rw [Array.getElem?_append_left (by simp)]; rfl
theorem at1 (a b : Obj) (c : Array Obj) : (#[a] ++ (#[b] ++ c))[1]? = some b := by
  rw [Array.getElem?_append_right (by simp), Array.getElem?_append_left (by simp)]; rfl
theorem ord2 (pb po sb so c : Nat) (W : World) (hp : W.cell? ⟨pb, po, none⟩ = some (.slice (some ⟨sb, so, none⟩) 2 c)) (hs : W.cell? ⟨sb, so, none⟩ = some (.func (.func 128) #[] #[])) (hs2 : W.cell? ⟨sb, so + 1, none⟩ = some (.func (.func 126) #[] #[])) (hpl : pb < W.heap.size) (hsl : sb < W.heap.size) (x y : Ch) :
    Calls Tryz.prog 151 #[.agg (encC x).toArray, .agg (encC y).toArray, .pointer (some ⟨pb, po, none⟩)] W fun e w' => e = .returned (.int .i64 (cmpL x y)) ∧ ∃ q os', w' = grow (W.drewN q) os' := by
  have hcon := fun W' => byK x y W'
  have hcon2 := fun W' => byC x y W'
  unfold cmpL
  show Calls Tryz.prog 151 #[.agg #[.int .u8 x.k, .int .i64 x.c], .agg #[.int .u8 y.k, .int .i64 y.c], .pointer (some ⟨pb, po, none⟩)] W _
  change ∀ W', Calls Tryz.prog 126 #[.agg #[.int .u8 x.k, .int .i64 x.c], .agg #[.int .u8 y.k, .int .i64 y.c]] W' _ at hcon
  change ∀ W', Calls Tryz.prog 128 #[.agg #[.int .u8 x.k, .int .i64 x.c], .agg #[.int .u8 y.k, .int .i64 y.c]] W' _ at hcon2
  generalize cmpI x.k y.k = r at hcon ⊢
  generalize cmpI x.c y.c = s at hcon2 ⊢
  by_cases h0 : s = 0
  case neg =>
    have e : (if s ≠ 0 then s else r) = s := if_pos h0
    simp only [e]
    clear e
    have h0' : decide (s = 0) = false := decide_eq_false h0
    go_enter Tryz.func151, Tryz.ntmps151
    go_wp2
    refine wp_loop_rounds 3 ?_
    rw [rounds_succ]
    go_wp2_with (go_at_call 128; refine (hcon2 _).mono ?_; rintro e w' ⟨rfl, q, os', rfl⟩)
    all_goals (rw [boxes])
    all_goals first
      | (exfalso; omega)
      | (go_ret; exact ⟨rfl, _, _, rfl⟩)
  subst h0
  have e : (if (0 : Int) ≠ 0 then (0 : Int) else r) = r := if_neg (by simp)
  simp only [e]
  clear e
  go_enter Tryz.func151, Tryz.ntmps151
  go_wp2
  refine wp_loop_rounds 3 ?_
  rw [rounds_succ]
  go_wp2_with (go_at_call 128; refine (hcon2 _).mono ?_; rintro e w' ⟨rfl, q, os', rfl⟩)
  rw [boxes]
  have x1 := (boxes_old W q (#[Obj.cells #[.int .u8 x.k, .int .i64 x.c] 62] ++ (#[Obj.cells #[.int .u8 y.k, .int .i64 y.c] 62] ++ os')) ⟨sb, so + 1, none⟩ hsl).trans hs2
  have x2 := boxes_new W q #[.int .u8 x.k, .int .i64 x.c] 62 (#[Obj.cells #[.int .u8 x.k, .int .i64 x.c] 62] ++ (#[Obj.cells #[.int .u8 y.k, .int .i64 y.c] 62] ++ os')) 0 0 (.int .u8 x.k) (at0 _ _ _) rfl
  have x3 := boxes_new W q #[.int .u8 x.k, .int .i64 x.c] 62 (#[Obj.cells #[.int .u8 x.k, .int .i64 x.c] 62] ++ (#[Obj.cells #[.int .u8 y.k, .int .i64 y.c] 62] ++ os')) 0 1 (.int .i64 x.c) (at0 _ _ _) rfl
  have x4 := boxes_new W q #[.int .u8 y.k, .int .i64 y.c] 62 (#[Obj.cells #[.int .u8 x.k, .int .i64 x.c] 62] ++ (#[Obj.cells #[.int .u8 y.k, .int .i64 y.c] 62] ++ os')) 1 0 (.int .u8 y.k) (at1 _ _ _) rfl
  have x5 := boxes_new W q #[.int .u8 y.k, .int .i64 y.c] 62 (#[Obj.cells #[.int .u8 x.k, .int .i64 x.c] 62] ++ (#[Obj.cells #[.int .u8 y.k, .int .i64 y.c] 62] ++ os')) 1 1 (.int .i64 y.c) (at1 _ _ _) rfl
  rw [Nat.add_zero] at x2 x3
  generalize (#[Obj.cells #[.int .u8 x.k, .int .i64 x.c] 62] ++ (#[Obj.cells #[.int .u8 y.k, .int .i64 y.c] 62] ++ os')) = os2 at x1 x2 x3 x4 x5 ⊢
  have fin : ∀ q2 os3, ∃ q3 os4, grow ((grow (W.drewN q) os2).drewN q2) os3 = grow (W.drewN q3) os4 := by
    intro q2 os3
    refine ⟨q + q2, os2 ++ os3, ?_⟩
    show grow (grow ((W.drewN q).drewN q2) os2) os3 = _
    rw [grow_grow]
    simp only [World.drewN, Nat.add_assoc]
  have fin0 : ∃ q3 os4, grow (W.drewN q) os2 = grow (W.drewN q3) os4 := ⟨q, os2, rfl⟩
  generalize grow (W.drewN q) os2 = X at x1 x2 x3 x4 x5 fin fin0 ⊢
  clear hcon2 hp hs hs2
  rw [rounds_succ]
  go_wp2_with (go_at_call 126; refine (hcon _).mono ?_; rintro e w' ⟨rfl, q2, os2, rfl⟩)
  all_goals first
    | (go_ret; exact ⟨rfl, fin _ _⟩)
    | (have hr0 : (r != 0) = false := by assumption
       have hr1 : r = 0 := by simpa using hr0
       clear hr0
       subst hr1
       rw [rounds_succ]
       go_wp2
       go_ret
       exact ⟨rfl, fin _ _⟩)
end Go.Proofs.YtojgjdcciojpeaaGreat
set_option linter.unusedSimpArgs false
set_option linter.unusedVariables false
namespace Go.Proofs.YtojgjdcciojpeaaGreat
open Go Go.RowKit Go.Sort Go.Shelf Go.Proofs Go.PS
set_option maxRecDepth 100000
set_option maxHeartbeats 4000000
/-- What the comparison has bound: a variable that holds the functions. -/
def caps1 : D := .ref [.sl 1 [.fn (.func 126) [] []]]
def caps2 : D := .ref [.sl 1 [.fn (.func 128) [] [], .fn (.func 126) [] []]]
theorem fn_inv {K : Nat → Nat → Option Value} {f : Fn} {v : Value} (h : RepD K (.fn f [] []) v) : v = .func f #[] #[] := by
  cases h with
  | fn _ _ _ vf vc hlf hlc hf hc =>
    have e1 : vf = [] := List.eq_nil_of_length_eq_zero (by simpa using hlf.symm)
    have e2 : vc = [] := List.eq_nil_of_length_eq_zero (by simpa using hlc.symm)
    subst e1; subst e2; rfl
theorem caps1_inv {K : Nat → Nat → Option Value} {v : Value} (h : RepD K caps1 v) : ∃ pb po sb so c, v = .pointer (some ⟨pb, po, none⟩) ∧ K pb po = some (.slice (some ⟨sb, so, none⟩) 1 c) ∧ K sb so = some (.func (.func 126) #[] #[]) := by
  unfold caps1 at h
  cases h with
  | ref _ b o f hk h1 hr =>
    have k0 := hk 0 _ rfl
    have r0 := hr 0 _ rfl
    generalize f 0 = q at k0 r0
    cases r0 with
    | sl _ _ a c b' o' f' hc ha hs hk' h1' hr' =>
      have hav := ha (by simp)
      subst hav
      have kk := hk' 0 0 _ _ rfl rfl
      have rr := hr' 0 0 _ _ rfl rfl
      have e := fn_inv rr
      rw [e] at kk
      exact ⟨b, o, b', o', c, rfl, by simpa using k0, by simpa using kk⟩
theorem caps2_inv {K : Nat → Nat → Option Value} {v : Value} (h : RepD K caps2 v) : ∃ pb po sb so c, v = .pointer (some ⟨pb, po, none⟩) ∧ K pb po = some (.slice (some ⟨sb, so, none⟩) 2 c) ∧ K sb so = some (.func (.func 128) #[] #[]) ∧ K sb (so + 1) = some (.func (.func 126) #[] #[]) := by
  unfold caps2 at h
  cases h with
  | ref _ b o f hk h1 hr =>
    have k0 := hk 0 _ rfl
    have r0 := hr 0 _ rfl
    generalize f 0 = q at k0 r0
    cases r0 with
    | sl _ _ a c b' o' f' hc ha hs hk' h1' hr' =>
      have hav := ha (by simp)
      subst hav
      have kk := hk' 0 0 _ _ rfl rfl
      have e := fn_inv (hr' 0 0 _ _ rfl rfl)
      rw [e] at kk
      have kk2 := hk' 1 0 _ _ rfl rfl
      have e2 := fn_inv (hr' 1 0 _ _ rfl rfl)
      rw [e2] at kk2
      exact ⟨b, o, b', o', c, rfl, by simpa using k0, by simpa using kk, by simpa using kk2⟩
/-- A cell that is known stays as it is in the worlds of the sort. -/
theorem sort_cell {K : Nat → Nat → Option Value} {w : World} (hK : KSub K w) {b o : Nat} {v : Value} (h : K b o = some v) (h1 : v.oneCell' = true) {blk : Nat} (hfree : ∀ off, K blk off = none) (enc : Ch → List Value) (k off m : Nat) (dk : Array Ch) (os : Array Obj) :
    (sortWorldK enc k w blk off m dk os).cell? ⟨b, o, none⟩ = some v ∧ b < (sortWorldK enc k w blk off m dk os).heap.size := by
  have hne : b ≠ blk := fun e => by rw [e, hfree] at h; cases h
  have hlt := hK.lt h
  have hc := (hK b o v h).cell h1
  have hsz : (putRowK enc k (Sort.ahead w m) blk off dk).heap.size = w.heap.size := by simp [putRowK, Sort.ahead]
  refine ⟨?_, ?_⟩
  · unfold sortWorldK
    rw [cell?_grow _ _ _ (by rw [hsz]; exact hlt)]
    unfold putRowK
    rw [cell?_putRow_other _ _ _ _ _ _ (.inl hne)]
    exact hc
  · unfold sortWorldK grow
    simp only [Array.size_append, hsz]; omega
theorem lays1 {K : Nat → Nat → Option Value} {w : World} (hK : KSub K w) {pv : Value} (h : RepD K caps1 pv) {blk : Nat} (hfree : ∀ off, K blk off = none) (off size : Nat) : CmpLays Tryz.prog 151 #[pv] encC 2 (fun x y => cmpI x.k y.k) blk off size w := by
  intro m os dk hs x y
  obtain ⟨pb, po, sb, so, c, rfl, h1, h2⟩ := caps1_inv h
  obtain ⟨q1, q2⟩ := sort_cell hK h1 rfl hfree encC 2 off m dk os
  obtain ⟨q3, q4⟩ := sort_cell hK h2 rfl hfree encC 2 off m dk os
  exact ord1 pb po sb so c _ q1 q3 q2 q4 x y
theorem lays2 {K : Nat → Nat → Option Value} {w : World} (hK : KSub K w) {pv : Value} (h : RepD K caps2 pv) {blk : Nat} (hfree : ∀ off, K blk off = none) (off size : Nat) : CmpLays Tryz.prog 151 #[pv] encC 2 cmpL blk off size w := by
  intro m os dk hs x y
  obtain ⟨pb, po, sb, so, c, rfl, h1, h2, h3⟩ := caps2_inv h
  obtain ⟨q1, q2⟩ := sort_cell hK h1 rfl hfree encC 2 off m dk os
  obtain ⟨q3, q4⟩ := sort_cell hK h2 rfl hfree encC 2 off m dk os
  obtain ⟨q5, q6⟩ := sort_cell hK h3 rfl hfree encC 2 off m dk os
  exact ord2 pb po sb so c _ q1 q3 q5 q2 q4 x y
end Go.Proofs.YtojgjdcciojpeaaGreat
set_option linter.unusedSimpArgs false
set_option linter.unusedVariables false
namespace Go.Proofs.YtojgjdcciojpeaaGreat
open Go Go.RowKit Go.Sort Go.Shelf Go.Proofs Go.PS
set_option maxRecDepth 100000
set_option maxHeartbeats 4000000
theorem flat_at : ∀ (l : List Ch) (t : Nat), t < l.length * 2 → (l.flatMap encC)[t]? = some ((encC (l.getD (t / 2) default)).getD (t % 2) default)
  | [], t, h => by simp at h
  | c :: l, 0, h => by simp [encC]
  | c :: l, 1, h => by simp [encC]
  | c :: l, t + 2, h => by
    have e1 : (t + 2) / 2 = t / 2 + 1 := by omega
    have e2 : (t + 2) % 2 = t % 2 := by omega
    rw [List.flatMap_cons, e1, e2, List.getD_cons_succ]
    show ([Value.int .u8 c.k, .int .i64 c.c] ++ l.flatMap encC)[t + 2]? = _
    rw [List.getElem?_append_right (by simp)]
    simp only [List.length_cons, List.length_nil, Nat.add_sub_cancel]
    exact flat_at l t (by simp at h; omega)
theorem flatK_eq (l : List Ch) : flatK encC 2 l.toArray = (l.flatMap encC).toArray := by
  have hlen : (l.flatMap encC).length = l.length * 2 := by
    have := flatMap_len (fun c => encC c) 2 l (fun c _ => rfl)
    omega
  apply Array.ext
  · simp [hlen]
  · intro i h1 h2
    have hi : i < l.length * 2 := by simpa using h1
    have e1 := get_flatK encC 2 l.toArray i (by simpa using hi)
    rw [getElem!_pos _ i h1] at e1
    rw [e1]
    have e2 := flat_at l i hi
    have e3 : (l.flatMap encC).toArray[i] = (l.flatMap encC)[i]'(by simpa using h2) := by simp
    rw [e3]
    have e4 := List.getElem?_eq_getElem (l := l.flatMap encC) (i := i) (by omega)
    rw [e2] at e4
    have e5 := Option.some.inj e4
    rw [← e5]
    have h5 : i / 2 < l.length := by omega
    have h6 : i % 2 < 2 := Nat.mod_lt _ (by omega)
    have e6 : l.toArray[i / 2]! = l.getD (i / 2) default := by simp [h5]
    rw [e6]
    generalize l.getD (i / 2) default = c
    have : i % 2 = 0 ∨ i % 2 = 1 := by omega
    rcases this with h | h <;> rw [h] <;> rfl
theorem put_all (F cs spare : Array Value) (h : F.size = cs.size) : putCells id 0 F (cs ++ spare) = F ++ spare := by
  apply Array.ext
  · simp [putCells, h]
  · intro i h1 h2
    simp only [putCells, Array.getElem_mapIdx, Nat.zero_le, true_and, Nat.zero_add, Nat.sub_zero, id]
    by_cases hi : i < F.size
    · rw [if_pos hi, Array.getElem_append_left hi, getElem!_pos _ i hi]
    · rw [if_neg hi, Array.getElem_append_right (by omega), Array.getElem_append_right (by omega)]
      congr 1; omega
end Go.Proofs.YtojgjdcciojpeaaGreat
set_option linter.unusedSimpArgs false
set_option linter.unusedVariables false
namespace Go.Proofs.YtojgjdcciojpeaaGreat
open Go Go.RowKit Go.Sort Go.Shelf Go.Proofs Go.PS
set_option maxRecDepth 100000
set_option maxHeartbeats 4000000
theorem heap_other (w : World) (blk n : Nat) (d : Array Ch) (os : Array Obj) (b : Nat) (hb : b < w.heap.size) (hne : b ≠ blk) : (sortWorldK encC 2 w blk 0 n d os).heap[b]? = w.heap[b]? := by
  unfold sortWorldK grow putRowK putRow mapBlock Sort.ahead
  dsimp only
  rw [Array.getElem?_append_left (by simpa using hb), Array.getElem?_modify, if_neg (by omega)]
theorem heap_row (w : World) (blk n : Nat) (l l' : List Ch) (os : Array Obj) (cs spare : Array Value) (ty : TypeId) (h : w.heap[blk]? = some (.cells (cs ++ spare) ty (0, 0))) (hcs : cs.size = l'.length * 2) :
    (sortWorldK encC 2 w blk 0 n l'.toArray os).heap[blk]? = some (.cells ((l'.flatMap encC).toArray ++ spare) ty (0, 0)) := by
  have hb : blk < w.heap.size := (Array.getElem?_eq_some_iff.1 h).1
  unfold sortWorldK grow putRowK putRow mapBlock Sort.ahead
  dsimp only
  rw [Array.getElem?_append_left (by simpa using hb), Array.getElem?_modify, if_pos rfl, h, flatK_eq]
  simp only [Option.map_some, onCells]
  rw [put_all _ _ _ (by rw [← flatK_eq]; simp [hcs])]
theorem eg151 : ∀ args w, (callFunc 151 args).run Tryz.prog w = .ok (.enter 151 args) w := enters_of Tryz.func151 (by kernel_rfl) rfl
theorem rep_enc {K : Nat → Nat → Option Value} : ∀ l0 : List Ch, RepDL K (kvD l0) (l0.flatMap encC)
  | [] => .nil
  | c :: r => .cons (.int _ _) (.cons (.int _ _) (rep_enc r))
def fnD (caps : D) : D := .fn (.func 151) [] [caps]
theorem sortM (caps : D) (hcd : PV.ofD (fnD caps) = .fn (.func 151) [] [.d caps]) (cf : Ch → Ch → Int) (hO : SWO (ltOf cf))
    (hL : ∀ (K : Nat → Nat → Option Value) (w : World), KSub K w → ∀ pv, RepD K caps pv → ∀ blk, (∀ off, K blk off = none) → ∀ off size, CmpLays Tryz.prog 151 #[pv] encC 2 cf blk off size w)
    (l l0 : List Ch) (hl : l.length ≤ 100000) (hU : ∀ l' : List Ch, l'.Perm l → l'.Pairwise (fun a b => ltOf cf b a = false) → l' = l0) :
    MCall Tryz.prog 150 [cPO l] [.hrow 5000 2 0 l.length l.length, .d (fnD caps)] (.tup []) [cPO l0] := by
  refine ⟨⟨_, Tryz.func150, rfl, by first | decide | kernel_rfl⟩, fun K m w vs hK hsup hpre hinj hargs => ?_⟩
  obtain ⟨⟨blk, s, cs, spare, hm, hheap, hrep, h1, hfree⟩, blk', hm'⟩ := hpre _ (List.mem_singleton.2 rfl)
  rw [hm] at hm'
  cases hm'
  have hm2 : m 5000 = some (blk, 2) := hm
  have hargs2 : RepL ⟨K, m, fun _ => none⟩ [.hrow 5000 2 0 l.length l.length, PV.ofD (fnD caps)] vs := hargs
  rw [hcd] at hargs2
  obtain ⟨v0, r0, rfl, hv0, hr0⟩ := hargs2.cons_inv
  obtain ⟨v1, r1, rfl, hv1, hr1⟩ := hr0.cons_inv
  have hr1n : r1 = [] := List.eq_nil_of_length_eq_zero (by simpa using hr1.1.symm)
  subst hr1n
  have hcsl : cs.toList = l.flatMap encC := kv_rep l _ hrep
  have hcs : cs = (l.flatMap encC).toArray := by apply Array.ext'; simpa using hcsl
  have hlen2 : (l.flatMap encC).length = l.length * 2 := by
    have := flatMap_len (fun c => encC c) 2 l (fun c _ => rfl); omega
  have hheap2 : w.heap[blk]? = some (.cells (cs ++ spare) 62 (0, 0)) := hheap
  have hb : blk < w.heap.size := (Array.getElem?_eq_some_iff.1 hheap2).1
  cases hv0 with
  | hrow hg hc hle =>
  rename_i cap blk0
  have hg2 : m 5000 = some (blk0, 2) := hg
  rw [hm2] at hg2
  cases hg2
  cases hv1 with
  | fn _ _ _ vf vc hlf hlc hf hcc =>
  have evf : vf = [] := List.eq_nil_of_length_eq_zero (by simpa using hlf.symm)
  subst evf
  obtain ⟨pv, rfl⟩ : ∃ pv, vc = [pv] := by
    match vc, hlc with
    | [pv], _ => exact ⟨pv, rfl⟩
  have hpv : RepD K caps pv := by
    have := hcc 0 (.d caps) pv rfl rfl
    cases this with | d h => exact h
  have hH : HoldsK encC 2 w blk 0 l.toArray := by
    intro j hj
    rw [flatK_eq] at hj ⊢
    have hj2 : j < (l.flatMap encC).length := by simpa using hj
    have hget : (cs ++ spare)[j]? = some ((l.flatMap encC)[j]) := by
      rw [hcs, Array.getElem?_append_left (by simpa using hj2)]; simp
    refine ⟨?_, ?_⟩
    · rw [Nat.zero_add, getElem!_pos _ j hj]
      simp [World.cell?, hheap2, hget]
    · simp [World.frozen?, hheap2]
  have hcall := AnyQ.slices_SortFunc Tryz.sortCh 2 Tryz.isAgg62 Tryz.sizeOf62 encC (fun _ => rfl) (fun x v hv => by simp [encC] at hv; rcases hv with rfl | rfl <;> rfl) cf hO 151 #[pv] blk 0 cap l.toArray w eg151 (hL K w hK pv hpv blk hfree 0 l.toArray.size) hH hb (by simp; omega)
  change Calls Tryz.prog 150 #[.slice (some ⟨blk, 0, none⟩) l.toArray.size cap, .func (.func 151) #[] #[pv]] w _ at hcall
  have hargsE : (#[.slice (some ⟨blk, 0 * 2, none⟩) l.length cap, .func (.func 151) #[] #[pv]] : Array Value) = #[.slice (some ⟨blk, 0, none⟩) l.toArray.size cap, .func (.func 151) #[] #[pv]] := by simp
  show Calls Tryz.prog _ #[.slice (some ⟨blk, 0 * 2, none⟩) l.length cap, .func (.func 151) #[] #[pv]] w _
  rw [hargsE]
  refine hcall.mono fun e w' ⟨he, d', n, os, hp, hs, hw⟩ => ?_
  obtain ⟨hp1, hp2, hp3⟩ := hp
  have hd : d' = l0.toArray := by
    have e1 : d'.extract 0 l.toArray.size = d' := by rw [← hp1]; simp
    have e2 : l.toArray.extract 0 l.toArray.size = l.toArray := by simp
    rw [e1, e2] at hp3
    have := hU d'.toList (by simpa using hp3) (by
      rw [List.pairwise_iff_getElem]
      intro i j hi hj hij
      have h9 := hs i j (Nat.zero_le _) hij (by rw [← hp1]; simpa using hj)
      have hi' : i < d'.size := by simpa using hi
      have hj' : j < d'.size := by simpa using hj
      rw [getElem!_pos d' i hi', getElem!_pos d' j hj'] at h9
      simpa using h9)
    rw [← this]
  subst hd
  subst hw
  have hl0 : l0.length = l.length := by simpa using hp1
  have hsz : w.heap.size ≤ (sortWorldK encC 2 w blk 0 n l0.toArray os).heap.size := by
    unfold sortWorldK grow putRowK putRow mapBlock Sort.ahead
    simp
  have hrow := heap_row w blk n l l0 os cs spare _ hheap2 (by rw [hcs]; simp [hlen2, hl0])
  refine ⟨.tuple #[], K, he, RepD.tup_iff.2 ⟨[], rfl, .nil⟩, KLe.refl _, ?_, ⟨rfl, rfl, rfl, hsz, ?_⟩, fun b o h => absurd rfl h, ?_⟩
  · intro b o v hk
    have hne : b ≠ blk := fun e => by rw [e, hfree] at hk; cases hk
    exact (hK b o v hk).block (heap_other w blk n _ os b (hK.lt hk) hne)
  · intro k hk hM
    exact heap_other w blk n _ os k hk fun e => hM ⟨5000, 2, by rw [e]; exact hm2⟩
  · intro q hq
    simp only [List.mem_singleton] at hq
    subst hq
    refine ⟨blk, 2, (l0.flatMap encC).toArray, spare, hm2, ?_, ?_, ?_, hfree⟩
    · exact hrow
    · show RepDL K (kvD l0) (l0.flatMap encC).toArray.toList
      simp only [List.toList_toArray]
      exact rep_enc l0
    · intro u hu
      simp [encC] at hu
      obtain ⟨c, _, h | h⟩ := hu <;> rw [h] <;> rfl
end Go.Proofs.YtojgjdcciojpeaaGreat

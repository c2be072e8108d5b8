/-
  A part of the walks of this seat: each theorem says what a function of the program gives. No condition beyond its own premises.
-/
import Derived.Deep.Slices
import Derived.OpenShut
import Derived.Below
import Derived.Carry
import Derived.WalkKit
import Derived.ProofKit
import Derived.ShutString
import Derived.ChangeOld
import Derived.Test.YtojgjdcciojpeaaGreatD8
set_option linter.unusedSimpArgs false
set_option linter.unusedVariables false
namespace Go.PS
open Go Go.RowKit

/-- Data that look at no memory. -/
def D.dry : D → Bool
  | .sl _ xs => xs.isEmpty
  | .ref cs => cs.isEmpty
  | .map _ => false
  | .agg cs => dryL cs
  | .tup cs => dryL cs
  | .fn _ a b => dryL a && dryL b
  | _ => true
where
  dryL : List D → Bool
  | [] => true
  | x :: xs => D.dry x && dryL xs

theorem dryL_all : ∀ l : List D, D.dry.dryL l = l.all D.dry
  | [] => rfl
  | x :: l => by simp [D.dry.dryL, dryL_all l]

theorem RepD.dry {K K' : Nat → Nat → Option Value} {x : D} {v : Value} (h : RepD K x v) (hx : x.dry = true) : RepD K' x v := by
  induction h with
  | bool b => exact .bool b
  | int k n => exact .int k n
  | str l => exact .str l
  | sl sz xs a c b o f hc ha hs hk h1 hr ih =>
    have : xs = [] := by simpa [D.dry] using hx
    subst this
    exact .sl sz [] a c b o f hc ha hs (fun i j x d h => by simp at h) h1 (fun i j x d h => by simp at h)
  | agg cs vs hl h1 hr ih =>
    simp only [D.dry, dryL_all, List.all_eq_true] at hx
    exact .agg cs vs hl h1 fun i d v hd hv => ih i d v hd hv (hx d (List.mem_of_getElem? hd))
  | tup cs vs hl hr ih =>
    simp only [D.dry, dryL_all, List.all_eq_true] at hx
    exact .tup cs vs hl fun i d v hd hv => ih i d v hd hv (hx d (List.mem_of_getElem? hd))
  | ref cs b o f hk h1 hr ih =>
    have : cs = [] := by simpa [D.dry] using hx
    subst this
    exact .ref [] b o f (fun j d h => by simp at h) (fun j d h => by simp at h) (fun j d h => by simp at h)
  | fn f first caps vf vc hlf hlc hf hc ihf ihc =>
    simp only [D.dry, dryL_all, Bool.and_eq_true, List.all_eq_true] at hx
    exact .fn f first caps vf vc hlf hlc (fun i d v hd hv => ihf i d v hd hv (hx.1 d (List.mem_of_getElem? hd))) (fun i d v hd hv => ihc i d v hd hv (hx.2 d (List.mem_of_getElem? hd)))
  | nilp => exact .nilp
  | nilf => exact .nilf
  | nili => exact .nili
  | nilm => exact .nilm
  | map => cases hx

def dryLeaf : PV → PV
  | .d x => bif x.dry then .d x else .any
  | .own _ _ _ => .any
  | .hp id i off => .hp id i off
  | .hrow id sz lo len cap => .hrow id sz lo len cap
  | .hmap id => .hmap id
  | .agg cs => .agg cs
  | .tup cs => .tup cs
  | .fn f a b => .fn f a b
  | .any => .any
theorem dryLeaf_ok : LeafOk dryLeaf := by
  intro x cs hx h
  cases x <;> simp only [PV.leaf, reduceCtorEq] at hx <;> simp only [dryLeaf] at h
  · rename_i d; cases hd : d.dry <;> rw [hd] at h <;> cases h
  all_goals cases h

def SL.thaw (s : SL) (i t id sz : Nat) (e : TypeId) (xs : List D) : SL :=
  ⟨ins (mapTm dryLeaf s.tm) i (.hrow id sz 0 xs.length xs.length), ins (mapOb dryLeaf s.ob) id (some ⟨e, sz, xs.map PV.ofD.PV.ofD1⟩), ins s.tk t .dead⟩

theorem SLe.thaw {E : Env} {s : SL} (i t id : Nat) {sz : Nat} {xs : List D} {e : TypeId} {ls : Nat} (hi : lk .any s.tm i = .own sz xs (.tok t)) (ht : lk .never s.tk t = .live e ls) (hls : 1000000 ≤ ls) (hsz : sz = rsz ls) (hxs : xs ≠ [])
    (hdry : ∀ x ∈ xs, x.cells.all D.dry = true) (hid : id < 3000) (hob : lk none s.ob id = none) (he : Nat.ble mapTag e = false) : SLe E s (s.thaw i t id sz e xs) := by
  intro γ own a w hC
  have hw := hC.world
  have hti := hC.tm i
  change Rep γ (lk .any s.tm i) _ at hti
  rw [hi] at hti
  cases hti with
  | own hr htr =>
  obtain ⟨a1, c1, hv, hc1, hlen, hne⟩ := hr.sl_flat
  obtain ⟨b, o, vals, ha1, hvl, hvk, hvr, hv1⟩ := hne hxs
  have hxpos : 0 < xs.length := List.length_pos_iff.2 hxs
  obtain ⟨v0, hv0, hok⟩ := hw.tok t e ls ht
  have hτ : γ.τ t = some (a.tmps.getD i undef) := htr
  rw [hτ] at hv0
  cases hv0
  cases hown : own t with
  | none =>
    obtain ⟨ad, had⟩ := hw.tmine t e ls _ hls ht hτ hown
    rw [hv] at had
    simp only [Value.slice.injEq] at had
    omega
  | some g =>
  rw [hown] at hok
  obtain ⟨n, cap, cur, hok⟩ := hok
  rw [← hsz] at hok
  have hval := hok.val
  rw [hv, ha1] at hval
  simp only [Value.slice.injEq, Option.some.injEq, Addr.mk.injEq, and_true] at hval
  obtain ⟨⟨rfl, rfl⟩, rfl, rfl⟩ := hval
  have hcur : cur.toList.take vals.length = vals := by
    apply List.ext_getElem?
    intro j
    by_cases hj : j < vals.length
    · rw [List.getElem?_take, if_pos hj]
      have := (hw.ksub _ _ _ (hvk j _ (List.getElem?_eq_getElem hj))).of_cells hok.heap
      simp only [World.cell?, Nat.zero_add, hok.heap] at this
      rw [List.getElem?_eq_getElem hj]
      simpa using this
    · rw [List.getElem?_eq_none (by rw [List.length_take]; omega), List.getElem?_eq_none (by omega)]
  have hobj : w.heap[b]? = some (objOf e vals.toArray (cur.toList.drop vals.length).toArray) := by
    rw [hok.heap, objOf_cells he]
    congr 2
    apply Array.ext'
    rw [Array.toList_append]
    have := List.take_append_drop vals.length cur.toList
    rw [hcur] at this
    simpa using this.symm
  let γ' : Gh := ⟨fun b' o' => if b' = b then none else γ.K b' o', fun j => if j = id then some (b, sz) else γ.m j, γ.τ⟩
  have hKle : KLe γ'.K γ.K := fun b' o' v h => by
    have h' : (if b' = b then none else γ.K b' o') = some v := h
    split at h'
    · cases h'
    · exact h'
  have hmid : γ.m id = none := hw.nob id hob
  have hmle : ∀ j x, γ.m j = some x → γ'.m j = some x := fun j x h => by
    show (if j = id then some (b, sz) else γ.m j) = some x
    split
    · rename_i e; subst e; rw [hmid] at h; cases h
    · exact h
  have hleaf : ∀ (x : PV) (v : Value), x.leaf = true → Rep γ x v → Rep γ' (dryLeaf x) v := by
    intro x v hx h
    cases h with
    | d h =>
      simp only [dryLeaf]
      rename_i x
      cases hd : x.dry with
      | true => exact .d (h.dry hd)
      | false => exact .any _
    | own h ht => exact .any _
    | agg => cases hx
    | tup => cases hx
    | fn => cases hx
    | any => cases hx
    | hp h => exact .hp (hmle _ _ h)
    | hrow h h1 h2 => exact .hrow (hmle _ _ h) h1 h2
    | hmap h => exact .hmap (hmle _ _ h)
  have hdr : RepDL γ'.K (xs.flatMap D.cells) vals := ⟨hvr.1, fun j d v hd hv => by
    obtain ⟨x, hx, hdx⟩ := List.mem_flatMap.1 (List.mem_of_getElem? hd)
    exact (hvr.2 j d v hd hv).dry (List.all_eq_true.1 (hdry x hx) d hdx)⟩
  refine ⟨γ', own, hC.defers, hC.size, fun j => ?_, ⟨?_, ?_, ?_, hw.below, ?_, ?_, ?_, ?_, ?_, ?_, ?_, ?_⟩⟩
  · change Rep _ (lk .any (ins (mapTm dryLeaf s.tm) i _) j) _
    rw [lk_ins]
    by_cases hj : j = i
    · subst hj
      rw [if_pos rfl]
      have h0 : γ'.m id = some (b, sz) := by show (if id = id then _ else _) = _; rw [if_pos rfl]
      have := Rep.hrow (lo := 0) (len := xs.length) (cap := xs.length) (c := c1) h0 hok.le hok.le
      rw [hv, ha1]
      simpa using this
    · rw [if_neg hj, lk_mapTm]
      exact mapv_rep hleaf (hC.tm j)
  · intro b' o' v h
    show (if b' = b then none else γ.K b' o') = some v
    by_cases hb : b' = b
    · subst hb; rw [E.free_mine hok.base] at h; cases h
    · rw [if_neg hb]; exact hw.k0 _ _ _ h
  · intro b' o' h
    by_cases hb : b' = b
    · subst hb; exact hok.base
    · refine hw.knew b' o' fun e => h ?_
      show (if b' = b then none else γ.K b' o') = _
      rw [if_neg hb]; exact e
  · intro b' o' v h; exact hw.ksub _ _ _ (hKle _ _ _ h)
  · intro j o' hjo
    have hjo' : lk none (ins (mapOb dryLeaf s.ob) id _) j = some o' := hjo
    rw [lk_ins] at hjo'
    by_cases hj : j = id
    · subst hj
      rw [if_pos rfl] at hjo'
      cases hjo'
      refine ⟨b, vals.toArray, if_pos rfl, hok.base, ⟨_, hobj⟩, ?_, by simpa using hv1, ?_, fun off => if_pos rfl⟩
      · show RepL _ (flat (xs.map PV.ofD.PV.ofD1)) _
        rw [flat_ofD1]
        exact hdr.toRep
      · intro e' he'
        obtain ⟨d, hd, rfl⟩ := List.mem_map.1 he'
        have : (PV.ofD.PV.ofD1 d).cells.length = d.cells.length := by cases d <;> simp [PV.ofD.PV.ofD1, PV.cells, D.cells]
        rw [this]; exact hlen d hd
    · rw [if_neg hj, lk_mapOb] at hjo'
      simp only [Option.map_eq_some_iff] at hjo'
      obtain ⟨o1, ho1, rfl⟩ := hjo'
      obtain ⟨blk, cs, hm, hok1⟩ := hw.obj _ o1 ho1
      refine ⟨blk, cs, hmle _ _ hm, hok1.mapv dryLeaf_ok hleaf fun off => ?_⟩
      show (if blk = b then none else γ.K blk off) = none
      split
      · rfl
      · exact hok1.free off
  · intro j hjo
    have hjo' : lk none (ins (mapOb dryLeaf s.ob) id _) j = none := hjo
    rw [lk_ins] at hjo'
    by_cases hj : j = id
    · rw [if_pos hj] at hjo'; cases hjo'
    · rw [if_neg hj, lk_mapOb] at hjo'
      simp only [Option.map_eq_none_iff] at hjo'
      show (if j = id then some (b, sz) else γ.m j) = none
      rw [if_neg hj]
      exact hw.nob j hjo'
  · intro j k b' x y hj hk
    have hj' : (if j = id then some (b, sz) else γ.m j) = some (b', x) := hj
    have hk' : (if k = id then some (b, sz) else γ.m k) = some (b', y) := hk
    split at hj' <;> split at hk'
    · omega
    · cases hj'; exact absurd hk' (hok.noobj k y)
    · cases hk'; exact absurd hj' (hok.noobj j x)
    · exact hw.inj _ _ _ _ _ hj' hk'
  · intro t' e' s' ht'
    have ht2 : lk .never (ins s.tk t .dead) t' = .live e' s' := ht'
    rw [lk_ins] at ht2
    by_cases htt : t' = t
    · rw [if_pos htt] at ht2; cases ht2
    · rw [if_neg htt] at ht2
      obtain ⟨v, hvv, hok1⟩ := hw.tok t' e' s' ht2
      refine ⟨v, hvv, ?_⟩
      cases hot : own t' with
      | none => rw [hot] at hok1; exact hok1
      | some g' =>
        rw [hot] at hok1
        obtain ⟨n', cap', cur', hok1⟩ := hok1
        have hgg : g' ≠ b := fun e => by subst e; exact htt (hw.tinj _ _ _ _ _ _ _ ht2 ht hot hown)
        refine ⟨n', cap', cur', hok1.keep rfl (fun off h => ?_) fun j s h => ?_⟩
        · show (if g' = b then none else γ.K g' off) = none
          rw [if_neg hgg]; exact hok1.free off h
        · have h' : (if j = id then some (b, sz) else γ.m j) = some (g', s) := h
          split at h'
          · cases h'; exact hgg rfl
          · exact hok1.noobj j s h'
  · intro t1 t2 e1 e2 s1 s2 g' h1 h2 ho1 ho2
    have h1' : lk .never (ins s.tk t .dead) t1 = .live e1 s1 := h1
    have h2' : lk .never (ins s.tk t .dead) t2 = .live e2 s2 := h2
    rw [lk_ins] at h1' h2'
    split at h1'
    · cases h1'
    · split at h2'
      · cases h2'
      · exact hw.tinj _ _ _ _ _ _ _ h1' h2' ho1 ho2
  · intro t' ht'
    have ht2 : lk .never (ins s.tk t .dead) t' = .never := ht'
    rw [lk_ins] at ht2
    split at ht2
    · cases ht2
    · exact hw.ntok t' ht2
  · intro j b' s' h3 h
    have h' : (if j = id then some (b, sz) else γ.m j) = some (b', s') := h
    split at h'
    · omega
    · exact hw.pas j b' s' h3 h'
  · intro t' e' s' v h3 ht' hτ' ho'
    have ht2 : lk .never (ins s.tk t .dead) t' = .live e' s' := ht'
    rw [lk_ins] at ht2
    split at ht2
    · cases ht2
    · exact hw.tmine t' e' s' v h3 ht2 hτ' ho'

theorem thaw_def (tm ob tk) (i t id sz : Nat) (e : TypeId) (xs : List D) : SL.thaw ⟨tm, ob, tk⟩ i t id sz e xs = ⟨ins (mapTm dryLeaf tm) i (.hrow id sz 0 xs.length xs.length), ins (mapOb dryLeaf ob) id (some ⟨e, sz, xs.map PV.ofD.PV.ofD1⟩), ins tk t .dead⟩ := rfl
theorem Run.thaw {P : Program} {E : Env} {fn : Func} {f : FuncId} {r : List D} {k : List Item} {s s' : SL} (i t id : Nat) {sz : Nat} {xs : List D} {e : TypeId} {ls : Nat} (hi : lk .any s.tm i = .own sz xs (.tok t)) (ht : lk .never s.tk t = .live e ls) (hls : 1000000 ≤ ls) (hsz : sz = rsz ls) (hxs : xs ≠ [])
    (hdry : ∀ x ∈ xs, x.cells.all D.dry = true) (hid : id < 3000) (hob : lk none s.ob id = none) (he : Nat.ble mapTag e = false) (hs : s.thaw i t id sz e xs = s') (h : Run P E fn f r k s'.of) : Run P E fn f r k s.of :=
  Run.le (SLe.thaw i t id hi ht hls hsz hxs hdry hid hob he) (hs ▸ h)

/-- Of a row of the walk's own less is said: its first elements alone. -/
def truncOb (id n : Nat) : List (Nat × Option OB) → List (Nat × Option OB)
  | [] => []
  | (i, o) :: l => (i, if i = id then o.map fun o => ⟨o.ty, o.sz, o.elems.take n⟩ else o) :: truncOb id n l
theorem lk_truncOb (id n : Nat) : ∀ (l : List (Nat × Option OB)) (i : Nat), lk none (truncOb id n l) i = if i = id then (lk none l i).map (fun o => ⟨o.ty, o.sz, o.elems.take n⟩) else lk none l i
  | [], i => by simp [truncOb, lk]
  | (j, o) :: l, i => by
    simp only [truncOb, lk]
    by_cases h : i = j
    · subst h; simp
    · rw [if_neg h, if_neg h]; exact lk_truncOb id n l i

theorem SLe.trunc {E : Env} {s : SL} (id n : Nat) {o : OB} (ho : lk none s.ob id = some o) (hty : Nat.ble mapTag o.ty = false) : SLe E s ⟨s.tm, truncOb id n s.ob, s.tk⟩ := by
  intro γ own a w hC
  have hw := hC.world
  refine ⟨γ, own, hC.defers, hC.size, hC.tm, ⟨hw.k0, hw.knew, hw.ksub, hw.below, ?_, ?_, hw.inj, hw.tok, hw.tinj, hw.ntok, hw.pas, hw.tmine⟩⟩
  · intro i o' hio
    have hio' : lk none (truncOb id n s.ob) i = some o' := hio
    rw [lk_truncOb] at hio'
    by_cases hi : i = id
    · subst hi
      rw [if_pos rfl, ho] at hio'
      simp only [Option.map_some, Option.some.injEq] at hio'
      subst hio'
      obtain ⟨blk, cs, hm, hok⟩ := hw.obj i o ho
      obtain ⟨spare, hheap⟩ := hok.heap
      rw [objOf_cells hty] at hheap
      have hfl : flat (o.elems.take n) = (flat o.elems).take (flat (o.elems.take n)).length := by
        have e1 : flat o.elems = flat (o.elems.take n) ++ flat (o.elems.drop n) := by
          simp only [flat, ← List.flatMap_append, List.take_append_drop]
        rw [e1, List.take_left' rfl]
      generalize hN : (flat (o.elems.take n)).length = N at hfl
      refine ⟨blk, (cs.toList.take N).toArray, hm, hok.base, ⟨(cs.toList.drop N).toArray ++ spare, ?_⟩, ?_, fun u hu => hok.one u (List.mem_of_mem_take (by simpa using hu)), fun e he => hok.size e (List.mem_of_mem_take he), hok.free⟩
      · rw [objOf_cells (ty := o.ty) hty, hheap]
        congr 2
        apply Array.ext'
        simp [← List.append_assoc]
      · show RepL _ (flat (o.elems.take n)) _
        rw [hfl]
        refine ⟨by simp [hok.rep.1], fun j c v hc hv => ?_⟩
        have hv' : (cs.toList.take N)[j]? = some v := by simpa using hv
        rw [List.getElem?_take] at hc hv'
        split at hc
        · rename_i hlt; rw [if_pos hlt] at hv'; exact hok.rep.2 j c v hc hv'
        · cases hc
    · rw [if_neg hi] at hio'
      exact hw.obj i o' hio'
  · intro i hio
    have hio' : lk none (truncOb id n s.ob) i = none := hio
    rw [lk_truncOb] at hio'
    by_cases hi : i = id
    · subst hi; rw [if_pos rfl, ho] at hio'; cases hio'
    · rw [if_neg hi] at hio'; exact hw.nob i hio'
theorem Run.trunc {P : Program} {E : Env} {fn : Func} {f : FuncId} {r : List D} {k : List Item} {s s' : SL} (id n : Nat) {o : OB} (ho : lk none s.ob id = some o) (hty : Nat.ble mapTag o.ty = false) (hs : (⟨s.tm, truncOb id n s.ob, s.tk⟩ : SL) = s')
    (h : Run P E fn f r k s'.of) : Run P E fn f r k s.of := Run.le (SLe.trunc id n ho hty) (hs ▸ h)

/-- An object's elements, said in other words. -/
theorem SLe.reOb {E : Env} {s : SL} (id : Nat) {o : OB} (els : List PV) (ho : lk none s.ob id = some o) (h : ∀ γ cs, RepL γ (flat o.elems) cs → RepL γ (flat els) cs) (hs : ∀ e ∈ els, e.cells.length = o.sz) : SLe E s ⟨s.tm, ins s.ob id (some ⟨o.ty, o.sz, els⟩), s.tk⟩ := by
  intro γ own a w hC
  have hw := hC.world
  refine ⟨γ, own, hC.defers, hC.size, hC.tm, ⟨hw.k0, hw.knew, hw.ksub, hw.below, ?_, ?_, hw.inj, hw.tok, hw.tinj, hw.ntok, hw.pas, hw.tmine⟩⟩
  · intro i o' hio
    have hio' : lk none (ins s.ob id _) i = some o' := hio
    rw [lk_ins] at hio'
    by_cases hi : i = id
    · subst hi
      rw [if_pos rfl] at hio'
      cases hio'
      obtain ⟨blk, cs, hm, hok⟩ := hw.obj i o ho
      exact ⟨blk, cs, hm, hok.base, hok.heap, h _ _ hok.rep, hok.one, hs, hok.free⟩
    · rw [if_neg hi] at hio'
      exact hw.obj i o' hio'
  · intro i hio
    have hio' : lk none (ins s.ob id _) i = none := hio
    rw [lk_ins] at hio'
    by_cases hi : i = id
    · rw [if_pos hi] at hio'; cases hio'
    · rw [if_neg hi] at hio'; exact hw.nob i hio'
theorem Run.reOb {P : Program} {E : Env} {fn : Func} {f : FuncId} {r : List D} {k : List Item} {s s' : SL} (id : Nat) (els : List PV) {o : OB} (ho : lk none s.ob id = some o) (h : ∀ γ cs, RepL γ (flat o.elems) cs → RepL γ (flat els) cs) (hs : ∀ e ∈ els, e.cells.length = o.sz)
    (hss : (⟨s.tm, ins s.ob id (some ⟨o.ty, o.sz, els⟩), s.tk⟩ : SL) = s') (hr : Run P E fn f r k s'.of) : Run P E fn f r k s.of := Run.le (SLe.reOb id els ho h hs) (hss ▸ hr)
theorem reOb_nils (n s s2 : Nat) (t : Tok) (γ : Gh) (cs : List Value) (h : RepL γ (flat (List.replicate n (PV.own s [] t))) cs) : RepL γ (flat ((List.replicate n (D.sl s2 [])).map PV.ofD.PV.ofD1)) cs := by
  have e1 : flat (List.replicate n (PV.own s [] t)) = List.replicate n (PV.own s [] t) := by simp [flat, List.flatMap_replicate, PV.cells]
  have e2 : flat ((List.replicate n (D.sl s2 [])).map PV.ofD.PV.ofD1) = List.replicate n (PV.d (.sl s2 [])) := by
    rw [flat_ofD1]; simp [List.flatMap_replicate, D.cells]
  rw [e1] at h
  rw [e2]
  refine ⟨by simpa using h.1, fun i c v hc hv => ?_⟩
  have hi : i < n := by have := (List.getElem?_eq_some_iff.1 hc).1; simpa using this
  have hc' : c = .d (.sl s2 []) := by simpa [hi] using hc.symm
  subst hc'
  have := h.2 i (.own s [] t) v (by simp [hi]) hv
  cases this with
  | own hr ht => exact .d (DLe.nil s s2 _ _ hr)

/-! ### Elements of which nothing is forgotten -/

mutual
theorem dle_refl : ∀ x : D, dle x x
  | .bool _ => rfl
  | .int _ _ => ⟨rfl, rfl⟩
  | .str _ => rfl
  | .sl _ _ => .inl ⟨rfl, rfl⟩
  | .agg xs => by simp only [dle]; exact dleL_refl xs
  | .tup xs => by simp only [dle]; exact dleL_refl xs
  | .ref _ => by simp only [dle]
  | .fn _ _ _ => by simp only [dle]
  | .nilp => by simp only [dle]
  | .nilf => by simp only [dle]
  | .nili => by simp only [dle]
  | .nilm => by simp only [dle]
  | .map _ => by simp only [dle]
theorem dleL_refl : ∀ xs : List D, dle.dleL xs xs
  | [] => trivial
  | x :: xs => ⟨dle_refl x, dleL_refl xs⟩
end
theorem pleL_d {ob tk} : ∀ l : List D, ple.pleL ob tk (l.map .d) (l.map .d)
  | [] => trivial
  | x :: l => ⟨dle_refl x, pleL_d l⟩
theorem ple_ofD1 {ob tk} (x : D) : ple ob tk (PV.ofD.PV.ofD1 x) (PV.ofD.PV.ofD1 x) ∧ ple.pleL ob tk (PV.ofD.PV.ofD1 x).cells (PV.ofD.PV.ofD1 x).cells := by
  cases x with
  | agg cs => exact ⟨by simp only [PV.ofD.PV.ofD1, ple]; exact pleL_d cs, pleL_d cs⟩
  | _ => exact ⟨dle_refl _, dle_refl _, trivial⟩
theorem leElems_same {ob tk} {l : List PV} (h : ∀ x ∈ l, ple ob tk x x ∧ ple.pleL ob tk x.cells x.cells) : leElems ob tk l l := by
  match l with
  | [] => exact ⟨rfl, h⟩
  | [x] => exact ⟨(h x (by simp)).1, rfl, (h x (by simp)).2⟩
  | x :: y :: l => exact ⟨rfl, h⟩
theorem leElems_one {ob tk} (x y : PV) : leElems ob tk [x] [y] = (ple ob tk x y ∧ x.cells.length = y.cells.length ∧ ple.pleL ob tk x.cells y.cells) := rfl
theorem leElems_nil {ob tk} : leElems ob tk [] [] = True := eq_true ⟨rfl, fun x h => by cases h⟩
theorem leElems_D {ob tk} (l : List D) : leElems ob tk (l.map PV.ofD.PV.ofD1) (l.map PV.ofD.PV.ofD1) = True :=
  eq_true (leElems_same fun x hx => by obtain ⟨d, _, rfl⟩ := List.mem_map.1 hx; exact ple_ofD1 d)
theorem leElems_row {ob tk} (l : List D) (i id sz lo len cap : Nat) (h : (lk none ob id).isSome = true) : leElems ob tk ((l.map PV.ofD.PV.ofD1).set i (.hrow id sz lo len cap)) ((l.map PV.ofD.PV.ofD1).set i (.hrow id sz lo len cap)) = True :=
  eq_true (leElems_same fun x hx => by
    rcases List.mem_or_eq_of_mem_set hx with h1 | rfl
    · obtain ⟨d, _, rfl⟩ := List.mem_map.1 h1; exact ple_ofD1 d
    · simp only [ple, PV.cells, ple.pleL, true_and, and_true, Nat.le_refl, h])

/-- Rows of numbers. -/
def rI (l : List Int) : List PV := l.map fun n => .d (.int .i64 n)
def iD (n : Int) : D := .int .i64 n
theorem rI_len (l : List Int) : (rI l).length = l.length := by simp [rI]
theorem rI_set (l : List Int) (k : Nat) (v : Int) : (rI l).set k (.d (.int .i64 v)) = rI (l.set k v) := by simp [rI]
theorem rI_rep (m : Nat) : List.replicate m (PV.d (.int .i64 0)) = rI (List.replicate m 0) := by simp [rI]
theorem rI_get {l : List Int} {k : Nat} (h : k < l.length) : (rI l).getD k .any = .d (.int .i64 (l.getD k 0)) := by simp [rI, h]
theorem rI_ofD1 (l : List Int) : rI l = (l.map iD).map PV.ofD.PV.ofD1 := by simp [rI, iD, PV.ofD.PV.ofD1]
theorem leElems_rI {ob tk} (l : List Int) : leElems ob tk (rI l) (rI l) = True := by rw [rI_ofD1]; exact leElems_D _

theorem mapv_ofD1 {f : PV → PV} (hf : ∀ d, f (.d d) = .d d) (x : D) : (PV.ofD.PV.ofD1 x).mapv f = PV.ofD.PV.ofD1 x := by
  cases x <;> simp only [PV.ofD.PV.ofD1, PV.mapv, hf]
  rename_i cs
  congr 1
  rw [mapL_eq]
  simp [PV.mapv, hf]
theorem mapL_D {f : PV → PV} (hf : ∀ d, f (.d d) = .d d) (l : List D) : PV.mapv.mapL f (l.map PV.ofD.PV.ofD1) = l.map PV.ofD.PV.ofD1 := by
  rw [mapL_eq, List.map_map]
  exact List.map_congr_left fun x _ => mapv_ofD1 hf x
theorem swap_D (a b : Nat) (l : List D) : PV.mapv.mapL (swapLeaf a b) (l.map PV.ofD.PV.ofD1) = l.map PV.ofD.PV.ofD1 := mapL_D (fun _ => rfl) l
theorem frz_D (id sz : Nat) (es : List D) (mp : Bool) (l : List D) : PV.mapv.mapL (frzLeaf id sz es mp) (l.map PV.ofD.PV.ofD1) = l.map PV.ofD.PV.ofD1 := mapL_D (fun _ => rfl) l
theorem ren_D (t t' : Nat) (l : List D) : PV.mapv.mapL (renLeaf t t') (l.map PV.ofD.PV.ofD1) = l.map PV.ofD.PV.ofD1 := mapL_D (fun _ => rfl) l
theorem swap_rI (a b : Nat) (l : List Int) : PV.mapv.mapL (swapLeaf a b) (rI l) = rI l := by rw [rI_ofD1]; exact swap_D a b _
theorem frz_rI (id sz : Nat) (es : List D) (mp : Bool) (l : List Int) : PV.mapv.mapL (frzLeaf id sz es mp) (rI l) = rI l := by rw [rI_ofD1]; exact frz_D _ _ _ _ _
theorem ren_rI (t t' : Nat) (l : List Int) : PV.mapv.mapL (renLeaf t t') (rI l) = rI l := by rw [rI_ofD1]; exact ren_D _ _ _
/-- A row frozen into the objects that hold it. -/
theorem frz_rowIn (id sz : Nat) (es : List D) (l : List D) (i len cap lo : Nat) (s0 : Nat) (h : lo + len ≤ es.length) : PV.mapv.mapL (frzLeaf id sz es false) ((l.map PV.ofD.PV.ofD1).set i (.hrow id s0 lo len cap)) = (l.set i (.sl sz ((es.drop lo).take len))).map PV.ofD.PV.ofD1 := by
  rw [mapL_eq, List.map_set, ← mapL_eq, frz_D, List.map_set]
  simp [PV.mapv, frzLeaf, h, PV.ofD.PV.ofD1]

attribute [go_sem] swap_D frz_D ren_D swap_rI frz_rI ren_rI
attribute [go_sem] leElems_one leElems_nil leElems_D leElems_row leElems_rI rI_len rI_set rI_rep
attribute [go_sem] thaw_def dryLeaf D.dry D.dry.dryL truncOb
end Go.PS
namespace Go.PS
attribute [go_sem] Nat.reduceLT Nat.reduceEqDiff Nat.reduceAdd Nat.reduceLeDiff Nat.reduceMul Nat.reduceSub Nat.reduceBEq reduceCtorEq Int.reduceToNat
attribute [go_sem ↓] reduceIte
end Go.PS
set_option linter.unusedSimpArgs false
set_option linter.unusedVariables false
namespace Go.PS
open Go Go.RowKit

/-- An element of a slice of type e, made of its cells. -/
def asElem (P : Program) (e : TypeId) (zs : List D) : D := match P.underlying e with
  | some (.struct _) | some (.array _ _) => .agg zs
  | _ => zs.getD 0 .nilp

/-- Cells that fit types. -/
inductive Fits (P : Program) : List TypeId → List D → Prop
  | nil : Fits P [] []
  | bool {t ts xs} (b : Bool) (ht : P.underlying t = some .bool) (h : Fits P ts xs) : Fits P (t :: ts) (.bool b :: xs)
  | int {t ts xs k} (n : Int) (ht : P.underlying t = some (.int k)) (hn : (Lit.int k n).wf = true) (h : Fits P ts xs) : Fits P (t :: ts) (.int k n :: xs)
  | str {t ts xs} (l : List UInt8) (ht : P.underlying t = some .string) (hl : l.length ≤ maxLen) (h : Fits P ts xs) : Fits P (t :: ts) (.str l :: xs)
  | sl {t ts xs e} (zss : List (List D)) (ht : P.underlying t = some (.slice e)) (hl : zss.length ≤ maxLen) (hz : ∀ zs ∈ zss, Fits P [e] zs) (h : Fits P ts xs) : Fits P (t :: ts) (.sl (P.cellsOf e) (zss.map (asElem P e)) :: xs)
  | strct {t ts ys xs fs} (ht : P.underlying t = some (.struct fs)) (hy : Fits P (fs.toList.map (·.type)) ys) (h : Fits P ts xs) : Fits P (t :: ts) (ys ++ xs)
  | arr {t ts ys xs n e} (ht : P.underlying t = some (.array n e)) (hy : Fits P (List.replicate n e) ys) (h : Fits P ts xs) : Fits P (t :: ts) (ys ++ xs)

theorem Fits.nil_inv {P : Program} {xs} (h : Fits P [] xs) : xs = [] := by cases h; rfl
theorem Fits.bool_inv {P : Program} {t ts xs} (ht : P.underlying t = some .bool) (h : Fits P (t :: ts) xs) : ∃ b xs', xs = .bool b :: xs' ∧ Fits P ts xs' := by
  cases h <;> first | exact ⟨_, _, rfl, by assumption⟩ | (rename_i h _; rw [ht] at h; cases h) | (rename_i h _ _; rw [ht] at h; cases h) | (rename_i h _ _ _; rw [ht] at h; cases h)
theorem Fits.int_inv {P : Program} {t ts xs k} (ht : P.underlying t = some (.int k)) (h : Fits P (t :: ts) xs) : ∃ n xs', xs = .int k n :: xs' ∧ (Lit.int k n).wf = true ∧ Fits P ts xs' := by
  cases h with
  | int n ht' hn h => rw [ht] at ht'; simp only [Option.some.injEq, TypeDesc.int.injEq] at ht'; subst ht'; exact ⟨_, _, rfl, hn, h⟩
  | bool b h' h => rw [ht] at h'; cases h'
  | str l h' hl h => rw [ht] at h'; cases h'
  | sl z h' hl hz h => rw [ht] at h'; cases h'
  | strct h' hy h => rw [ht] at h'; cases h'
  | arr h' hy h => rw [ht] at h'; cases h'
theorem Fits.str_inv {P : Program} {t ts xs} (ht : P.underlying t = some .string) (h : Fits P (t :: ts) xs) : ∃ l xs', xs = .str l :: xs' ∧ l.length ≤ maxLen ∧ Fits P ts xs' := by
  cases h with
  | int n h' hn h => rw [ht] at h'; cases h'
  | bool b h' h => rw [ht] at h'; cases h'
  | str l h' hl h => exact ⟨_, _, rfl, hl, h⟩
  | sl z h' hl hz h => rw [ht] at h'; cases h'
  | strct h' hy h => rw [ht] at h'; cases h'
  | arr h' hy h => rw [ht] at h'; cases h'
theorem Fits.sl_inv {P : Program} {t ts xs e} (ht : P.underlying t = some (.slice e)) (h : Fits P (t :: ts) xs) :
    ∃ (zss : List (List D)) (xs' : List D), xs = .sl (P.cellsOf e) (zss.map (asElem P e)) :: xs' ∧ zss.length ≤ maxLen ∧ (∀ zs ∈ zss, Fits P [e] zs) ∧ Fits P ts xs' := by
  cases h with
  | int n h' hn h => rw [ht] at h'; cases h'
  | bool b h' h => rw [ht] at h'; cases h'
  | str l h' hl h => rw [ht] at h'; cases h'
  | sl z h' hl hz h => rw [ht] at h'; simp only [Option.some.injEq, TypeDesc.slice.injEq] at h'; subst h'; exact ⟨_, _, rfl, hl, hz, h⟩
  | strct h' hy h => rw [ht] at h'; cases h'
  | arr h' hy h => rw [ht] at h'; cases h'
theorem Fits.strct_inv {P : Program} {t ts xs fs} (ht : P.underlying t = some (.struct fs)) (h : Fits P (t :: ts) xs) :
    ∃ ys xs', xs = ys ++ xs' ∧ Fits P (fs.toList.map (·.type)) ys ∧ Fits P ts xs' := by
  cases h with
  | int n h' hn h => rw [ht] at h'; cases h'
  | bool b h' h => rw [ht] at h'; cases h'
  | str l h' hl h => rw [ht] at h'; cases h'
  | sl z h' hl hz h => rw [ht] at h'; cases h'
  | strct h' hy h => rw [ht] at h'; simp only [Option.some.injEq, TypeDesc.struct.injEq] at h'; subst h'; exact ⟨_, _, rfl, hy, h⟩
  | arr h' hy h => rw [ht] at h'; cases h'

theorem Fits.arr_inv {P : Program} {t ts xs n e} (ht : P.underlying t = some (.array n e)) (h : Fits P (t :: ts) xs) : ∃ ys xs', xs = ys ++ xs' ∧ Fits P (List.replicate n e) ys ∧ Fits P ts xs' := by
  cases h with
  | arr ht' hy h => rw [ht] at ht'; cases ht'; exact ⟨_, _, rfl, hy, h⟩
  | bool _ ht' _ => rw [ht] at ht'; cases ht'
  | int _ ht' _ _ => rw [ht] at ht'; cases ht'
  | str _ ht' _ _ => rw [ht] at ht'; cases ht'
  | sl _ ht' _ _ _ => rw [ht] at ht'; cases ht'
  | strct ht' _ _ => rw [ht] at ht'; cases ht'
theorem Fits.append {P : Program} {t ts a b} (ha : Fits P [t] a) (hb : Fits P ts b) : Fits P (t :: ts) (a ++ b) := by
  cases ha with
  | bool b ht h => cases h; exact .bool _ ht hb
  | int n ht hn h => cases h; exact .int _ ht hn hb
  | str l ht hl h => cases h; exact .str _ ht hl hb
  | sl z ht hl hz h => cases h; exact .sl _ ht hl hz hb
  | strct ht hy h => cases h; rw [List.append_nil]; exact .strct ht hy hb
  | arr ht hy h => cases h; rw [List.append_nil]; exact .arr ht hy hb

def consecB (P : Program) : Nat → List Field → Nat → Bool
  | off, [], total => off == total
  | off, f :: fs, total => f.offset == off && consecB P (off + P.cellsOf f.type) fs total

/-- Ints, bools, strings, slices and structs of such. -/
def plainB (P : Program) : Nat → TypeId → Bool
  | 0, _ => false
  | n + 1, t => match P.underlying t with
    | some .bool | some (.int _) | some .string => true
    | some (.slice e) => Nat.blt 0 (P.cellsOf e) && plainB P n e
    | some (.struct fs) => consecB P 0 fs.toList (P.cellsOf t) && fs.toList.all fun f => plainB P n f.type
    | some (.array m e) => Nat.beq (P.cellsOf t) (m * P.cellsOf e) && plainB P n e
    | _ => false

variable {H : Type} {enc : TypeId × Value → H} {P : Program} {w : World} {base : Nat} {spare : Nat → Bool} {held : Bool} {K : Nat → Nat → Option Value}

/-- What a reading comes to. -/
def Met (P : Program) (K : Nat → Nat → Option Value) (ts : List TypeId) (cs : List Value) : Prop := ∃ xs, Fits P ts xs ∧ RepDL K xs cs ∧ ∀ x ∈ xs, x.cell = true

theorem met_fields : ∀ (fs : List Field) (off : Nat) (cs : List Value), consecB P off fs cs.length = true →
    (∀ f ∈ fs, Met P K [f.type] ((cs.drop f.offset).take (P.cellsOf f.type))) → Met P K (fs.map (·.type)) (cs.drop off)
  | [], off, cs, hc, _ => by
    simp only [consecB, beq_iff_eq] at hc
    rw [List.drop_of_length_le (by omega)]
    exact ⟨[], .nil, RepDL.nil, fun x hx => (by cases hx)⟩
  | f :: fs, off, cs, hc, hm => by
    simp only [consecB, Bool.and_eq_true, beq_iff_eq] at hc
    obtain ⟨rfl, hc⟩ := hc
    obtain ⟨a, ha, hra, hca⟩ := hm f (by simp)
    obtain ⟨b, hb, hrb, hcb⟩ := met_fields fs (f.offset + P.cellsOf f.type) cs hc (fun g hg => hm g (by simp [hg]))
    have hsplit : cs.drop f.offset = (cs.drop f.offset).take (P.cellsOf f.type) ++ cs.drop (f.offset + P.cellsOf f.type) := by
      rw [← List.drop_drop, List.take_append_drop]
    refine ⟨a ++ b, ha.append hb, ?_, fun x hx => ?_⟩
    · rw [hsplit]; exact hra.append hrb
    · rcases List.mem_append.1 hx with h | h
      · exact hca x h
      · exact hcb x h

theorem cells_of_cell {x : D} (h : x.cell = true) : x.cells = [x] := by
  cases x <;> first | rfl | (simp [D.cell] at h)

theorem asElem_cells {e : TypeId} {zs : List D} {n : Nat} (hp : plainB P n e = true) (h : Fits P [e] zs) (hc : ∀ x ∈ zs, x.cell = true) : (asElem P e zs).cells = zs := by
  unfold asElem
  cases h with
  | bool b ht h => cases h; rw [ht]; rfl
  | int n ht hn h => cases h; rw [ht]; rfl
  | str l ht hl h => cases h; rw [ht]; rfl
  | sl z ht hl hz h => cases h; rw [ht]; rfl
  | strct ht hy h => cases h; rw [ht, List.append_nil]; rfl
  | arr ht hy h => cases h; rw [ht, List.append_nil]; rfl

theorem met_elems (e : TypeId) (sz : Nat) : ∀ (n off : Nat) (cs : List Value), cs.length = (off + n) * sz →
    (∀ i, off ≤ i → i < off + n → Met P K [e] ((cs.drop (i * sz)).take sz)) → Met P K (List.replicate n e) (cs.drop (off * sz))
  | 0, off, cs, hc, _ => by
    rw [List.drop_of_length_le (by rw [hc]; simp)]
    exact ⟨[], .nil, RepDL.nil, fun x hx => (by cases hx)⟩
  | n + 1, off, cs, hc, hm => by
    obtain ⟨a, ha, hra, hca⟩ := hm off (Nat.le_refl _) (by omega)
    obtain ⟨b, hb, hrb, hcb⟩ := met_elems e sz n (off + 1) cs (by rw [hc]; congr 1; omega) (fun i h1 h2 => hm i (by omega) (by omega))
    have hsplit : cs.drop (off * sz) = (cs.drop (off * sz)).take sz ++ cs.drop ((off + 1) * sz) := by
      rw [Nat.add_mul, Nat.one_mul, ← List.drop_drop, List.take_append_drop]
    refine ⟨a ++ b, ha.append hb, ?_, fun x hx => ?_⟩
    · rw [hsplit]; exact hra.append hrb
    · rcases List.mem_append.1 hx with h | h
      · exact hca x h
      · exact hcb x h

theorem trod_met (hK : ∀ b o v, w.cell? ⟨b, o, none⟩ = some v → v.oneCell' = true → K b o = some v) : ∀ (n : Nat) (t : TypeId) (fuel : Nat) (cs : List Value) (x : DataW H × List MemPlace), plainB P n t = true →
    DataW.trod enc P w base spare held fuel t cs = some x → Met P K [t] cs
  | 0, t, fuel, cs, x, hp, h => by cases hp
  | n + 1, t, fuel, cs, x, hp, h => by
    unfold plainB at hp
    split at hp
    · rename_i ht
      cases fuel with
      | zero => simp [DataW.trod] at h
      | succ fuel =>
        unfold DataW.trod at h
        rw [ht] at h
        split at h <;> simp_all
        exact ⟨[.bool _], .bool _ ht .nil, RepDL.cons (.bool _) RepDL.nil, by simp [D.cell]⟩
    · rename_i k ht
      cases fuel with
      | zero => simp [DataW.trod] at h
      | succ fuel =>
        unfold DataW.trod at h
        rw [ht] at h
        split at h <;> simp_all
        obtain ⟨⟨rfl, hw⟩, _⟩ := h
        exact ⟨[.int _ _], .int _ ht hw .nil, RepDL.cons (.int _ _) RepDL.nil, by simp [D.cell]⟩
    · rename_i ht
      cases fuel with
      | zero => simp [DataW.trod] at h
      | succ fuel =>
        unfold DataW.trod at h
        rw [ht] at h
        split at h <;> simp_all
        rename_i s
        refine ⟨[.str s.data.toList], .str _ ht (by simpa using h.1) .nil, RepDL.cons ?_ RepDL.nil, by simp [D.cell]⟩
        have := RepD.str (K := K) s.data.toList
        simpa using this
    · rename_i e ht
      simp only [Bool.and_eq_true] at hp
      obtain ⟨hpos, hp⟩ := hp
      have hpos : 0 < P.cellsOf e := Nat.le_of_ble_eq_true hpos
      rcases Deep.open_slice ht h with ⟨rfl, _⟩ | ⟨a, len, cap, m, q, Dd, Pl, rfl, hb, hl, hm, hmm, _, hall⟩
      · refine ⟨[.sl (P.cellsOf e) []], .sl [] ht (by simp [maxLen]) (fun z hz => (by cases hz)) .nil, RepDL.cons ?_ RepDL.nil, by simp [D.cell]⟩
        exact RepD.sl _ [] none 0 0 0 (fun _ _ => default) (Nat.le_refl _) (fun h => absurd rfl h) (fun i x h => by simp at h) (fun i j x d h => by simp at h) (fun i j x d h => by simp at h) (fun i j x d h => by simp at h)
      · have hlm : len ≤ m := by rw [hmm]; split <;> omega
        have hex : ∀ i, ∃ p : List D × List Value, i < len → Fits P [e] p.1 ∧ RepDL K p.1 p.2 ∧ (∀ x ∈ p.1, x.cell = true) ∧ w.cells? base (a.add (i * P.cellsOf e)) (P.cellsOf e) = some p.2 := fun i => by
          by_cases hi : i < len
          · obtain ⟨cs', h1, h2⟩ := hall i (by omega)
            obtain ⟨xs, f1, f2, f3⟩ := trod_met hK n e q cs' _ hp h2
            exact ⟨(xs, cs'), fun _ => ⟨f1, f2, f3, h1⟩⟩
          · exact ⟨([], []), fun h => absurd h hi⟩
        let Z := fun i => (Classical.choose (hex i)).1
        let V := fun i => (Classical.choose (hex i)).2
        have hZ : ∀ i, i < len → Fits P [e] (Z i) ∧ RepDL K (Z i) (V i) ∧ (∀ x ∈ Z i, x.cell = true) ∧ w.cells? base (a.add (i * P.cellsOf e)) (P.cellsOf e) = some (V i) := fun i hi => Classical.choose_spec (hex i) hi
        have hget : ∀ (i : Nat) (x : D), (((List.range len).map Z).map (asElem P e))[i]? = some x → i < len ∧ x.cells = Z i := fun i x hx => by
          simp only [List.getElem?_map, Option.map_eq_some_iff, List.getElem?_range', List.getElem?_range] at hx
          obtain ⟨z, ⟨i', hi', rfl⟩, rfl⟩ := hx
          have hlt : i < len := by
            rcases Nat.lt_or_ge i len with h | h
            · exact h
            · simp [List.getElem?_eq_none (show (List.range len).length ≤ i by simpa using h)] at hi'
          rw [List.getElem?_range hlt] at hi'
          simp only [Option.some.injEq] at hi'
          subst hi'
          exact ⟨hlt, asElem_cells hp (hZ _ hlt).1 (hZ _ hlt).2.2.1⟩
        have hcell : ∀ (i j : Nat) (d : D), i < len → (Z i)[j]? = some d → ∃ v, (V i)[j]? = some v ∧ j < P.cellsOf e ∧ w.cell? ((a.add (i * P.cellsOf e)).add j) = some v ∧ RepD K d v := fun i j d hi hd => by
          obtain ⟨_, hr, _, hc⟩ := hZ i hi
          obtain ⟨_, hlen, hg⟩ := World.cells?_some hc
          have hj : j < (Z i).length := (List.getElem?_eq_some_iff.1 hd).1
          have hj2 : j < (V i).length := by rw [← hr.1]; exact hj
          have hv : (V i)[j]? = some ((V i)[j]) := List.getElem?_eq_getElem hj2
          exact ⟨_, hv, by omega, by rw [hg j (by omega), hv], hr.2 j d _ hd hv⟩
        obtain ⟨b, o, spot⟩ := a
        have hsp : ∀ (d : D), 0 < len → (Z 0)[0]? = some d → spot = none := fun d hi hd => by
          obtain ⟨v, _, _, h1, _⟩ := hcell 0 0 d hi hd
          rw [Nat.zero_mul] at h1
          simpa [Addr.add] using World.cell?_spot h1
        have hadd : ∀ o k : Nat, (Addr.mk b o none).add k = ⟨b, o + k, none⟩ := fun o k => by
          unfold Addr.add; split
          · rename_i h; subst h; rfl
          · rfl
        by_cases hne : spot = none
        · subst hne
          refine ⟨[.sl (P.cellsOf e) (((List.range len).map Z).map (asElem P e))], .sl _ ht (by simp; omega) (fun zs hz => ?_) .nil, RepDL.cons ?_ RepDL.nil, by simp [D.cell]⟩
          · obtain ⟨i, hi, rfl⟩ := List.mem_map.1 hz
            exact (hZ i (List.mem_range.1 hi)).1
          · have hlen : (((List.range len).map Z).map (asElem P e)).length = len := by simp
            have := RepD.sl (K := K) (P.cellsOf e) (((List.range len).map Z).map (asElem P e)) (some ⟨b, o, none⟩) cap b o (fun i j => ((V i)[j]?).getD default) (by omega) (fun _ => rfl)
              (fun i x hx => by
                obtain ⟨hi, hc⟩ := hget i x hx
                obtain ⟨_, hr, _, hcs⟩ := hZ i hi
                rw [hc, hr.1]; exact (World.cells?_some hcs).2.1)
              (fun i j x d hx hd => by
                obtain ⟨hi, hc⟩ := hget i x hx
                rw [hc] at hd
                obtain ⟨v, hv, _, h1, _⟩ := hcell i j d hi hd
                rw [hv]
                exact hK _ _ _ (by rw [hadd, hadd] at h1; exact h1) (by
                  obtain ⟨v', hv', _, _, hr'⟩ := hcell i j d hi hd
                  rw [hv] at hv'; cases hv'
                  exact hr'.oneCell ((hZ i hi).2.2.1 d (List.mem_of_getElem? hd))))
              (fun i j x d hx hd => by
                obtain ⟨hi, hc⟩ := hget i x hx
                rw [hc] at hd
                obtain ⟨v, hv, _, h1, hr⟩ := hcell i j d hi hd
                rw [hv]
                exact hr.oneCell ((hZ i hi).2.2.1 d (List.mem_of_getElem? hd)))
              (fun i j x d hx hd => by
                obtain ⟨hi, hc⟩ := hget i x hx
                rw [hc] at hd
                obtain ⟨v, hv, _, h1, hr⟩ := hcell i j d hi hd
                rw [hv]
                exact hr)
            rw [hlen] at this
            exact this
        · have hl0 : len = 0 := by
            rcases Nat.eq_zero_or_pos len with h0 | h0
            · exact h0
            · exfalso
              obtain ⟨_, hr, _, hcs⟩ := hZ 0 h0
              have hl := (World.cells?_some hcs).2.1
              have hj : 0 < (Z 0).length := by rw [hr.1, hl]; exact hpos
              exact hne (hsp _ h0 (List.getElem?_eq_getElem hj))
          subst hl0
          refine ⟨[.sl (P.cellsOf e) []], .sl [] ht (by simp [maxLen]) (fun z hz => (by cases hz)) .nil, RepDL.cons ?_ RepDL.nil, by simp [D.cell]⟩
          exact RepD.sl _ [] _ cap 0 0 (fun _ _ => default) (Nat.zero_le _) (fun h => absurd rfl h) (fun i x h => by simp at h) (fun i j x d h => by simp at h) (fun i j x d h => by simp at h) (fun i j x d h => by simp at h)
    · rename_i fs ht
      simp only [Bool.and_eq_true] at hp
      obtain ⟨xs, q, _, _, hlen, hxl, hall⟩ := DataW.trod_struct ht h
      have hf : ∀ f ∈ fs.toList, ∃ y, DataW.trod enc P w base spare held q f.type ((cs.drop f.offset).take (P.cellsOf f.type)) = some y := fun f hf => by
        obtain ⟨i, hi, rfl⟩ := List.getElem_of_mem hf
        have hi' : i < fs.size := by simpa using hi
        have := hall i fs[i] (by simp [hi'])
        rw [List.getElem?_eq_getElem (by omega)] at this
        exact ⟨_, by simpa using this⟩
      obtain ⟨ys, f1, f2, f3⟩ := met_fields (P := P) (K := K) fs.toList 0 cs (by rw [hlen]; exact hp.1) (fun f hfm => by
        obtain ⟨y, hy⟩ := hf f hfm
        exact trod_met hK n f.type q _ y (List.all_eq_true.1 hp.2 f hfm) hy)
      rw [List.drop_zero] at f2
      exact ⟨ys ++ [], .strct ht f1 .nil, by rw [List.append_nil]; exact f2, by rw [List.append_nil]; exact f3⟩
    · rename_i m e ht
      simp only [Bool.and_eq_true] at hp
      obtain ⟨xs, q, _, _, hlen, hxl, hall⟩ := DataW.trod_array ht h
      have hsz := Nat.eq_of_beq_eq_true hp.1
      obtain ⟨ys, f1, f2, f3⟩ := met_elems (P := P) (K := K) e (P.cellsOf e) m 0 cs (by rw [hlen, hsz]; simp) (fun i _ hi => by
        have hi' : i < m := by omega
        have := hall i hi'
        rw [List.getElem?_eq_getElem (by omega)] at this
        exact trod_met hK n e q _ _ hp.2 this)
      rw [Nat.zero_mul, List.drop_zero] at f2
      exact ⟨ys ++ [], .arr ht f1 .nil, by rw [List.append_nil]; exact f2, by rw [List.append_nil]; exact f3⟩
    · cases hp

end Go.PS
set_option linter.unusedSimpArgs false
set_option linter.unusedVariables false
namespace Go.PS
open Go Go.RowKit

/-- All cells of the world, frozen. -/
def KAll (w : World) : Nat → Nat → Option Value := fun b o => match w.cell? ⟨b, o, none⟩ with
  | some v => bif v.oneCell' then some v else none
  | none => none

theorem KAll.sub (w : World) : KSub (KAll w) w := fun b o v h => by
  unfold KAll at h
  split at h
  · rename_i u hu
    cases h1 : u.oneCell' with
    | true => rw [h1] at h; simp only [cond_true, Option.some.injEq] at h; subst h; exact Held.of_cell hu h1
    | false => rw [h1] at h; cases h
  · cases h

theorem law_calls {P : Program} {g : FuncId} {ds : List D} (h : PCall P g ds (.bool true)) {w : World} {vs : List Value} (hv : RepDL (KAll w) ds vs) :
    Calls P g vs.toArray w fun e w' => e = .returned (.bool true) ∧ Below w.heap.size w w' :=
  (h.2 (KAll w) w vs (KAll.sub w) hv).mono fun e w' ⟨v, K', he, hr, _, _, hb, _⟩ => by
    cases hr
    exact ⟨he, hb⟩

theorem met_of_trod {H : Type} {enc : TypeId × Value → H} {P : Program} {w : World} {base : Nat} {spare : Nat → Bool} {held : Bool} {t : TypeId} {v : Value} {d : DataW H} {ps : List MemPlace} (n : Nat) (hp : plainB P n t = true)
    (h : DataW.Trod enc P w base spare held t v d ps) : Met P (KAll w) [t] v.cells.toList := by
  obtain ⟨fuel, hf⟩ := h
  exact trod_met (fun _ _ _ h h1 => by simp [KAll, h, h1]) n t fuel _ _ hp hf

/-- A value of one cell. -/
theorem rep_one {K : Nat → Nat → Option Value} {x : D} {v : Value} (hv : v.cells = #[v]) (h : RepDL K [x] v.cells.toList) : RepD K x v := by
  rw [hv] at h
  exact h.2 0 x v rfl rfl

end Go.PS
set_option linter.unusedSimpArgs false
set_option linter.unusedVariables false
namespace Go.PS
open Go Go.RowKit Go.WideShapes

theorem Fits.list_inv {P : Program} {t e : TypeId} {sz : Nat} {ts xs} {α : Type} (f : α → D) (ok : α → Prop) (ht : P.underlying t = some (.slice e)) (hsz : P.cellsOf e = sz)
    (hz : ∀ zs, Fits P [e] zs → ∃ r : α, asElem P e zs = f r ∧ ok r) (h : Fits P (t :: ts) xs) :
    ∃ (rs : List α) (xs' : List D), xs = .sl sz (rs.map f) :: xs' ∧ (∀ r ∈ rs, ok r) ∧ rs.length ≤ 9223372036854775807 ∧ Fits P ts xs' := by
  obtain ⟨zss, xs', rfl, hl, hzs, hx⟩ := h.sl_inv ht
  have key : ∀ zss : List (List D), (∀ zs ∈ zss, Fits P [e] zs) → ∃ rs : List α, zss.map (asElem P e) = rs.map f ∧ ∀ r ∈ rs, ok r := by
    intro zss
    induction zss with
    | nil => exact fun _ => ⟨[], rfl, fun r h => by cases h⟩
    | cons z zss ih =>
      intro hh
      obtain ⟨r, h1, h2⟩ := hz z (hh z (by simp))
      obtain ⟨rs, h3, h4⟩ := ih fun zs hm => hh zs (by simp [hm])
      refine ⟨r :: rs, by rw [List.map_cons, List.map_cons, h1, h3], fun x hx => ?_⟩
      rcases List.mem_cons.1 hx with rfl | hm
      · exact h2
      · exact h4 x hm
  obtain ⟨rs, h1, h2⟩ := key zss hzs
  have hlen : zss.length = rs.length := by
    have := congrArg List.length h1
    simpa using this
  exact ⟨rs, xs', by rw [h1, hsz], h2, by rw [← hlen]; simpa [maxLen] using hl, hx⟩

theorem Fits.one_list {P : Program} {t e : TypeId} {sz : Nat} {xs} {α : Type} (f : α → D) (ok : α → Prop) (ht : P.underlying t = some (.slice e)) (hsz : P.cellsOf e = sz)
    (hz : ∀ zs, Fits P [e] zs → ∃ r : α, asElem P e zs = f r ∧ ok r) (h : Fits P [t] xs) :
    ∃ rs : List α, xs = [.sl sz (rs.map f)] ∧ (∀ r ∈ rs, ok r) ∧ rs.length ≤ 9223372036854775807 := by
  obtain ⟨rs, xs', rfl, h1, h2, h3⟩ := h.list_inv f ok ht hsz hz
  cases h3.nil_inv
  exact ⟨rs, rfl, h1, h2⟩

theorem u8_bd' {n : Int} (h : (Lit.int .u8 n).wf = true) : 0 ≤ n ∧ n ≤ 255 := by
  simpa [Lit.wf, IntKind.min, IntKind.max, IntKind.signed, IntKind.bits] using h
theorem i64_bd' {n : Int} (h : (Lit.int .i64 n).wf = true) : -9223372036854775808 ≤ n ∧ n ≤ 9223372036854775807 := by
  simpa [Lit.wf, IntKind.min, IntKind.max, IntKind.signed, IntKind.bits] using h

section
variable {P : Program} {w : World} {r : Reach} {base : Nat} {t : TypeId} {v : Value}
theorem okWide_array {n : Nat} {e : TypeId} (ht : P.underlying t = some (.array n e)) (h : Value.okWide P w r base t v) : ∃ cs, v = .agg cs := by
  simp only [Value.okWide, ht] at h
  obtain ⟨cs, h1, _⟩ := h
  exact ⟨cs, h1⟩
end

/-- An aggregate of cells. -/
theorem rep_agg {K : Nat → Nat → Option Value} {xs : List D} {cs : Array Value} (hc : ∀ x ∈ xs, x.cell = true) (hr : RepDL K xs (Value.agg cs).cells.toList) : RepD K (.agg xs) (.agg cs) := by
  have hr' : RepDL K xs cs.toList := hr
  refine RepD.agg_iff.2 ⟨cs.toList, rfl, hr', fun u hu => ?_⟩
  obtain ⟨i, hi, rfl⟩ := List.getElem_of_mem hu
  have hl := hr'.1
  have hi' : i < xs.length := by rw [hl]; exact hi
  have hx := List.getElem?_eq_getElem (l := xs) (i := i) hi'
  exact (hr'.2 i _ _ hx (List.getElem?_eq_getElem hi)).oneCell (hc _ (List.getElem_mem _))

theorem arg_slice {H : Type} {enc : TypeId × Value → H} {P : Program} {W : World} {base : Nat} {v : Value} {d : DataW H} {p : List MemPlace} {sp : Nat → Bool} {t e : TypeId} {sz : Nat} {α : Type} (f : α → D) (ok : α → Prop)
    (n : Nat) (hp : plainB P n t = true) (ht : P.underlying t = some (.slice e)) (hsz : P.cellsOf e = sz)
    (hz : ∀ zs, Fits P [e] zs → ∃ r : α, asElem P e zs = f r ∧ ok r)
    (hok : Value.okWide P W .any base t v) (h : DataW.Trod enc P W 0 sp true t v d p) :
    ∃ rs : List α, ((∀ r ∈ rs, ok r) ∧ rs.length ≤ 9223372036854775807) ∧ RepD (KAll W) (.sl sz (rs.map f)) v := by
  obtain ⟨a, len, cap, rfl⟩ := okWide_slice ht hok
  obtain ⟨xs, hf, hr, _⟩ := met_of_trod n hp h
  obtain ⟨rs, rfl, h1, h2⟩ := hf.one_list f ok ht hsz hz
  exact ⟨rs, ⟨h1, h2⟩, rep_one rfl hr⟩
end Go.PS

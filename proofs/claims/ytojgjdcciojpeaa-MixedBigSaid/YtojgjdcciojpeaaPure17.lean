/-
  Objects that are not written any more become data; tokens and objects get other names; a row of the walk's own becomes an object.
-/
import Derived.Test.YtojgjdcciojpeaaPure16
set_option linter.unusedSimpArgs false
set_option linter.unusedVariables false
namespace Go.PS
open Go Go.RowKit

/-- A change of a value's leaves. -/
def PV.mapv (f : PV → PV) : PV → PV
  | .agg cs => .agg (mapL f cs)
  | .tup cs => .tup (mapL f cs)
  | .fn g a b => .fn g (mapL f a) (mapL f b)
  | .d x => f (.d x)
  | .own sz xs t => f (.own sz xs t)
  | .hp id i off => f (.hp id i off)
  | .hrow id sz lo len cap => f (.hrow id sz lo len cap)
  | .hmap id => f (.hmap id)
  | .any => .any
where
  mapL (f : PV → PV) : List PV → List PV
  | [] => []
  | x :: xs => PV.mapv f x :: mapL f xs

def PV.leaf : PV → Bool
  | .agg _ | .tup _ | .fn _ _ _ | .any => false
  | _ => true

def mapTm (f : PV → PV) : List (Nat × PV) → List (Nat × PV)
  | [] => []
  | (i, v) :: l => (i, v.mapv f) :: mapTm f l
def OB.mapv (f : PV → PV) (o : OB) : OB := ⟨o.ty, o.sz, PV.mapv.mapL f o.elems⟩
def mapOb (f : PV → PV) : List (Nat × Option OB) → List (Nat × Option OB)
  | [] => []
  | (i, o) :: l => (i, o.map (OB.mapv f)) :: mapOb f l
def delOb (id : Nat) : List (Nat × Option OB) → List (Nat × Option OB)
  | [] => []
  | (i, o) :: l => if i = id then delOb id l else (i, o) :: delOb id l

theorem mapL_eq (f : PV → PV) : ∀ l : List PV, PV.mapv.mapL f l = l.map (PV.mapv f)
  | [] => rfl
  | x :: xs => by simp [PV.mapv.mapL, mapL_eq f xs]
theorem lk_mapTm (f : PV → PV) : ∀ (l : List (Nat × PV)) (i : Nat), lk .any (mapTm f l) i = (lk .any l i).mapv f
  | [], i => rfl
  | (j, v) :: l, i => by
    simp only [mapTm, lk]
    split
    · rfl
    · exact lk_mapTm f l i
theorem lk_mapOb (f : PV → PV) : ∀ (l : List (Nat × Option OB)) (i : Nat), lk none (mapOb f l) i = (lk none l i).map (OB.mapv f)
  | [], i => rfl
  | (j, o) :: l, i => by
    simp only [mapOb, lk]
    split
    · rfl
    · exact lk_mapOb f l i
theorem lk_delOb (id : Nat) : ∀ (l : List (Nat × Option OB)) (i : Nat), lk none (delOb id l) i = if i = id then none else lk none l i
  | [], i => by simp [delOb, lk]
  | (j, o) :: l, i => by
    simp only [delOb]
    by_cases hj : j = id
    · subst hj
      rw [if_pos rfl, lk_delOb j l i]
      by_cases hi : i = j
      · subst hi; simp
      · simp [lk, hi]
    · rw [if_neg hj]
      simp only [lk]
      by_cases hi : i = j
      · subst hi; simp [hj]
      · rw [if_neg hi, if_neg hi, lk_delOb id l i]

theorem pcells_ne {y : PV} (h : ∀ cs, y ≠ .agg cs) : y.cells = [y] := by cases y <;> first | rfl | exact absurd rfl (h _)

/-- A change that leaves a leaf one cell. -/
def LeafOk (f : PV → PV) : Prop := ∀ x cs, x.leaf = true → f x ≠ .agg cs

theorem mapv_cells {f : PV → PV} (hf : LeafOk f) (x : PV) : (x.mapv f).cells = PV.mapv.mapL f x.cells := by
  cases x with
  | agg cs => rfl
  | tup cs => rfl
  | fn g a b => rfl
  | any => rfl
  | _ => exact pcells_ne (fun cs => hf _ cs rfl)
theorem mapv_flat {f : PV → PV} (hf : LeafOk f) : ∀ l : List PV, flat (PV.mapv.mapL f l) = PV.mapv.mapL f (flat l)
  | [] => rfl
  | x :: xs => by
    have ih := mapv_flat hf xs
    have app : ∀ a b : List PV, PV.mapv.mapL f (a ++ b) = PV.mapv.mapL f a ++ PV.mapv.mapL f b := fun a b => by simp [mapL_eq]
    have e1 : flat (x :: xs) = x.cells ++ flat xs := by simp [flat]
    have e2 : flat (PV.mapv.mapL f (x :: xs)) = (x.mapv f).cells ++ flat (PV.mapv.mapL f xs) := by simp [flat, PV.mapv.mapL]
    rw [e1, e2, app, ih, mapv_cells hf]

theorem mapv_rep {f : PV → PV} {γ γ' : Gh} (hleaf : ∀ x v, x.leaf = true → Rep γ x v → Rep γ' (f x) v) : ∀ {x : PV} {v : Value}, Rep γ x v → Rep γ' (x.mapv f) v := by
  intro x v h
  induction h with
  | d h => exact hleaf _ _ rfl (.d h)
  | own h ht => exact hleaf _ _ rfl (.own h ht)
  | agg xs vs hl hc hr ih =>
    simp only [PV.mapv, mapL_eq]
    refine .agg _ vs (by simpa using hl) hc fun i c v hcc hv => ?_
    simp only [List.getElem?_map, Option.map_eq_some_iff] at hcc
    obtain ⟨y, hy, rfl⟩ := hcc
    exact ih i y v hy hv
  | tup xs vs hl hr ih =>
    simp only [PV.mapv, mapL_eq]
    refine .tup _ vs (by simpa using hl) fun i c v hcc hv => ?_
    simp only [List.getElem?_map, Option.map_eq_some_iff] at hcc
    obtain ⟨y, hy, rfl⟩ := hcc
    exact ih i y v hy hv
  | fn g first caps vf vc hlf hlc hf hc ihf ihc =>
    simp only [PV.mapv, mapL_eq]
    refine .fn g _ _ vf vc (by simpa using hlf) (by simpa using hlc) (fun i c v hcc hv => ?_) (fun i c v hcc hv => ?_)
    · simp only [List.getElem?_map, Option.map_eq_some_iff] at hcc
      obtain ⟨y, hy, rfl⟩ := hcc
      exact ihf i y v hy hv
    · simp only [List.getElem?_map, Option.map_eq_some_iff] at hcc
      obtain ⟨y, hy, rfl⟩ := hcc
      exact ihc i y v hy hv
  | hp h => exact hleaf _ _ rfl (.hp h)
  | hrow h h1 h2 => exact hleaf _ _ rfl (.hrow h h1 h2)
  | hmap h => exact hleaf _ _ rfl (.hmap h)
  | any v => exact .any v

theorem mapv_repL {f : PV → PV} (hf : LeafOk f) {γ γ' : Gh} (hleaf : ∀ x v, x.leaf = true → Rep γ x v → Rep γ' (f x) v) {l : List PV} {vs : List Value} (h : RepL γ (flat l) vs) : RepL γ' (flat (PV.mapv.mapL f l)) vs := by
  rw [mapv_flat hf, mapL_eq]
  refine ⟨by simpa using h.1, fun j c v hc hv => ?_⟩
  simp only [List.getElem?_map, Option.map_eq_some_iff] at hc
  obtain ⟨y, hy, rfl⟩ := hc
  exact mapv_rep hleaf (h.2 j y v hy hv)

/-- The objects behind a change of all leaves. -/
theorem ObjOk.mapv {f : PV → PV} (hf : LeafOk f) {M : Nat → Prop} {γ γ' : Gh} {w : World} {blk : Nat} {o : OB} {cs : Array Value} (h : ObjOk M γ w blk o cs) (hleaf : ∀ x v, x.leaf = true → Rep γ x v → Rep γ' (f x) v)
    (hfree : ∀ off, γ'.K blk off = none) : ObjOk M γ' w blk (o.mapv f) cs := by
  refine ⟨h.base, h.heap, mapv_repL hf hleaf h.rep, h.one, fun e he => ?_, hfree⟩
  simp only [OB.mapv, mapL_eq] at he
  obtain ⟨y, hy, rfl⟩ := List.mem_map.1 he
  rw [mapv_cells hf, mapL_eq, List.length_map]
  exact h.size y hy

/-! ### Freezing -/

def frzLeaf (id sz : Nat) (es : List D) (mp : Bool) : PV → PV
  | .hp i k off => if i = id then (bif mp then .any else .d (.ref ((es.flatMap D.cells).drop (k * sz + off)))) else .hp i k off
  | .hrow i s lo len cap => if i = id then (bif mp then .any else if lo + len ≤ es.length then .d (.sl sz ((es.drop lo).take len)) else .any) else .hrow i s lo len cap
  | .hmap i => if i = id then (bif mp then .d (.map (es.flatMap D.cells)) else .any) else .hmap i
  | .d x => .d x
  | .own s xs t => .own s xs t
  | .agg cs => .agg cs
  | .tup cs => .tup cs
  | .fn f a b => .fn f a b
  | .any => .any

theorem frzLeaf_ok (id sz : Nat) (es : List D) (mp : Bool) : LeafOk (frzLeaf id sz es mp) := by
  intro x cs hx h
  cases x <;> simp only [PV.leaf, reduceCtorEq] at hx <;> simp only [frzLeaf] at h
  · cases h
  · cases h
  · split at h
    · cases mp <;> cases h
    · cases h
  · split at h
    · cases mp
      · simp only [cond_false] at h; split at h <;> cases h
      · cases h
    · cases h
  · split at h
    · cases mp <;> cases h
    · cases h

/-- What is known behind a freezing. -/
def frzK (K : Nat → Nat → Option Value) (blk : Nat) (mp : Bool) (cs : List Value) : Nat → Nat → Option Value :=
  bif mp then (fun b o => if b = blk then (if o = 0 then some (.tuple cs.toArray) else none) else K b o) else kadd K blk cs
def frzGh (γ : Gh) (id blk : Nat) (mp : Bool) (cs : List Value) : Gh := ⟨frzK γ.K blk mp cs, fun i => if i = id then none else γ.m i, γ.τ⟩

theorem frzK_other {K : Nat → Nat → Option Value} {blk : Nat} {mp : Bool} {cs : List Value} {b o : Nat} (h : b ≠ blk) : frzK K blk mp cs b o = K b o := by
  cases mp <;> simp [frzK, kadd, h]
theorem frzK_le {K : Nat → Nat → Option Value} {blk : Nat} {mp : Bool} {cs : List Value} (h : ∀ off, K blk off = none) : KLe K (frzK K blk mp cs) := fun b o v hv => by
  by_cases hb : b = blk
  · subst hb; rw [h] at hv; cases hv
  · rw [frzK_other hb]; exact hv

section
variable {γ : Gh} {id sz blk : Nat} {cs : List Value} {es : List D} {mp : Bool}

theorem frz_rep (hfree : ∀ off, γ.K blk off = none) (hm : γ.m id = some (blk, sz)) (hds : RepDL γ.K (es.flatMap D.cells) cs) (hsz : ∀ e ∈ es, e.cells.length = sz) (h1 : ∀ u ∈ cs, u.oneCell' = true) :
    ∀ (x : PV) (v : Value), x.leaf = true → Rep γ x v → Rep (frzGh γ id blk mp cs) (frzLeaf id sz es mp x) v := by
  have hle : KLe γ.K (frzGh γ id blk mp cs).K := frzK_le hfree
  intro x v hx h
  cases h with
  | d h => exact .d (h.mono hle)
  | own h ht =>
    rename_i sz xs tk
    cases tk with
    | full => exact .own (h.mono hle) ht
    | tok n => exact .own (h.mono hle) ht
  | agg => cases hx
  | tup => cases hx
  | fn => cases hx
  | any => cases hx
  | hp h =>
    rename_i i k off b s
    simp only [frzLeaf]
    by_cases hi : i = id
    · subst hi
      rw [if_pos rfl]
      rw [hm] at h; cases h
      cases mp with
      | true => exact .any _
      | false =>
        refine .d (.ref _ blk _ (fun j => cs.getD (k * sz + off + j) undef) ?_ ?_ ?_)
        · intro j d hd
          rw [List.getElem?_drop] at hd
          have hlt : k * sz + off + j < cs.length := by rw [← hds.1]; exact (List.getElem?_eq_some_iff.1 hd).1
          simp [frzGh, frzK, kadd, hlt]
        · intro j d hd
          rw [List.getElem?_drop] at hd
          have hlt : k * sz + off + j < cs.length := by rw [← hds.1]; exact (List.getElem?_eq_some_iff.1 hd).1
          simp only [List.getD, List.getElem?_eq_getElem hlt, Option.getD_some]
          exact h1 _ (List.getElem_mem hlt)
        · intro j d hd
          rw [List.getElem?_drop] at hd
          have hlt : k * sz + off + j < cs.length := by rw [← hds.1]; exact (List.getElem?_eq_some_iff.1 hd).1
          simp only [List.getD, List.getElem?_eq_getElem hlt, Option.getD_some]
          exact (hds.2 _ d _ hd (List.getElem?_eq_getElem hlt)).mono hle
    · rw [if_neg hi]
      exact .hp (by simp only [frzGh, if_neg hi]; exact h)
  | hrow h hc hl =>
    rename_i i s lo len cap c b
    simp only [frzLeaf]
    by_cases hi : i = id
    · subst hi
      rw [if_pos rfl]
      rw [hm] at h; cases h
      cases mp with
      | true => exact .any _
      | false =>
        simp only [cond_false]
        split
        · rename_i hlen
          refine .d ?_
          have hmem : ∀ x ∈ (es.drop lo).take len, x ∈ es := fun x hx => List.mem_of_mem_drop (List.mem_of_mem_take hx)
          have hlx : ((es.drop lo).take len).length = len := by rw [List.length_take, List.length_drop]; omega
          have hfl := flatMap_len D.cells sz es hsz
          have hpart : ((es.drop lo).take len).flatMap D.cells = ((es.flatMap D.cells).drop (lo * sz)).take (len * sz) := by
            have e1 : es = es.take lo ++ (es.drop lo).take len ++ (es.drop lo).drop len := by rw [List.append_assoc, List.take_append_drop, List.take_append_drop]
            have l1 : ((es.take lo).flatMap D.cells).length = lo * sz := by
              rw [flatMap_len D.cells sz _ (fun x hx => hsz x (List.mem_of_mem_take hx)), List.length_take]
              congr 1; omega
            have l2 : (((es.drop lo).take len).flatMap D.cells).length = len * sz := by
              rw [flatMap_len D.cells sz _ (fun x hx => hsz x (hmem x hx)), hlx]
            have e2 : es.flatMap D.cells = (es.take lo).flatMap D.cells ++ ((es.drop lo).take len).flatMap D.cells ++ ((es.drop lo).drop len).flatMap D.cells := by
              rw [← List.flatMap_append, ← List.flatMap_append, ← e1]
            rw [e2, List.append_assoc, List.drop_left' l1, List.take_left' l2]
          have key := RepD.of_flat (K := (frzGh γ i blk false cs).K) (sz := sz) (xs := (es.drop lo).take len) (fun x hx => hsz x (hmem x hx)) (b := blk) (o := lo * sz) (c := c) (by rw [hlx]; exact hl) (vals := (cs.drop (lo * sz)).take (len * sz))
            (fun j u hu => by
              rw [List.getElem?_take] at hu
              split at hu
              · rw [List.getElem?_drop] at hu; simp [frzGh, frzK, kadd, hu]
              · cases hu)
            (by
              rw [hpart]
              exact ⟨by simp [hds.1], fun j d v hd hv => by
                rw [List.getElem?_take] at hd hv
                split at hd
                · rename_i hlt; rw [if_pos hlt] at hv; rw [List.getElem?_drop] at hd hv; exact (hds.2 _ d v hd hv).mono hle
                · cases hd⟩)
            (fun u hu => h1 u (List.mem_of_mem_drop (List.mem_of_mem_take hu)))
          rw [hlx] at key
          exact key
        · exact .any _
    · rw [if_neg hi]
      exact .hrow (by simp only [frzGh, if_neg hi]; exact h) hc hl
  | hmap h =>
    rename_i i b s
    simp only [frzLeaf]
    by_cases hi : i = id
    · subst hi
      rw [if_pos rfl]
      rw [hm] at h; cases h
      cases mp with
      | false => exact .any _
      | true =>
        refine .d (.map _ blk cs (by simp [frzGh, frzK]) hds.1 fun j d v hd hv => (hds.2 j d v hd hv).mono hle)
    · rw [if_neg hi]
      exact .hmap (by simp only [frzGh, if_neg hi]; exact h)
end

def SL.frz (s : SL) (id sz : Nat) (es : List D) (mp : Bool) : SL := ⟨mapTm (frzLeaf id sz es mp) s.tm, delOb id (mapOb (frzLeaf id sz es mp) s.ob), s.tk⟩

/-- An object that holds data alone is given up: from now on it is data. -/
theorem SLe.freeze {E : Env} {s : SL} (id : Nat) (mp : Bool) {o : OB} (ho : lk none s.ob id = some o) (hmp : Nat.beq o.ty mapTag = mp) (hit : (mp || !Nat.ble 4000000000 o.ty) = true) {es : List D} (hds : PV.toD.toDs (flat o.elems) = some (es.flatMap D.cells)) (hsz : ∀ e ∈ es, e.cells.length = o.sz) :
    SLe E s (s.frz id o.sz es mp) := by
  intro γ own a w hC
  have hw := hC.world
  obtain ⟨blk, cs, hm, hok⟩ := hw.obj id o ho
  have hdr := RepL.toDs hok.rep hds
  have hle : KLe γ.K (frzGh γ id blk mp cs.toList).K := frzK_le hok.free
  have hleaf := frz_rep (mp := mp) hok.free hm hdr hsz hok.one
  have hmm : ∀ i x, (frzGh γ id blk mp cs.toList).m i = some x → i ≠ id ∧ γ.m i = some x := fun i x h => by
    simp only [frzGh] at h
    split at h
    · cases h
    · rename_i hne; exact ⟨hne, h⟩
  have hK : ∀ b off, b ≠ blk → (frzGh γ id blk mp cs.toList).K b off = γ.K b off := fun b off hb => frzK_other hb
  obtain ⟨spare, hheap⟩ := hok.heap
  refine ⟨frzGh γ id blk mp cs.toList, own, hC.defers, hC.size, fun i => ?_, ⟨hw.k0.trans hle, ?_, ?_, hw.below, ?_, ?_, ?_, ?_, hw.tinj, hw.ntok, (fun i b s h3 h => hw.pas i b s h3 (hmm _ _ h).2), hw.tmine⟩⟩
  · change Rep _ (lk .any (mapTm _ s.tm) i) _
    rw [lk_mapTm]
    exact mapv_rep hleaf (hC.tm i)
  · intro b off hk
    by_cases hb : b = blk
    · subst hb; exact hok.base
    · exact hw.knew b off (by rwa [← hK b off hb])
  · intro b off v hk
    by_cases hb : b = blk
    · subst hb
      cases mp with
      | false =>
        simp only [frzGh, frzK, kadd, cond_false, if_true] at hk
        refine Held.of_cell ?_ (hok.one v (List.mem_of_getElem? hk))
        rw [objOf_cells (by simpa [mapTag] using hit)] at hheap
        have hlt : off < cs.size := by have := (List.getElem?_eq_some_iff.1 hk).1; simpa using this
        simp only [World.cell?, hheap]
        simpa [Array.getElem?_append, hlt] using hk
      | true =>
        simp only [frzGh, frzK, cond_true, if_true] at hk
        split at hk
        · cases hk
          simp only [objOf, hmp, cond_true] at hheap
          simpa [Held] using hheap
        · cases hk
    · exact hw.ksub b off v (by rwa [← hK b off hb])
  · intro i o' hio
    have hio' : lk none (delOb id (mapOb _ s.ob)) i = some o' := hio
    rw [lk_delOb] at hio'
    split at hio'
    · cases hio'
    · rename_i hne
      rw [lk_mapOb] at hio'
      simp only [Option.map_eq_some_iff] at hio'
      obtain ⟨o1, ho1, rfl⟩ := hio'
      obtain ⟨blk1, cs1, hm1, hok1⟩ := hw.obj i o1 ho1
      have hbne : blk1 ≠ blk := fun e => by subst e; exact hne (hw.inj _ _ _ _ _ hm1 hm)
      exact ⟨blk1, cs1, by simp only [frzGh, if_neg hne]; exact hm1, hok1.mapv (frzLeaf_ok _ _ _ _) hleaf fun off => (hK blk1 off hbne).trans (hok1.free off)⟩
  · intro i hio
    have hio' : lk none (delOb id (mapOb _ s.ob)) i = none := hio
    rw [lk_delOb] at hio'
    by_cases hi : i = id
    · simp [frzGh, hi]
    · rw [if_neg hi, lk_mapOb] at hio'
      simp only [Option.map_eq_none_iff] at hio'
      simp only [frzGh, if_neg hi]
      exact hw.nob i hio'
  · intro i j b x y hi hj
    exact hw.inj i j b x y (hmm _ _ hi).2 (hmm _ _ hj).2
  · intro t e sz ht
    obtain ⟨v, hv, hok1⟩ := hw.tok t e sz ht
    refine ⟨v, hv, ?_⟩
    cases hot : own t with
    | none => rw [hot] at hok1; exact hok1
    | some g =>
      rw [hot] at hok1
      obtain ⟨n, cap, cur, hok1⟩ := hok1
      have hbne : g ≠ blk := fun e => by subst e; exact hok1.noobj _ _ hm
      exact ⟨n, cap, cur, hok1.keep rfl (fun off h => (hK g off hbne).trans (hok1.free off h)) fun i s h => hok1.noobj i s (hmm _ _ h).2⟩

/-! ### Tokens -/

def renLeaf (t t' : Nat) : PV → PV
  | .own sz xs (.tok n) => .own sz xs (.tok (if n = t then t' else n))
  | .own sz xs .full => .own sz xs .full
  | .hp i k off => .hp i k off
  | .hrow i s lo len cap => .hrow i s lo len cap
  | .hmap i => .hmap i
  | .d x => .d x
  | .agg cs => .agg cs
  | .tup cs => .tup cs
  | .fn f a b => .fn f a b
  | .any => .any
theorem renLeaf_ok (t t' : Nat) : LeafOk (renLeaf t t') := by
  intro x cs hx h
  cases x <;> simp only [PV.leaf, reduceCtorEq] at hx <;> first | cases h | skip
  rename_i sz xs tk
  cases tk <;> cases h

def SL.ren (s : SL) (t t' : Nat) (e : TypeId) (size : Nat) : SL := ⟨mapTm (renLeaf t t') s.tm, mapOb (renLeaf t t') s.ob, ins (ins s.tk t .dead) t' (.live e size)⟩

theorem ren_rep {γ γ' : Gh} {t t' : Nat} (hK : γ'.K = γ.K) (hm : ∀ i x, γ.m i = some x → γ'.m i = some x) (hτ : ∀ n v, γ.τ n = some v → γ'.τ (if n = t then t' else n) = some v) :
    ∀ (x : PV) (v : Value), x.leaf = true → Rep γ x v → Rep γ' (renLeaf t t' x) v := by
  intro x v hx h
  cases h with
  | d h => exact .d (by rw [hK]; exact h)
  | own h ht =>
    rename_i sz xs tk
    cases tk with
    | full => exact .own (by rw [hK]; exact h) ht
    | tok n => exact .own (by rw [hK]; exact h) (hτ n v ht)
  | agg => cases hx
  | tup => cases hx
  | fn => cases hx
  | any => cases hx
  | hp h => exact .hp (hm _ _ h)
  | hrow h h1 h2 => exact .hrow (hm _ _ h) h1 h2
  | hmap h => exact .hmap (hm _ _ h)

/-- A token gets another name, everywhere. -/
theorem SLe.ren {E : Env} {s : SL} (t t' : Nat) {e : TypeId} {size : Nat} (ht : lk .never s.tk t = .live e size) (ht' : lk .never s.tk t' = .never) : SLe E s (s.ren t t' e size) := by
  intro γ own a w hC
  have hne : t ≠ t' := fun he => by subst he; rw [ht'] at ht; cases ht
  obtain ⟨v, hv, _⟩ := hC.world.tok t e size ht
  obtain ⟨γ', own', hK, hτ, hle, hw'⟩ := hC.world.pass (d := t') ht' (kill := some t) (e := e) (size := size) (.inr ⟨t, rfl, hne, ht, hv⟩) (fun _ h => by cases h)
  have hτ' : ∀ n u, γ.τ n = some u → γ'.τ (if n = t then t' else n) = some u := fun n u hn => by
    split
    · rename_i e; subst e; rw [hv] at hn; cases hn; exact hτ
    · exact hle.τ n u hn
  have hleaf := ren_rep (t := t) (t' := t') hK hle.m hτ'
  refine ⟨γ', own', hC.defers, hC.size, fun i => ?_, ?_⟩
  · change Rep _ (lk .any (mapTm _ s.tm) i) _
    rw [lk_mapTm]
    exact mapv_rep hleaf (hC.tm i)
  · have e1 : (SL.of (s.ren t t' e size)).tk = tkAfter s.of.tk (some t) t' (.live e size) := by simp [SL.of, SL.ren, tkAfter, lk_ins_fun]
    rw [e1]
    refine ⟨hw'.k0, hw'.knew, hw'.ksub, hw'.below, ?_, ?_, hw'.inj, hw'.tok, hw'.tinj, hw'.ntok, hw'.pas, hw'.tmine⟩
    · intro i o' hio
      have hio' : lk none (mapOb _ s.ob) i = some o' := hio
      rw [lk_mapOb] at hio'
      simp only [Option.map_eq_some_iff] at hio'
      obtain ⟨o1, ho1, rfl⟩ := hio'
      obtain ⟨blk, cs, hm, hok⟩ := hC.world.obj i o1 ho1
      exact ⟨blk, cs, hle.m _ _ hm, hok.mapv (renLeaf_ok _ _) hleaf fun off => by rw [hK]; exact hok.free off⟩
    · intro i hio
      have hio' : lk none (mapOb _ s.ob) i = none := hio
      rw [lk_mapOb] at hio'
      simp only [Option.map_eq_none_iff] at hio'
      exact hw'.nob i hio'

/-! ### Two objects change their names -/

def swapN (i j n : Nat) : Nat := if n = i then j else if n = j then i else n
theorem swapN_swap (i j n : Nat) : swapN i j (swapN i j n) = n := by
  unfold swapN
  split <;> split <;> (try split) <;> omega
def swapLeaf (a b : Nat) : PV → PV
  | .hp i k off => .hp (swapN a b i) k off
  | .hrow i s lo len cap => .hrow (swapN a b i) s lo len cap
  | .hmap i => .hmap (swapN a b i)
  | .own sz xs t => .own sz xs t
  | .d x => .d x
  | .agg cs => .agg cs
  | .tup cs => .tup cs
  | .fn f a b => .fn f a b
  | .any => .any
theorem swapLeaf_ok (a b : Nat) : LeafOk (swapLeaf a b) := by
  intro x cs hx h
  cases x <;> simp only [PV.leaf, reduceCtorEq] at hx <;> cases h
def swapKeys (a b : Nat) : List (Nat × Option OB) → List (Nat × Option OB)
  | [] => []
  | (i, o) :: l => (swapN a b i, o) :: swapKeys a b l
/-- The keys in their order. -/
def sortKeys : List (Nat × Option OB) → List (Nat × Option OB)
  | [] => []
  | (i, o) :: l => ins (sortKeys l) i o
theorem lk_sortKeys : ∀ (l : List (Nat × Option OB)) (i : Nat), lk none (sortKeys l) i = lk none l i
  | [], i => rfl
  | (j, o) :: l, i => by simp only [sortKeys, lk_ins, lk, lk_sortKeys l i]
theorem lk_swapKeys (a b : Nat) : ∀ (l : List (Nat × Option OB)) (i : Nat), lk none (swapKeys a b l) i = lk none l (swapN a b i)
  | [], i => rfl
  | (j, o) :: l, i => by
    simp only [swapKeys, lk]
    by_cases h : i = swapN a b j
    · subst h; rw [swapN_swap]; simp
    · have : swapN a b i ≠ j := fun e => h (by rw [← e, swapN_swap])
      rw [if_neg h, if_neg this]
      exact lk_swapKeys a b l i

def SL.swap (s : SL) (a b : Nat) : SL := ⟨mapTm (swapLeaf a b) s.tm, sortKeys (swapKeys a b (mapOb (swapLeaf a b) s.ob)), s.tk⟩

theorem SLe.swap {E : Env} {s : SL} (a b : Nat) (ha : a < 3000) (hb : b < 3000) : SLe E s (s.swap a b) := by
  intro γ own ac w hC
  have hw := hC.world
  let γ' : Gh := ⟨γ.K, fun i => γ.m (swapN a b i), γ.τ⟩
  have hleaf : ∀ (x : PV) (v : Value), x.leaf = true → Rep γ x v → Rep γ' (swapLeaf a b x) v := by
    intro x v hx h
    cases h with
    | d h => exact .d h
    | own h ht =>
      rename_i sz xs tk
      cases tk with
      | full => exact .own h ht
      | tok n => exact .own h ht
    | agg => cases hx
    | tup => cases hx
    | fn => cases hx
    | any => cases hx
    | hp h => exact .hp (by show γ.m (swapN a b (swapN a b _)) = _; rw [swapN_swap]; exact h)
    | hrow h h1 h2 => exact .hrow (by show γ.m (swapN a b (swapN a b _)) = _; rw [swapN_swap]; exact h) h1 h2
    | hmap h => exact .hmap (by show γ.m (swapN a b (swapN a b _)) = _; rw [swapN_swap]; exact h)
  refine ⟨γ', own, hC.defers, hC.size, fun i => ?_, ⟨hw.k0, hw.knew, hw.ksub, hw.below, ?_, ?_, ?_, ?_, hw.tinj, hw.ntok, ?_, hw.tmine⟩⟩
  · change Rep _ (lk .any (mapTm _ s.tm) i) _
    rw [lk_mapTm]
    exact mapv_rep hleaf (hC.tm i)
  · intro i o' hio
    have hio' : lk none (sortKeys (swapKeys a b (mapOb (swapLeaf a b) s.ob))) i = some o' := hio
    rw [lk_sortKeys, lk_swapKeys, lk_mapOb] at hio'
    simp only [Option.map_eq_some_iff] at hio'
    obtain ⟨o1, ho1, rfl⟩ := hio'
    obtain ⟨blk, cs, hm, hok⟩ := hw.obj _ o1 ho1
    exact ⟨blk, cs, hm, hok.mapv (swapLeaf_ok _ _) hleaf hok.free⟩
  · intro i hio
    have hio' : lk none (sortKeys (swapKeys a b (mapOb (swapLeaf a b) s.ob))) i = none := hio
    rw [lk_sortKeys, lk_swapKeys, lk_mapOb] at hio'
    simp only [Option.map_eq_none_iff] at hio'
    exact hw.nob _ hio'
  · intro i j blk x y hi hj
    have := hw.inj _ _ _ _ _ hi hj
    rw [← swapN_swap a b i, this, swapN_swap]
  · intro t e sz ht
    obtain ⟨v, hv, hok1⟩ := hw.tok t e sz ht
    refine ⟨v, hv, ?_⟩
    cases hot : own t with
    | none => rw [hot] at hok1; exact hok1
    | some g =>
      rw [hot] at hok1
      obtain ⟨n, cap, cur, hok1⟩ := hok1
      exact ⟨n, cap, cur, hok1.keep rfl hok1.free fun i s h => hok1.noobj _ s h⟩
  · intro i blk s h3 h
    have : swapN a b i = i := by unfold swapN; rw [if_neg (by omega), if_neg (by omega)]
    have h' : γ.m (swapN a b i) = some (blk, s) := h
    rw [this] at h'
    exact hw.pas i blk s h3 h'

/-- The spare room of a slice in an object's cell gets a token of its own. -/
theorem SLe.fullOb {E : Env} {s : SL} (i j t : Nat) {o : OB} {cs : List PV} {sz : Nat} {xs : List D} (e : TypeId) (size : Nat) (ho : lk none s.ob i = some o) (hel : o.elems = [.agg cs]) (hj : cs[j]? = some (.own sz xs .full)) (ht : lk .never s.tk t = .never) (hsm : size < 1000000) :
    SLe E s ⟨s.tm, ins s.ob i (some { o with elems := [.agg (cs.set j (.own sz xs (.tok t)))] }), ins s.tk t (.live e size)⟩ := by
  intro γ own a w hC
  obtain ⟨blk, vs, hm, hok⟩ := hC.world.obj i o ho
  have hrep := hok.rep
  rw [hel, flat_one] at hrep
  have hjl : j < vs.toList.length := by rw [← hrep.1]; exact (List.getElem?_eq_some_iff.1 hj).1
  have hcell := hrep.2 j _ _ hj (List.getElem?_eq_getElem hjl)
  cases hcell with
  | own hr hf =>
    obtain ⟨γ', own', hK, hτ, hle, hw'⟩ := hC.world.pass (d := t) ht (kill := none) (e := e) (size := size) (.inl ⟨rfl, hf⟩) (fun h _ => by omega)
    refine ⟨γ', own', hC.defers, hC.size, fun k => (hC.tm k).mono hle, ?_⟩
    have e1 : (SL.of ⟨s.tm, ins s.ob i (some { o with elems := [.agg (cs.set j (.own sz xs (.tok t)))] }), ins s.tk t (.live e size)⟩).tk = tkAfter s.of.tk none t (.live e size) := by simp [SL.of, tkAfter, lk_ins_fun]
    rw [e1]
    refine ⟨hw'.k0, hw'.knew, hw'.ksub, hw'.below, ?_, ?_, hw'.inj, hw'.tok, hw'.tinj, hw'.ntok, hw'.pas, hw'.tmine⟩
    · intro k o' hko
      have hko' : lk none (ins s.ob i (some { o with elems := [.agg (cs.set j (.own sz xs (.tok t)))] })) k = some o' := hko
      rw [lk_ins] at hko'
      by_cases hki : k = i
      · subst hki
        rw [if_pos rfl] at hko'
        cases hko'
        refine ⟨blk, vs, hle.m _ _ hm, hok.base, hok.heap, ?_, hok.one, ?_, fun off => by rw [hK]; exact hok.free off⟩
        · rw [flat_one]
          show RepL γ' (cs.set j (.own sz xs (.tok t))) _
          refine ⟨by rw [List.length_set]; exact hrep.1, fun q c v hc hv => ?_⟩
          rw [List.getElem?_set] at hc
          by_cases hq : j = q
          · subst hq
            rw [if_pos rfl] at hc
            split at hc
            · cases hc
              rw [List.getElem?_eq_getElem hjl] at hv
              cases hv
              exact .own (by rw [hK]; exact hr) hτ
            · cases hc
          · rw [if_neg hq] at hc
            exact (hrep.2 q c v hc hv).mono hle
        · intro x hx
          have hx' : x = .agg (cs.set j (.own sz xs (.tok t))) := by simpa using hx
          subst hx'
          have := hok.size (.agg cs) (by rw [hel]; simp)
          simpa [PV.cells] using this
      · rw [if_neg hki] at hko'
        exact hw'.obj k o' hko'
    · intro k hko
      have hko' : lk none (ins s.ob i (some { o with elems := [.agg (cs.set j (.own sz xs (.tok t)))] })) k = none := hko
      rw [lk_ins] at hko'
      split at hko'
      · cases hko'
      · exact hw'.nob k hko'

theorem frz_def (tm ob tk) (id sz : Nat) (es : List D) (mp : Bool) : SL.frz ⟨tm, ob, tk⟩ id sz es mp = ⟨mapTm (frzLeaf id sz es mp) tm, delOb id (mapOb (frzLeaf id sz es mp) ob), tk⟩ := rfl
theorem swap_def (tm ob tk) (a b : Nat) : SL.swap ⟨tm, ob, tk⟩ a b = ⟨mapTm (swapLeaf a b) tm, sortKeys (swapKeys a b (mapOb (swapLeaf a b) ob)), tk⟩ := rfl
theorem ren_def (tm ob tk) (t t' : Nat) (e : TypeId) (size : Nat) : SL.ren ⟨tm, ob, tk⟩ t t' e size = ⟨mapTm (renLeaf t t') tm, mapOb (renLeaf t t') ob, ins (ins tk t .dead) t' (.live e size)⟩ := rfl
theorem flat_nil : flat [] = [] := rfl
theorem flat_cons (x : PV) (l : List PV) : flat (x :: l) = x.cells ++ flat l := by simp [flat]
attribute [go_sem] List.length_map List.length_append List.map_append List.length_take List.length_drop List.length_set
attribute [go_sem] dstsOk List.getElem?_toArray List.toList_toArray Value.oneCell'
attribute [go_sem] frz_def ren_def swap_def flat_nil flat_cons mapTm mapOb delOb OB.mapv PV.mapv PV.mapv.mapL frzLeaf renLeaf swapLeaf swapN swapKeys sortKeys List.flatMap_cons List.flatMap_nil

theorem toDs_d : ∀ l : List D, PV.toD.toDs (l.map .d) = some l
  | [] => rfl
  | x :: l => by simp [PV.toD.toDs, PV.toD, toDs_d l]
theorem toDs_ofD1 (l : List D) : PV.toD.toDs (flat (l.map PV.ofD.PV.ofD1)) = some (l.flatMap D.cells) := by rw [flat_ofD1, toDs_d]

/-- The freezing, written out. -/
theorem Run.freeze {P : Program} {E : Env} {fn : Func} {f : FuncId} {r : List D} {k : List Item} {s s' : SL} (id : Nat) {o : OB} {es : List D} (ho : lk none s.ob id = some o) (hes : PV.toD.toDs o.elems = some es) (hds : PV.toD.toDs (flat o.elems) = some (es.flatMap D.cells)) (hsz : ∀ e ∈ es, e.cells.length = o.sz)
    (hit : (Nat.beq o.ty 4000000000 || !Nat.ble 4000000000 o.ty) = true) (hs : s.frz id o.sz es (Nat.beq o.ty 4000000000) = s') (h : Run P E fn f r k s'.of) : Run P E fn f r k s.of := Run.le (SLe.freeze id _ ho rfl hit hds hsz) (hs ▸ h)
/-- A row of data is frozen. -/
theorem Run.freezeRow {P : Program} {E : Env} {fn : Func} {f : FuncId} {r : List D} {k : List Item} {s s' : SL} (id : Nat) {ty : TypeId} {sz : Nat} {es : List D} (ho : lk none s.ob id = some ⟨ty, sz, es.map PV.ofD.PV.ofD1⟩) (hsz : ∀ e ∈ es, e.cells.length = sz)
    (hit : (Nat.beq ty 4000000000 || !Nat.ble 4000000000 ty) = true) (hs : s.frz id sz es (Nat.beq ty 4000000000) = s') (h : Run P E fn f r k s'.of) : Run P E fn f r k s.of := Run.le (SLe.freeze id _ ho rfl hit (toDs_ofD1 es) hsz) (hs ▸ h)
theorem Run.swap {P : Program} {E : Env} {fn : Func} {f : FuncId} {r : List D} {k : List Item} {s s' : SL} (a b : Nat) (ha : a < 3000) (hb : b < 3000) (hs : s.swap a b = s') (h : Run P E fn f r k s'.of) : Run P E fn f r k s.of := Run.le (SLe.swap a b ha hb) (hs ▸ h)
theorem Run.ren {P : Program} {E : Env} {fn : Func} {f : FuncId} {r : List D} {k : List Item} {s s' : SL} (t t' : Nat) {e : TypeId} {size : Nat} (ht : lk .never s.tk t = .live e size) (ht' : lk .never s.tk t' = .never) (hs : s.ren t t' e size = s')
    (h : Run P E fn f r k s'.of) : Run P E fn f r k s.of := Run.le (SLe.ren t t' ht ht') (hs ▸ h)
theorem Run.full {P : Program} {E : Env} {fn : Func} {f : FuncId} {r : List D} {k : List Item} {s s' : SL} (i t : Nat) {sz : Nat} {xs : List D} (e : TypeId) (size : Nat) (hi : lk .any s.tm i = .own sz xs .full) (ht : lk .never s.tk t = .never) (hmn : size < 1000000 ∨ xs = [])
    (hs : (⟨ins s.tm i (.own sz xs (.tok t)), s.ob, ins s.tk t (.live e size)⟩ : SL) = s') (h : Run P E fn f r k s'.of) : Run P E fn f r k s.of := Run.le (SLe.full i t e size hi ht hmn) (hs ▸ h)
theorem Run.fullOb {P : Program} {E : Env} {fn : Func} {f : FuncId} {r : List D} {k : List Item} {s s' : SL} (i j t : Nat) {o : OB} {cs : List PV} {sz : Nat} {xs : List D} (e : TypeId) (size : Nat) (ho : lk none s.ob i = some o) (hel : o.elems = [.agg cs])
    (hj : cs[j]? = some (.own sz xs .full)) (ht : lk .never s.tk t = .never) (hsm : size < 1000000) (hs : (⟨s.tm, ins s.ob i (some { o with elems := [.agg (cs.set j (.own sz xs (.tok t)))] }), ins s.tk t (.live e size)⟩ : SL) = s')
    (h : Run P E fn f r k s'.of) : Run P E fn f r k s.of := Run.le (SLe.fullOb i j t e size ho hel hj ht hsm) (hs ▸ h)
theorem Run.forget {P : Program} {E : Env} {fn : Func} {f : FuncId} {r : List D} {k : List Item} {s s' : SL} (h : Run P E fn f r k s'.of) (htm : leTm s'.ob s'.tk s.tm s'.tm) (hob : leOb s'.ob s'.tk s.ob s'.ob) (htk : leTk s.tk s'.tk) :
    Run P E fn f r k s.of := Run.le (SLe.forget htm hob htk) h

/-- A loop: H i is what is said at the head of a round; from a round's end to the next head less is said, and the measure goes down. -/
theorem Run.loop {P : Program} {E : Env} {fn : Func} {f : FuncId} {r : List D} {k : List Item} {s : SL} {c : Code} {ι : Type} (H : ι → SL) (μ : ι → Nat) (i0 : ι)
    (htm : leTm (H i0).ob (H i0).tk s.tm (H i0).tm) (hob : leOb (H i0).ob (H i0).tk s.ob (H i0).ob) (htk : leTk s.tk (H i0).tk)
    (round : ∀ i, (∀ (j : ι) (s' : SL), leTm (H j).ob (H j).tk s'.tm (H j).tm → leOb (H j).ob (H j).tk s'.ob (H j).ob → leTk s'.tk (H j).tk → μ j < μ i → Run P E fn f r (.inLoop c :: k) s'.of) → Run P E fn f r (.code c :: .inLoop c :: k) (H i).of) :
    Run P E fn f r (.code (.loop c) :: k) s.of :=
  Run.forget (run_rounds (fun i => (H i).of) μ (fun i ih => round i fun j s' h1 h2 h3 h4 => Run.forget (ih j h4) h1 h2 h3) i0) htm hob htk

attribute [go_sem] beq_self_eq_true and_self and_true true_and or_true true_or false_and and_false or_false false_or if_true if_false Bool.false_eq_true Int.toNat_natCast Nat.add_zero Nat.zero_add Nat.sub_zero Int.toNat_zero List.length_cons List.length_nil List.length_replicate

end Go.PS

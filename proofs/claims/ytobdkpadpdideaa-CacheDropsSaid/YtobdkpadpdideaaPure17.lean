/-
  Objects that are not written any more become data; tokens get other names.
-/
import Derived.Test.YtobdkpadpdideaaPure16
set_option linter.unusedSimpArgs false
set_option linter.unusedVariables false
namespace Go.PS
open Go Go.RowKit

def PV.frz (id sz : Nat) (ds : List D) : PV → PV
  | .hp id' i off => if id' = id then .d (.ref (ds.drop (i * sz + off))) else .hp id' i off
  | .hrow id' sz' lo len cap => if id' = id then (if sz = 1 ∧ lo + len ≤ ds.length ∧ len ≤ cap ∧ ds.all D.cell = true then .d (.sl 1 ((ds.drop lo).take len)) else .any) else .hrow id' sz' lo len cap
  | .agg cs => .agg (frzL id sz ds cs)
  | .tup cs => .tup (frzL id sz ds cs)
  | .fn f a b => .fn f (frzL id sz ds a) (frzL id sz ds b)
  | x => x
where
  frzL (id sz : Nat) (ds : List D) : List PV → List PV
  | [] => []
  | x :: xs => PV.frz id sz ds x :: frzL id sz ds xs

def frzTm (id sz : Nat) (ds : List D) : List (Nat × PV) → List (Nat × PV)
  | [] => []
  | (i, v) :: l => (i, v.frz id sz ds) :: frzTm id sz ds l

def OB.frz (id sz : Nat) (ds : List D) (o : OB) : OB := ⟨o.ty, o.sz, PV.frz.frzL id sz ds o.elems⟩

def frzOb (id sz : Nat) (ds : List D) : List (Nat × Option OB) → List (Nat × Option OB)
  | [] => []
  | (i, o) :: l => if i = id then frzOb id sz ds l else (i, o.map (OB.frz id sz ds)) :: frzOb id sz ds l

def SL.frz (s : SL) (id sz : Nat) (ds : List D) : SL := ⟨frzTm id sz ds s.tm, frzOb id sz ds s.ob, s.tk⟩

theorem frzL_eq (id sz : Nat) (ds : List D) : ∀ l : List PV, PV.frz.frzL id sz ds l = l.map (PV.frz id sz ds)
  | [] => rfl
  | x :: xs => by simp [PV.frz.frzL, frzL_eq id sz ds xs]

theorem lk_frzTm (id sz : Nat) (ds : List D) : ∀ (l : List (Nat × PV)) (i : Nat), lk .any (frzTm id sz ds l) i = (lk .any l i).frz id sz ds
  | [], i => rfl
  | (j, v) :: l, i => by
    simp only [frzTm, lk]
    split
    · rfl
    · exact lk_frzTm id sz ds l i

theorem lk_frzOb (id sz : Nat) (ds : List D) : ∀ (l : List (Nat × Option OB)) (i : Nat), lk none (frzOb id sz ds l) i = if i = id then none else (lk none l i).map (OB.frz id sz ds)
  | [], i => by simp [frzOb, lk]
  | (j, o) :: l, i => by
    simp only [frzOb]
    by_cases hj : j = id
    · subst hj
      rw [if_pos rfl, lk_frzOb j sz ds l i]
      by_cases hi : i = j
      · subst hi; simp
      · simp [lk, hi]
    · rw [if_neg hj]
      simp only [lk]
      by_cases hi : i = j
      · subst hi; simp [hj]
      · rw [if_neg hi, if_neg hi, lk_frzOb id sz ds l i]

theorem pcells_ne {y : PV} (h : ∀ cs, y ≠ .agg cs) : y.cells = [y] := by cases y <;> first | rfl | exact absurd rfl (h _)

theorem frz_cells (id sz : Nat) (ds : List D) (x : PV) : (x.frz id sz ds).cells = PV.frz.frzL id sz ds x.cells := by
  cases x with
  | agg cs => rfl
  | hp i k off =>
    have : ∀ cs, (PV.frz id sz ds (.hp i k off)) ≠ .agg cs := fun cs h => by
      simp only [PV.frz] at h
      split at h <;> cases h
    rw [pcells_ne this]; rfl
  | hrow i s lo len cap =>
    have : ∀ cs, (PV.frz id sz ds (.hrow i s lo len cap)) ≠ .agg cs := fun cs h => by
      simp only [PV.frz] at h
      split at h
      · split at h <;> cases h
      · cases h
    rw [pcells_ne this]; rfl
  | _ => rfl

theorem frz_flat (id sz : Nat) (ds : List D) : ∀ l : List PV, flat (PV.frz.frzL id sz ds l) = PV.frz.frzL id sz ds (flat l)
  | [] => rfl
  | x :: xs => by
    have ih := frz_flat id sz ds xs
    have app : ∀ a b : List PV, PV.frz.frzL id sz ds (a ++ b) = PV.frz.frzL id sz ds a ++ PV.frz.frzL id sz ds b := fun a b => by simp [frzL_eq]
    have e1 : flat (x :: xs) = x.cells ++ flat xs := by simp [flat]
    have e2 : flat (PV.frz.frzL id sz ds (x :: xs)) = (x.frz id sz ds).cells ++ flat (PV.frz.frzL id sz ds xs) := by simp [flat, PV.frz.frzL]
    rw [e1, e2, app, ih, frz_cells]

/-- The ghost behind a freezing. -/
def frzGh (γ : Gh) (id blk : Nat) (cs : List Value) : Gh := ⟨kadd γ.K blk cs, fun i => if i = id then none else γ.m i, γ.τ⟩

section
variable {γ : Gh} {id sz blk : Nat} {cs : List Value} {ds : List D}

theorem frz_repD (hle : KLe γ.K (frzGh γ id blk cs).K) (hm : γ.m id = some (blk, sz)) (hds : RepDL γ.K ds cs) (h1 : ∀ u ∈ cs, u.oneCell' = true) :
    ∀ {x : PV} {v : Value}, Rep γ x v → Rep (frzGh γ id blk cs) (x.frz id sz ds) v := by
  have href : ∀ off, RepD (frzGh γ id blk cs).K (.ref (ds.drop off)) (.pointer (some ⟨blk, off, none⟩)) := by
    intro off
    refine .ref _ blk off (fun j => cs.getD (off + j) undef) ?_ ?_ ?_
    · intro j d hd
      rw [List.getElem?_drop] at hd
      have hlt : off + j < cs.length := by rw [← hds.1]; exact (List.getElem?_eq_some_iff.1 hd).1
      simp [frzGh, kadd, hlt]
    · intro j d hd
      rw [List.getElem?_drop] at hd
      have hlt : off + j < cs.length := by rw [← hds.1]; exact (List.getElem?_eq_some_iff.1 hd).1
      simp only [List.getD, List.getElem?_eq_getElem hlt, Option.getD_some]
      exact h1 _ (List.getElem_mem hlt)
    · intro j d hd
      rw [List.getElem?_drop] at hd
      have hlt : off + j < cs.length := by rw [← hds.1]; exact (List.getElem?_eq_some_iff.1 hd).1
      simp only [List.getD, List.getElem?_eq_getElem hlt, Option.getD_some]
      exact (hds.2 _ d _ hd (List.getElem?_eq_getElem hlt)).mono hle
  intro x v h
  induction h with
  | d h => exact .d (h.mono hle)
  | own h ht =>
    rename_i sz xs tk v
    cases tk with
    | full => exact .own (h.mono hle) ht
    | tok n => exact .own (h.mono hle) ht
  | agg xs vs hl hc hr ih => 
    simp only [PV.frz, frzL_eq]
    refine .agg _ vs (by simpa using hl) hc fun i c v hcc hv => ?_
    · simp only [List.getElem?_map, Option.map_eq_some_iff] at hcc
      obtain ⟨y, hy, rfl⟩ := hcc
      exact ih i y v hy hv
  | tup xs vs hl hr ih => 
    simp only [PV.frz, frzL_eq]
    refine .tup _ vs (by simpa using hl) fun i c v hcc hv => ?_
    · simp only [List.getElem?_map, Option.map_eq_some_iff] at hcc
      obtain ⟨y, hy, rfl⟩ := hcc
      exact ih i y v hy hv
  | fn f first caps vf vc hlf hlc hf hc ihf ihc =>
    simp only [PV.frz, frzL_eq]
    refine .fn f _ _ vf vc (by simpa using hlf) (by simpa using hlc) (fun i c v hcc hv => ?_) (fun i c v hcc hv => ?_)
    · simp only [List.getElem?_map, Option.map_eq_some_iff] at hcc
      obtain ⟨y, hy, rfl⟩ := hcc
      exact ihf i y v hy hv
    · simp only [List.getElem?_map, Option.map_eq_some_iff] at hcc
      obtain ⟨y, hy, rfl⟩ := hcc
      exact ihc i y v hy hv
  | hp h =>
    rename_i id' i off blk' sz'
    simp only [PV.frz]
    by_cases hi : id' = id
    · subst hi
      rw [if_pos rfl]
      rw [hm] at h; cases h
      exact .d (href _)
    · rw [if_neg hi]
      exact .hp (by simp only [frzGh, if_neg hi]; exact h)
  | hrow h =>
    rename_i id' sz' lo len cap blk'
    simp only [PV.frz]
    by_cases hi : id' = id
    · subst hi
      rw [if_pos rfl]
      rw [hm] at h; cases h
      split
      · rename_i hc
        obtain ⟨rfl, hlen, hcap, hcell⟩ := hc
        refine .d ?_
        have hlx : ((ds.drop lo).take len).length = len := by rw [List.length_take, List.length_drop]; omega
        have hcells : ∀ x ∈ (ds.drop lo).take len, x.cells = [x] := fun x hx => cell_cells (List.all_eq_true.1 hcell x (List.mem_of_mem_drop (List.mem_of_mem_take hx)))
        have hfl : ((ds.drop lo).take len).flatMap D.cells = (ds.drop lo).take len := by
          have : ∀ l : List D, (∀ x ∈ l, x.cells = [x]) → l.flatMap D.cells = l := by
            intro l
            induction l with
            | nil => intro _; rfl
            | cons x l ih => intro h; simp [List.flatMap_cons, h x (by simp), ih fun y hy => h y (by simp [hy])]
          exact this _ hcells
        have key := RepD.of_flat (K := (frzGh γ id' blk cs).K) (sz := 1) (xs := (ds.drop lo).take len) (fun x hx => by rw [hcells x hx]; rfl) (b := blk) (o := lo) (c := cap) (by rw [hlx]; exact hcap) (vals := (cs.drop lo).take len)
          (fun j u hu => by
            rw [List.getElem?_take] at hu
            split at hu
            · rw [List.getElem?_drop] at hu; simp [frzGh, kadd, hu]
            · cases hu)
          (by rw [hfl]; exact ⟨by simp [hds.1], fun i d v hd hv => by
                rw [List.getElem?_take] at hd hv
                split at hd
                · rename_i hlt; rw [if_pos hlt] at hv; rw [List.getElem?_drop] at hd hv; exact (hds.2 _ d v hd hv).mono hle
                · cases hd⟩)
          (fun u hu => h1 u (List.mem_of_mem_drop (List.mem_of_mem_take hu)))
        rw [hlx] at key
        simpa using key
      · exact .any _
    · rw [if_neg hi]
      exact .hrow (by simp only [frzGh, if_neg hi]; exact h)
  | any v => exact .any v
end

/-- An object that holds data alone is given up: from now on it is data. -/
theorem SLe.freeze {E : Env} {s : SL} (id : Nat) {o : OB} (ho : lk none s.ob id = some o) {ds : List D} (hds : PV.toD.toDs (flat o.elems) = some ds) : SLe E s (s.frz id o.sz ds) := by
  intro γ own a w hC
  have hw := hC.world
  obtain ⟨blk, cs, hm, hok⟩ := hw.obj id o ho
  have hdr := RepL.toDs hok.rep hds
  have hle : KLe γ.K (frzGh γ id blk cs.toList).K := kadd_le fun off v hv => by rw [hok.free] at hv; cases hv
  have hrep : ∀ {x : PV} {v : Value}, Rep γ x v → Rep (frzGh γ id blk cs.toList) (x.frz id o.sz ds) v := fun h => frz_repD hle hm hdr hok.one h
  have hmm : ∀ i x, (frzGh γ id blk cs.toList).m i = some x → i ≠ id ∧ γ.m i = some x := fun i x h => by
    simp only [frzGh] at h
    split at h
    · cases h
    · rename_i hne; exact ⟨hne, h⟩
  have hK : ∀ b off, b ≠ blk → (frzGh γ id blk cs.toList).K b off = γ.K b off := fun b off hb => if_neg hb
  refine ⟨frzGh γ id blk cs.toList, own, hC.defers, hC.size, fun i => ?_, ⟨hw.k0.trans hle, ?_, ?_, hw.below, ?_, ?_, ?_, ?_, hw.tinj, hw.ntok⟩⟩
  · change Rep _ (lk .any (frzTm id o.sz ds s.tm) i) _
    rw [lk_frzTm]
    exact hrep (hC.tm i)
  · intro b off hk
    by_cases hb : b = blk
    · subst hb; exact hok.base
    · exact hw.knew b off (by rwa [← hK b off hb])
  · intro b off v hk
    by_cases hb : b = blk
    · subst hb
      simp only [frzGh, kadd, if_true] at hk
      simp only [World.cell?, hok.heap]
      simpa using hk
    · exact hw.ksub b off v (by rwa [← hK b off hb])
  · intro i o' hio
    have hio' : lk none (frzOb id o.sz ds s.ob) i = some o' := hio
    rw [lk_frzOb] at hio'
    split at hio'
    · cases hio'
    · rename_i hne
      simp only [Option.map_eq_some_iff] at hio'
      obtain ⟨o1, ho1, rfl⟩ := hio'
      obtain ⟨blk1, cs1, hm1, hok1⟩ := hw.obj i o1 ho1
      have hbne : blk1 ≠ blk := fun e => by subst e; exact hne (hw.inj _ _ _ _ _ hm1 hm)
      refine ⟨blk1, cs1, by simp only [frzGh, if_neg hne]; exact hm1, hok1.base, hok1.heap, ?_, hok1.one, ?_, fun off => (hK blk1 off hbne).trans (hok1.free off)⟩
      · show RepL _ (flat (PV.frz.frzL id o.sz ds o1.elems)) _
        rw [frz_flat, frzL_eq]
        refine ⟨by simpa using hok1.rep.1, fun j c v hc hv => ?_⟩
        simp only [List.getElem?_map, Option.map_eq_some_iff] at hc
        obtain ⟨y, hy, rfl⟩ := hc
        exact hrep (hok1.rep.2 j y v hy hv)
      · intro e he
        have he' : e ∈ PV.frz.frzL id o.sz ds o1.elems := he
        rw [frzL_eq] at he'
        obtain ⟨y, hy, rfl⟩ := List.mem_map.1 he'
        rw [frz_cells, frzL_eq, List.length_map]
        exact hok1.size y hy
  · intro i hio
    have hio' : lk none (frzOb id o.sz ds s.ob) i = none := hio
    rw [lk_frzOb] at hio'
    by_cases hi : i = id
    · simp [frzGh, hi]
    · rw [if_neg hi] at hio'
      simp only [Option.map_eq_none_iff] at hio'
      simp only [frzGh, if_neg hi]
      exact hw.nob i hio'
  · intro i j b x y hi hj
    exact hw.inj i j b x y (hmm _ _ hi).2 (hmm _ _ hj).2
  · intro t e sz ht
    obtain ⟨v, hv, hok1⟩ := hw.tok t e sz ht
    refine ⟨v, hv, ?_⟩
    cases hot : own t with
    | none => rw [hot] at hok1; exact hok1
    | some g =>
      rw [hot] at hok1
      obtain ⟨n, cap, cur, hok1⟩ := hok1
      have hbne : g ≠ blk := fun e => by subst e; exact hok1.noobj _ _ hm
      exact ⟨n, cap, cur, hok1.keep rfl (fun off h => (hK g off hbne).trans (hok1.free off h)) fun i s h => hok1.noobj i s (hmm _ _ h).2⟩

/-! ### Tokens -/

def PV.ren (t t' : Nat) : PV → PV
  | .own sz xs (.tok n) => .own sz xs (.tok (if n = t then t' else n))
  | .agg cs => .agg (renL t t' cs)
  | .tup cs => .tup (renL t t' cs)
  | .fn f a b => .fn f (renL t t' a) (renL t t' b)
  | x => x
where
  renL (t t' : Nat) : List PV → List PV
  | [] => []
  | x :: xs => PV.ren t t' x :: renL t t' xs

def renTm (t t' : Nat) : List (Nat × PV) → List (Nat × PV)
  | [] => []
  | (i, v) :: l => (i, v.ren t t') :: renTm t t' l
def OB.ren (t t' : Nat) (o : OB) : OB := ⟨o.ty, o.sz, PV.ren.renL t t' o.elems⟩
def renOb (t t' : Nat) : List (Nat × Option OB) → List (Nat × Option OB)
  | [] => []
  | (i, o) :: l => (i, o.map (OB.ren t t')) :: renOb t t' l
def SL.ren (s : SL) (t t' : Nat) (e : TypeId) (size : Nat) : SL := ⟨renTm t t' s.tm, renOb t t' s.ob, ins (ins s.tk t .dead) t' (.live e size)⟩

theorem renL_eq (t t' : Nat) : ∀ l : List PV, PV.ren.renL t t' l = l.map (PV.ren t t')
  | [] => rfl
  | x :: xs => by simp [PV.ren.renL, renL_eq t t' xs]
theorem lk_renTm (t t' : Nat) : ∀ (l : List (Nat × PV)) (i : Nat), lk .any (renTm t t' l) i = (lk .any l i).ren t t'
  | [], i => rfl
  | (j, v) :: l, i => by
    simp only [renTm, lk]
    split
    · rfl
    · exact lk_renTm t t' l i
theorem lk_renOb (t t' : Nat) : ∀ (l : List (Nat × Option OB)) (i : Nat), lk none (renOb t t' l) i = (lk none l i).map (OB.ren t t')
  | [], i => rfl
  | (j, o) :: l, i => by
    simp only [renOb, lk]
    split
    · rfl
    · exact lk_renOb t t' l i
theorem ren_cells (t t' : Nat) (x : PV) : (x.ren t t').cells = PV.ren.renL t t' x.cells := by
  cases x with
  | own sz xs tk => cases tk <;> rfl
  | _ => rfl
theorem ren_flat (t t' : Nat) : ∀ l : List PV, flat (PV.ren.renL t t' l) = PV.ren.renL t t' (flat l)
  | [] => rfl
  | x :: xs => by
    have ih := ren_flat t t' xs
    have app : ∀ a b : List PV, PV.ren.renL t t' (a ++ b) = PV.ren.renL t t' a ++ PV.ren.renL t t' b := fun a b => by simp [renL_eq]
    have e1 : flat (x :: xs) = x.cells ++ flat xs := by simp [flat]
    have e2 : flat (PV.ren.renL t t' (x :: xs)) = (x.ren t t').cells ++ flat (PV.ren.renL t t' xs) := by simp [flat, PV.ren.renL]
    rw [e1, e2, app, ih, ren_cells]

theorem ren_rep {γ γ' : Gh} {t t' : Nat} (hK : γ'.K = γ.K) (hm : ∀ i x, γ.m i = some x → γ'.m i = some x) (hτ : ∀ n v, γ.τ n = some v → γ'.τ (if n = t then t' else n) = some v) :
    ∀ {x : PV} {v : Value}, Rep γ x v → Rep γ' (x.ren t t') v := by
  intro x v h
  induction h with
  | d h => exact .d (by rw [hK]; exact h)
  | own h ht =>
    rename_i sz xs tk v
    cases tk with
    | full => exact .own (by rw [hK]; exact h) ht
    | tok n => exact .own (by rw [hK]; exact h) (hτ n v ht)
  | agg xs vs hl hc hr ih => 
    simp only [PV.ren, renL_eq]
    refine .agg _ vs (by simpa using hl) hc fun i c v hcc hv => ?_
    · simp only [List.getElem?_map, Option.map_eq_some_iff] at hcc
      obtain ⟨y, hy, rfl⟩ := hcc
      exact ih i y v hy hv
  | tup xs vs hl hr ih => 
    simp only [PV.ren, renL_eq]
    refine .tup _ vs (by simpa using hl) fun i c v hcc hv => ?_
    · simp only [List.getElem?_map, Option.map_eq_some_iff] at hcc
      obtain ⟨y, hy, rfl⟩ := hcc
      exact ih i y v hy hv
  | fn f first caps vf vc hlf hlc hf hc ihf ihc =>
    simp only [PV.ren, renL_eq]
    refine .fn f _ _ vf vc (by simpa using hlf) (by simpa using hlc) (fun i c v hcc hv => ?_) (fun i c v hcc hv => ?_)
    · simp only [List.getElem?_map, Option.map_eq_some_iff] at hcc
      obtain ⟨y, hy, rfl⟩ := hcc
      exact ihf i y v hy hv
    · simp only [List.getElem?_map, Option.map_eq_some_iff] at hcc
      obtain ⟨y, hy, rfl⟩ := hcc
      exact ihc i y v hy hv
  | hp h => exact .hp (hm _ _ h)
  | hrow h => exact .hrow (hm _ _ h)
  | any v => exact .any v

/-- A token gets another name, everywhere. -/
theorem SLe.ren {E : Env} {s : SL} (t t' : Nat) {e : TypeId} {size : Nat} (ht : lk .never s.tk t = .live e size) (ht' : lk .never s.tk t' = .never) : SLe E s (s.ren t t' e size) := by
  intro γ own a w hC
  have hne : t ≠ t' := fun he => by subst he; rw [ht'] at ht; cases ht
  obtain ⟨v, hv, _⟩ := hC.world.tok t e size ht
  obtain ⟨γ', own', hK, hτ, hle, hw'⟩ := hC.world.pass (d := t') ht' (kill := some t) (e := e) (size := size) (.inr ⟨t, rfl, hne, ht, hv⟩)
  have hτ' : ∀ n u, γ.τ n = some u → γ'.τ (if n = t then t' else n) = some u := fun n u hn => by
    split
    · rename_i e; subst e; rw [hv] at hn; cases hn; exact hτ
    · exact hle.τ n u hn
  have hrep : ∀ {x : PV} {v : Value}, Rep γ x v → Rep γ' (x.ren t t') v := fun h => ren_rep hK hle.m hτ' h
  refine ⟨γ', own', hC.defers, hC.size, fun i => ?_, ?_⟩
  · change Rep _ (lk .any (renTm t t' s.tm) i) _
    rw [lk_renTm]
    exact hrep (hC.tm i)
  · have e1 : (SL.of (s.ren t t' e size)).tk = tkAfter s.of.tk (some t) t' (.live e size) := by simp [SL.of, SL.ren, tkAfter, lk_ins_fun]
    rw [e1]
    refine ⟨hw'.k0, hw'.knew, hw'.ksub, hw'.below, ?_, ?_, hw'.inj, hw'.tok, hw'.tinj, hw'.ntok⟩
    · intro i o' hio
      have hio' : lk none (renOb t t' s.ob) i = some o' := hio
      rw [lk_renOb] at hio'
      simp only [Option.map_eq_some_iff] at hio'
      obtain ⟨o1, ho1, rfl⟩ := hio'
      obtain ⟨blk, cs, hm, hok⟩ := hC.world.obj i o1 ho1
      refine ⟨blk, cs, hle.m _ _ hm, hok.base, hok.heap, ?_, hok.one, ?_, fun off => by rw [hK]; exact hok.free off⟩
      · show RepL _ (flat (PV.ren.renL t t' o1.elems)) _
        rw [ren_flat, renL_eq]
        refine ⟨by simpa using hok.rep.1, fun j c v hc hv => ?_⟩
        simp only [List.getElem?_map, Option.map_eq_some_iff] at hc
        obtain ⟨y, hy, rfl⟩ := hc
        exact hrep (hok.rep.2 j y v hy hv)
      · intro x hx
        have hx' : x ∈ PV.ren.renL t t' o1.elems := hx
        rw [renL_eq] at hx'
        obtain ⟨y, hy, rfl⟩ := List.mem_map.1 hx'
        rw [ren_cells, renL_eq, List.length_map]
        exact hok.size y hy
    · intro i hio
      have hio' : lk none (renOb t t' s.ob) i = none := hio
      rw [lk_renOb] at hio'
      simp only [Option.map_eq_none_iff] at hio'
      exact hw'.nob i hio'

/-- The spare room of a slice in an object's cell gets a token of its own. -/
theorem SLe.fullOb {E : Env} {s : SL} (i j t : Nat) {o : OB} {cs : List PV} {sz : Nat} {xs : List D} (e : TypeId) (size : Nat) (ho : lk none s.ob i = some o) (hel : o.elems = [.agg cs]) (hj : cs[j]? = some (.own sz xs .full)) (ht : lk .never s.tk t = .never) :
    SLe E s ⟨s.tm, ins s.ob i (some { o with elems := [.agg (cs.set j (.own sz xs (.tok t)))] }), ins s.tk t (.live e size)⟩ := by
  intro γ own a w hC
  obtain ⟨blk, vs, hm, hok⟩ := hC.world.obj i o ho
  have hrep := hok.rep
  rw [hel, flat_one] at hrep
  have hjl : j < vs.toList.length := by rw [← hrep.1]; exact (List.getElem?_eq_some_iff.1 hj).1
  have hcell := hrep.2 j _ _ hj (List.getElem?_eq_getElem hjl)
  cases hcell with
  | own hr hf =>
    obtain ⟨γ', own', hK, hτ, hle, hw'⟩ := hC.world.pass (d := t) ht (kill := none) (e := e) (size := size) (.inl ⟨rfl, hf⟩)
    refine ⟨γ', own', hC.defers, hC.size, fun k => (hC.tm k).mono hle, ?_⟩
    have e1 : (SL.of ⟨s.tm, ins s.ob i (some { o with elems := [.agg (cs.set j (.own sz xs (.tok t)))] }), ins s.tk t (.live e size)⟩).tk = tkAfter s.of.tk none t (.live e size) := by simp [SL.of, tkAfter, lk_ins_fun]
    rw [e1]
    refine ⟨hw'.k0, hw'.knew, hw'.ksub, hw'.below, ?_, ?_, hw'.inj, hw'.tok, hw'.tinj, hw'.ntok⟩
    · intro k o' hko
      have hko' : lk none (ins s.ob i (some { o with elems := [.agg (cs.set j (.own sz xs (.tok t)))] })) k = some o' := hko
      rw [lk_ins] at hko'
      by_cases hki : k = i
      · subst hki
        rw [if_pos rfl] at hko'
        cases hko'
        refine ⟨blk, vs, hle.m _ _ hm, hok.base, hok.heap, ?_, hok.one, ?_, fun off => by rw [hK]; exact hok.free off⟩
        · rw [flat_one]
          show RepL γ' (cs.set j (.own sz xs (.tok t))) _
          refine ⟨by rw [List.length_set]; exact hrep.1, fun q c v hc hv => ?_⟩
          rw [List.getElem?_set] at hc
          by_cases hq : j = q
          · subst hq
            rw [if_pos rfl] at hc
            split at hc
            · cases hc
              rw [List.getElem?_eq_getElem hjl] at hv
              cases hv
              exact .own (by rw [hK]; exact hr) hτ
            · cases hc
          · rw [if_neg hq] at hc
            exact (hrep.2 q c v hc hv).mono hle
        · intro x hx
          have hx' : x = .agg (cs.set j (.own sz xs (.tok t))) := by simpa using hx
          subst hx'
          have := hok.size (.agg cs) (by rw [hel]; simp)
          simpa [PV.cells] using this
      · rw [if_neg hki] at hko'
        exact hw'.obj k o' hko'
    · intro k hko
      have hko' : lk none (ins s.ob i (some { o with elems := [.agg (cs.set j (.own sz xs (.tok t)))] })) k = none := hko
      rw [lk_ins] at hko'
      split at hko'
      · cases hko'
      · exact hw'.nob k hko'

theorem frz_def (tm ob tk) (id sz : Nat) (ds : List D) : SL.frz ⟨tm, ob, tk⟩ id sz ds = ⟨frzTm id sz ds tm, frzOb id sz ds ob, tk⟩ := rfl
theorem ren_def (tm ob tk) (t t' : Nat) (e : TypeId) (size : Nat) : SL.ren ⟨tm, ob, tk⟩ t t' e size = ⟨renTm t t' tm, renOb t t' ob, ins (ins tk t .dead) t' (.live e size)⟩ := rfl
theorem flat_nil : flat [] = [] := rfl
theorem flat_cons (x : PV) (l : List PV) : flat (x :: l) = x.cells ++ flat l := by simp [flat]
attribute [go_sem] List.length_map List.length_append List.map_append List.length_take List.length_drop List.length_set
attribute [go_sem] dstsOk List.getElem?_toArray List.toList_toArray Value.oneCell'
attribute [go_sem] frz_def ren_def flat_nil flat_cons frzTm frzOb OB.frz PV.frz PV.frz.frzL renTm renOb OB.ren PV.ren PV.ren.renL

/-- The freezing, written out. -/
theorem Run.freeze {P : Program} {E : Env} {fn : Func} {f : FuncId} {r : List D} {k : List Item} {s s' : SL} (id : Nat) {o : OB} {ds : List D} (ho : lk none s.ob id = some o) (hds : PV.toD.toDs (flat o.elems) = some ds) (hs : s.frz id o.sz ds = s')
    (h : Run P E fn f r k s'.of) : Run P E fn f r k s.of := Run.le (SLe.freeze id ho hds) (hs ▸ h)
theorem Run.ren {P : Program} {E : Env} {fn : Func} {f : FuncId} {r : List D} {k : List Item} {s s' : SL} (t t' : Nat) {e : TypeId} {size : Nat} (ht : lk .never s.tk t = .live e size) (ht' : lk .never s.tk t' = .never) (hs : s.ren t t' e size = s')
    (h : Run P E fn f r k s'.of) : Run P E fn f r k s.of := Run.le (SLe.ren t t' ht ht') (hs ▸ h)
theorem Run.full {P : Program} {E : Env} {fn : Func} {f : FuncId} {r : List D} {k : List Item} {s s' : SL} (i t : Nat) {sz : Nat} {xs : List D} (e : TypeId) (size : Nat) (hi : lk .any s.tm i = .own sz xs .full) (ht : lk .never s.tk t = .never)
    (hs : (⟨ins s.tm i (.own sz xs (.tok t)), s.ob, ins s.tk t (.live e size)⟩ : SL) = s') (h : Run P E fn f r k s'.of) : Run P E fn f r k s.of := Run.le (SLe.full i t e size hi ht) (hs ▸ h)
theorem Run.fullOb {P : Program} {E : Env} {fn : Func} {f : FuncId} {r : List D} {k : List Item} {s s' : SL} (i j t : Nat) {o : OB} {cs : List PV} {sz : Nat} {xs : List D} (e : TypeId) (size : Nat) (ho : lk none s.ob i = some o) (hel : o.elems = [.agg cs])
    (hj : cs[j]? = some (.own sz xs .full)) (ht : lk .never s.tk t = .never) (hs : (⟨s.tm, ins s.ob i (some { o with elems := [.agg (cs.set j (.own sz xs (.tok t)))] }), ins s.tk t (.live e size)⟩ : SL) = s')
    (h : Run P E fn f r k s'.of) : Run P E fn f r k s.of := Run.le (SLe.fullOb i j t e size ho hel hj ht) (hs ▸ h)
theorem Run.forget {P : Program} {E : Env} {fn : Func} {f : FuncId} {r : List D} {k : List Item} {s s' : SL} (h : Run P E fn f r k s'.of) (htm : leTm s'.ob s'.tk s.tm s'.tm) (hob : leOb s'.ob s'.tk s.ob s'.ob) (htk : leTk s.tk s'.tk) :
    Run P E fn f r k s.of := Run.le (SLe.forget htm hob htk) h

/-- A loop: H i is what is said at the head of a round; from a round's end to the next head less is said, and the measure goes down. -/
theorem Run.loop {P : Program} {E : Env} {fn : Func} {f : FuncId} {r : List D} {k : List Item} {s : SL} {c : Code} {ι : Type} (H : ι → SL) (μ : ι → Nat) (i0 : ι)
    (htm : leTm (H i0).ob (H i0).tk s.tm (H i0).tm) (hob : leOb (H i0).ob (H i0).tk s.ob (H i0).ob) (htk : leTk s.tk (H i0).tk)
    (round : ∀ i, (∀ (j : ι) (s' : SL), leTm (H j).ob (H j).tk s'.tm (H j).tm → leOb (H j).ob (H j).tk s'.ob (H j).ob → leTk s'.tk (H j).tk → μ j < μ i → Run P E fn f r (.inLoop c :: k) s'.of) → Run P E fn f r (.code c :: .inLoop c :: k) (H i).of) :
    Run P E fn f r (.code (.loop c) :: k) s.of :=
  Run.forget (run_rounds (fun i => (H i).of) μ (fun i ih => round i fun j s' h1 h2 h3 h4 => Run.forget (ih j h4) h1 h2 h3) i0) htm hob htk

attribute [go_sem] beq_self_eq_true and_self and_true true_and or_true true_or false_and and_false or_false false_or if_true if_false Bool.false_eq_true Int.toNat_natCast Nat.add_zero Nat.zero_add Nat.sub_zero Int.toNat_zero List.length_cons List.length_nil List.length_replicate

end Go.PS

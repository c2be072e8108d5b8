/-
  A pure layer over the walk: data without memory, states without addresses, and what they stand for in a world.
-/
import Derived.Calls
import Derived.Orders
import Derived.Still
import Derived.Below
import Derived.Maps.AppendAt
import Derived.Laws.OwnMore
import Derived.KernelRfl
import Derived.ArgAppend
namespace Go.PS
open Go Go.RowKit

/-- Data: what a value is, apart from where it lies. Cells of a struct are laid flat. -/
inductive D where
  | bool (b : Bool)
  | int (k : IntKind) (n : Int)
  | str (l : List UInt8)
  | sl (sz : Nat) (xs : List D)
  | agg (cs : List D)
  | tup (vs : List D)
  | ref (cs : List D)
  | fn (f : Fn) (first caps : List D)
  | nilp
  | nilf
  | nili
  | nilm
  | map (kvs : List D)
  deriving Inhabited

def D.cells : D → List D
  | .agg cs => cs
  | x => [x]

/-- It fills one cell. -/
def D.cell : D → Bool
  | .agg _ | .tup _ => false
  | _ => true

/-- The spare room of a slice: none (its capacity is its length), or that of a token. -/
inductive Tok where
  | full
  | tok (n : Nat)
  deriving Inhabited, DecidableEq

/-- Values of a walk: data, slices whose spare room is the walk's own, structs, addresses of the walk's own objects. -/
inductive PV where
  | d (x : D)
  | own (sz : Nat) (xs : List D) (t : Tok)
  | agg (cs : List PV)
  | tup (vs : List PV)
  | hp (id i off : Nat)
  | hrow (id sz lo len cap : Nat)
  | hmap (id : Nat)
  | fn (f : Fn) (first caps : List PV)
  | any
  deriving Inhabited

def PV.cells : PV → List PV
  | .agg cs => cs
  | x => [x]

def PV.cell : PV → Bool
  | .d x => x.cell
  | .agg _ | .tup _ | .any => false
  | _ => true

/-- Data as a value of the walk. -/
def PV.ofD : D → PV
  | .agg cs => .agg (cs.map .d)
  | .tup vs => .tup (vs.map PV.ofD1)
  | .fn f a b => .fn f (a.map .d) (b.map .d)
  | x => .d x
where
  PV.ofD1 : D → PV
  | .agg cs => .agg (cs.map .d)
  | x => .d x

/-- An object of the walk's own: elements of one size, laid one behind the other. -/
structure OB where
  ty : TypeId
  sz : Nat
  elems : List PV
  deriving Inhabited

inductive TS where
  | never
  | dead
  | live (e : TypeId) (size : Nat)
  deriving Inhabited

structure St where
  tm : Nat → PV
  ob : Nat → Option OB
  tk : Nat → TS

def upd {α : Type} (f : Nat → α) (i : Nat) (v : α) : Nat → α := fun j => bif Nat.beq j i then v else f j

theorem upd_same {α : Type} (f : Nat → α) (i : Nat) (v : α) : upd f i v i = v := by simp [upd]
theorem upd_other {α : Type} (f : Nat → α) (i j : Nat) (v : α) (h : j ≠ i) : upd f i v j = f j := by
  have : Nat.beq j i = false := by rw [Bool.eq_false_iff]; intro e; exact h (Nat.eq_of_beq_eq_true e)
  simp [upd, this]

structure Gh where
  K : Nat → Nat → Option Value
  m : Nat → Option (Nat × Nat)
  τ : Nat → Option Value

/-! ### What data stand for -/

inductive RepD (K : Nat → Nat → Option Value) : D → Value → Prop
  | bool (b) : RepD K (.bool b) (.bool b)
  | int (k n) : RepD K (.int k n) (.int k n)
  | str (l) : RepD K (.str l) (.string ⟨l.toArray⟩)
  | sl (sz xs) (a : Option Addr) (c b o : Nat) (f : Nat → Nat → Value) (hc : xs.length ≤ c) (ha : xs ≠ [] → a = some ⟨b, o, none⟩)
      (hs : ∀ (i : Nat) (x : D), xs[i]? = some x → x.cells.length = sz)
      (hk : ∀ (i j : Nat) (x d : D), xs[i]? = some x → x.cells[j]? = some d → K b (o + i * sz + j) = some (f i j))
      (h1 : ∀ (i j : Nat) (x d : D), xs[i]? = some x → x.cells[j]? = some d → (f i j).oneCell' = true)
      (hr : ∀ (i j : Nat) (x d : D), xs[i]? = some x → x.cells[j]? = some d → RepD K d (f i j)) : RepD K (.sl sz xs) (.slice a xs.length c)
  | agg (cs) (vs : List Value) (hl : cs.length = vs.length) (h1 : ∀ v ∈ vs, v.oneCell' = true)
      (hr : ∀ (i : Nat) (d : D) (v : Value), cs[i]? = some d → vs[i]? = some v → RepD K d v) : RepD K (.agg cs) (.agg vs.toArray)
  | tup (cs) (vs : List Value) (hl : cs.length = vs.length)
      (hr : ∀ (i : Nat) (d : D) (v : Value), cs[i]? = some d → vs[i]? = some v → RepD K d v) : RepD K (.tup cs) (.tuple vs.toArray)
  | ref (cs) (b o : Nat) (f : Nat → Value)
      (hk : ∀ (j : Nat) (d : D), cs[j]? = some d → K b (o + j) = some (f j))
      (h1 : ∀ (j : Nat) (d : D), cs[j]? = some d → (f j).oneCell' = true)
      (hr : ∀ (j : Nat) (d : D), cs[j]? = some d → RepD K d (f j)) : RepD K (.ref cs) (.pointer (some ⟨b, o, none⟩))
  | fn (f first caps) (vf vc : List Value) (hlf : first.length = vf.length) (hlc : caps.length = vc.length)
      (hf : ∀ (i : Nat) (d : D) (v : Value), first[i]? = some d → vf[i]? = some v → RepD K d v)
      (hc : ∀ (i : Nat) (d : D) (v : Value), caps[i]? = some d → vc[i]? = some v → RepD K d v) : RepD K (.fn f first caps) (.func f vf.toArray vc.toArray)
  | nilp : RepD K .nilp (.pointer none)
  | nilf : RepD K .nilf .nilFunc
  | nili : RepD K .nili .nilIface
  | nilm : RepD K .nilm (.map none)
  | map (kvs) (b : Nat) (vs : List Value) (hk : K b 0 = some (.tuple vs.toArray)) (hl : kvs.length = vs.length)
      (hr : ∀ (i : Nat) (d : D) (v : Value), kvs[i]? = some d → vs[i]? = some v → RepD K d v) : RepD K (.map kvs) (.map (some b))

def KLe (K K' : Nat → Nat → Option Value) : Prop := ∀ b o v, K b o = some v → K' b o = some v
theorem KLe.refl (K) : KLe K K := fun _ _ _ h => h
theorem KLe.trans {K K' K''} (h : KLe K K') (h' : KLe K' K'') : KLe K K'' := fun _ _ _ hv => h' _ _ _ (h _ _ _ hv)

theorem RepD.mono {K K'} (hk : KLe K K') {x : D} {v : Value} (h : RepD K x v) : RepD K' x v := by
  induction h with
  | bool b => exact .bool b
  | int k n => exact .int k n
  | str l => exact .str l
  | sl sz xs a c b o f hc ha hs hkk h1 hr ih => exact .sl sz xs a c b o f hc ha hs (fun i j x d hx hd => hk _ _ _ (hkk i j x d hx hd)) h1 ih
  | agg cs vs hl h1 hr ih => exact .agg cs vs hl h1 ih
  | tup cs vs hl hr ih => exact .tup cs vs hl ih
  | ref cs b o f hkk h1 hr ih => exact .ref cs b o f (fun j d hd => hk _ _ _ (hkk j d hd)) h1 ih
  | fn f first caps vf vc hlf hlc hf hc ihf ihc => exact .fn f first caps vf vc hlf hlc ihf ihc
  | nilp => exact .nilp
  | nilf => exact .nilf
  | nili => exact .nili
  | nilm => exact .nilm
  | map kvs b vs hkk hl hr ih => exact .map kvs b vs (hk _ _ _ hkk) hl ih

theorem RepD.oneCell {K} {x : D} {v : Value} (h : RepD K x v) (hx : x.cell = true) : v.oneCell' = true := by
  cases h <;> first | rfl | (simp [D.cell] at hx)

def TokRep (γ : Gh) : Tok → Value → Prop
  | .full, v => v = .slice none 0 0 ∨ ∃ a n, v = .slice (some a) n n
  | .tok t, v => γ.τ t = some v

inductive Rep (γ : Gh) : PV → Value → Prop
  | d {x v} (h : RepD γ.K x v) : Rep γ (.d x) v
  | own {sz xs t v} (h : RepD γ.K (.sl sz xs) v) (ht : TokRep γ t v) : Rep γ (.own sz xs t) v
  | agg (cs) (vs : List Value) (hl : cs.length = vs.length) (h1 : ∀ v ∈ vs, v.oneCell' = true)
      (hr : ∀ (i : Nat) (c : PV) (v : Value), cs[i]? = some c → vs[i]? = some v → Rep γ c v) : Rep γ (.agg cs) (.agg vs.toArray)
  | tup (cs) (vs : List Value) (hl : cs.length = vs.length)
      (hr : ∀ (i : Nat) (c : PV) (v : Value), cs[i]? = some c → vs[i]? = some v → Rep γ c v) : Rep γ (.tup cs) (.tuple vs.toArray)
  | hp {id i off blk sz} (h : γ.m id = some (blk, sz)) : Rep γ (.hp id i off) (.pointer (some ⟨blk, i * sz + off, none⟩))
  | hrow {id sz lo len cap c blk} (h : γ.m id = some (blk, sz)) (hc : cap ≤ c) (hl : len ≤ c) : Rep γ (.hrow id sz lo len cap) (.slice (some ⟨blk, lo * sz, none⟩) len c)
  | hmap {id blk sz} (h : γ.m id = some (blk, sz)) : Rep γ (.hmap id) (.map (some blk))
  | fn (f first caps) (vf vc : List Value) (hlf : first.length = vf.length) (hlc : caps.length = vc.length)
      (hf : ∀ (i : Nat) (c : PV) (v : Value), first[i]? = some c → vf[i]? = some v → Rep γ c v)
      (hc : ∀ (i : Nat) (c : PV) (v : Value), caps[i]? = some c → vc[i]? = some v → Rep γ c v) : Rep γ (.fn f first caps) (.func f vf.toArray vc.toArray)
  | any (v) : Rep γ .any v

structure GhLe (γ γ' : Gh) : Prop where
  K : KLe γ.K γ'.K
  m : ∀ i x, γ.m i = some x → γ'.m i = some x
  τ : ∀ i x, γ.τ i = some x → γ'.τ i = some x

theorem GhLe.refl (γ) : GhLe γ γ := ⟨KLe.refl _, fun _ _ h => h, fun _ _ h => h⟩
theorem GhLe.trans {a b c : Gh} (h : GhLe a b) (h' : GhLe b c) : GhLe a c := ⟨h.K.trans h'.K, fun i x hx => h'.m i x (h.m i x hx), fun i x hx => h'.τ i x (h.τ i x hx)⟩

theorem TokRep.mono {γ γ' : Gh} (h : GhLe γ γ') {t : Tok} {v : Value} (ht : TokRep γ t v) : TokRep γ' t v := by
  cases t with
  | full => exact ht
  | tok n => exact h.τ _ _ ht

theorem Rep.mono {γ γ' : Gh} (hg : GhLe γ γ') {x : PV} {v : Value} (h : Rep γ x v) : Rep γ' x v := by
  induction h with
  | d h => exact .d (h.mono hg.K)
  | own h ht => exact .own (h.mono hg.K) (ht.mono hg)
  | agg cs vs hl h1 hr ih => exact .agg cs vs hl h1 ih
  | tup cs vs hl hr ih => exact .tup cs vs hl ih
  | hp h => exact .hp (hg.m _ _ h)
  | hrow h hc hl => exact .hrow (hg.m _ _ h) hc hl
  | hmap h => exact .hmap (hg.m _ _ h)
  | fn f first caps vf vc hlf hlc hf hc ihf ihc => exact .fn f first caps vf vc hlf hlc ihf ihc
  | any v => exact .any v

theorem Rep.oneCell {γ} {x : PV} {v : Value} (h : Rep γ x v) (hx : x.cell = true) : v.oneCell' = true := by
  cases h with
  | d h => exact h.oneCell hx
  | own h ht => exact h.oneCell rfl
  | _ => first | rfl | (simp [PV.cell] at hx)

/-- Lists of values, one by one. -/
def RepL (γ : Gh) (cs : List PV) (vs : List Value) : Prop := cs.length = vs.length ∧ ∀ (i : Nat) (c : PV) (v : Value), cs[i]? = some c → vs[i]? = some v → Rep γ c v
def RepDL (K : Nat → Nat → Option Value) (cs : List D) (vs : List Value) : Prop := cs.length = vs.length ∧ ∀ (i : Nat) (c : D) (v : Value), cs[i]? = some c → vs[i]? = some v → RepD K c v

theorem RepL.mono {γ γ' : Gh} (hg : GhLe γ γ') {cs vs} (h : RepL γ cs vs) : RepL γ' cs vs := ⟨h.1, fun i c v hc hv => (h.2 i c v hc hv).mono hg⟩
theorem RepDL.mono {K K'} (hg : KLe K K') {cs vs} (h : RepDL K cs vs) : RepDL K' cs vs := ⟨h.1, fun i c v hc hv => (h.2 i c v hc hv).mono hg⟩
theorem RepL.nil {γ : Gh} : RepL γ [] [] := ⟨rfl, fun i c v h => by simp at h⟩
theorem RepL.cons {γ : Gh} {c : PV} {v : Value} {cs vs} (h : Rep γ c v) (hs : RepL γ cs vs) : RepL γ (c :: cs) (v :: vs) :=
  ⟨by simp [hs.1], fun i c' v' hc hv => by cases i with
    | zero => simp at hc hv; subst hc; subst hv; exact h
    | succ i => simp at hc hv; exact hs.2 i c' v' hc hv⟩
theorem RepL.cons_inv {γ : Gh} {c : PV} {cs : List PV} {vs : List Value} (h : RepL γ (c :: cs) vs) : ∃ v vs', vs = v :: vs' ∧ Rep γ c v ∧ RepL γ cs vs' := by
  cases vs with
  | nil => have := h.1; simp at this
  | cons v vs => exact ⟨v, vs, rfl, h.2 0 c v rfl rfl, by have := h.1; simpa using this, fun i c' v' hc hv => h.2 (i + 1) c' v' (by simpa using hc) (by simpa using hv)⟩
theorem RepDL.nil {K} : RepDL K [] [] := ⟨rfl, fun i c v h => by simp at h⟩
theorem RepDL.cons {K} {c : D} {v : Value} {cs vs} (h : RepD K c v) (hs : RepDL K cs vs) : RepDL K (c :: cs) (v :: vs) :=
  ⟨by simp [hs.1], fun i c' v' hc hv => by cases i with
    | zero => simp at hc hv; subst hc; subst hv; exact h
    | succ i => simp at hc hv; exact hs.2 i c' v' hc hv⟩
theorem RepDL.cons_inv {K} {c : D} {cs : List D} {vs : List Value} (h : RepDL K (c :: cs) vs) : ∃ v vs', vs = v :: vs' ∧ RepD K c v ∧ RepDL K cs vs' := by
  cases vs with
  | nil => have := h.1; simp at this
  | cons v vs => exact ⟨v, vs, rfl, h.2 0 c v rfl rfl, by have := h.1; simpa using this, fun i c' v' hc hv => h.2 (i + 1) c' v' (by simpa using hc) (by simpa using hv)⟩
theorem RepL.append {γ : Gh} {as bs us vs} (ha : RepL γ as us) (hb : RepL γ bs vs) : RepL γ (as ++ bs) (us ++ vs) :=
  ⟨by simp [ha.1, hb.1], fun i c v hc hv => by
    by_cases hi : i < as.length
    · rw [List.getElem?_append_left hi] at hc
      rw [List.getElem?_append_left (by rw [← ha.1]; exact hi)] at hv
      exact ha.2 i c v hc hv
    · rw [List.getElem?_append_right (by omega)] at hc
      rw [List.getElem?_append_right (by rw [← ha.1]; omega), ← ha.1] at hv
      exact hb.2 _ c v hc hv⟩

theorem RepDL.toRep {γ : Gh} {cs vs} (h : RepDL γ.K cs vs) : RepL γ (cs.map .d) vs :=
  ⟨by simp [h.1], fun i c v hc hv => by
    simp only [List.getElem?_map, Option.map_eq_some_iff] at hc
    obtain ⟨x, hx, rfl⟩ := hc
    exact .d (h.2 i x v hx hv)⟩

theorem Rep.agg_iff {γ : Gh} {cs : List PV} {v : Value} : Rep γ (.agg cs) v ↔ ∃ vs : List Value, v = .agg vs.toArray ∧ RepL γ cs vs ∧ ∀ u ∈ vs, u.oneCell' = true := by
  constructor
  · intro h
    cases h with
    | agg _ vs hl h1 hr => exact ⟨vs, rfl, ⟨hl, hr⟩, h1⟩
  · rintro ⟨vs, rfl, h, h1⟩
    exact .agg cs vs h.1 h1 h.2
theorem Rep.tup_iff {γ : Gh} {cs : List PV} {v : Value} : Rep γ (.tup cs) v ↔ ∃ vs : List Value, v = .tuple vs.toArray ∧ RepL γ cs vs := by
  constructor
  · intro h
    cases h with
    | tup _ vs hl hr => exact ⟨vs, rfl, hl, hr⟩
  · rintro ⟨vs, rfl, h⟩
    exact .tup cs vs h.1 h.2
theorem RepD.agg_iff {K} {cs : List D} {v : Value} : RepD K (.agg cs) v ↔ ∃ vs : List Value, v = .agg vs.toArray ∧ RepDL K cs vs ∧ ∀ u ∈ vs, u.oneCell' = true := by
  constructor
  · intro h
    cases h with
    | agg _ vs hl h1 hr => exact ⟨vs, rfl, ⟨hl, hr⟩, h1⟩
  · rintro ⟨vs, rfl, h, h1⟩
    exact .agg cs vs h.1 h1 h.2
theorem RepD.tup_iff {K} {cs : List D} {v : Value} : RepD K (.tup cs) v ↔ ∃ vs : List Value, v = .tuple vs.toArray ∧ RepDL K cs vs := by
  constructor
  · intro h
    cases h with
    | tup _ vs hl hr => exact ⟨vs, rfl, hl, hr⟩
  · rintro ⟨vs, rfl, h⟩
    exact .tup cs vs h.1 h.2

theorem Rep.undef {γ : Gh} : Rep γ (.tup []) Go.undef := Rep.tup_iff.2 ⟨[], rfl, .nil⟩

theorem rep_ofD1 {γ : Gh} {x : D} {v : Value} (h : RepD γ.K x v) : Rep γ (PV.ofD.PV.ofD1 x) v := by
  cases x with
  | agg cs =>
    obtain ⟨vs, rfl, hl, h1⟩ := RepD.agg_iff.1 h
    exact Rep.agg_iff.2 ⟨vs, rfl, hl.toRep, h1⟩
  | _ => exact .d h

theorem Rep.ofD {γ : Gh} {x : D} {v : Value} (h : RepD γ.K x v) : Rep γ (PV.ofD x) v := by
  cases x with
  | agg cs =>
    obtain ⟨vs, rfl, hl, h1⟩ := RepD.agg_iff.1 h
    exact Rep.agg_iff.2 ⟨vs, rfl, hl.toRep, h1⟩
  | tup cs =>
    obtain ⟨vs, rfl, hl⟩ := RepD.tup_iff.1 h
    refine Rep.tup_iff.2 ⟨vs, rfl, by simp [hl.1], fun i c v hc hv => ?_⟩
    simp only [List.getElem?_map, Option.map_eq_some_iff] at hc
    obtain ⟨x, hx, rfl⟩ := hc
    exact rep_ofD1 (hl.2 i x v hx hv)
  | fn f a b =>
    cases h with
    | fn _ _ _ vf vc hlf hlc hf hc =>
      have h1 := RepDL.toRep (γ := γ) ⟨hlf, hf⟩
      have h2 := RepDL.toRep (γ := γ) ⟨hlc, hc⟩
      exact .fn f _ _ vf vc h1.1 h2.1 h1.2 h2.2
  | _ => exact .d h

/-- The cells of a value of the walk. -/
theorem Rep.cells {γ : Gh} {x : PV} {v : Value} (h : Rep γ x v) (hx : (x.cells.all PV.cell) = true) : RepL γ x.cells v.cells.toList ∧ ∀ u ∈ v.cells.toList, u.oneCell' = true := by
  cases x with
  | agg cs =>
    obtain ⟨vs, rfl, hl, h1⟩ := Rep.agg_iff.1 h
    simpa [PV.cells, Value.cells] using ⟨hl, h1⟩
  | _ =>
    simp only [PV.cells, List.all_cons, List.all_nil, Bool.and_true] at hx
    have h1 := h.oneCell hx
    have hv : v.cells = #[v] := by cases v <;> first | rfl | (simp [Value.oneCell'] at h1)
    rw [hv]
    exact ⟨RepL.cons h .nil, by simpa using h1⟩

/-- From a value of the walk to data: what it reads as. -/
def PV.toD : PV → Option D
  | .d x => some x
  | .own sz xs _ => some (.sl sz xs)
  | .agg cs => (toDs cs).map .agg
  | .tup cs => (toDs cs).map .tup
  | .fn f first caps => match toDs first, toDs caps with
    | some a, some b => some (.fn f a b)
    | _, _ => none
  | _ => none
where
  toDs : List PV → Option (List D)
  | [] => some []
  | c :: cs => match c.toD, toDs cs with
    | some x, some xs => some (x :: xs)
    | _, _ => none

mutual
theorem Rep.toD {γ : Gh} : ∀ {x : PV} {v : Value} {d : D}, Rep γ x v → x.toD = some d → RepD γ.K d v
  | .d x, v, d, h, hd => by
    simp only [PV.toD, Option.some.injEq] at hd
    subst hd
    cases h with | d h => exact h
  | .own sz xs t, v, d, h, hd => by
    simp only [PV.toD, Option.some.injEq] at hd
    subst hd
    cases h with | own h ht => exact h
  | .agg cs, v, d, h, hd => by
    simp only [PV.toD, Option.map_eq_some_iff] at hd
    obtain ⟨ds, hds, rfl⟩ := hd
    obtain ⟨vs, rfl, hl, h1⟩ := Rep.agg_iff.1 h
    exact RepD.agg_iff.2 ⟨vs, rfl, RepL.toDs hl hds, h1⟩
  | .tup cs, v, d, h, hd => by
    simp only [PV.toD, Option.map_eq_some_iff] at hd
    obtain ⟨ds, hds, rfl⟩ := hd
    obtain ⟨vs, rfl, hl⟩ := Rep.tup_iff.1 h
    exact RepD.tup_iff.2 ⟨vs, rfl, RepL.toDs hl hds⟩
  | .fn f first caps, v, d, h, hd => by
    simp only [PV.toD] at hd
    split at hd
    · rename_i a b ha hb
      simp only [Option.some.injEq] at hd
      subst hd
      cases h with
      | fn _ _ _ vf vc hlf hlc hf hc =>
        have h1 := RepL.toDs (γ := γ) ⟨hlf, hf⟩ ha
        have h2 := RepL.toDs (γ := γ) ⟨hlc, hc⟩ hb
        exact .fn f a b vf vc h1.1 h2.1 h1.2 h2.2
    · cases hd
  | .hp _ _ _, v, d, h, hd => by simp [PV.toD] at hd
  | .hrow _ _ _ _ _, v, d, h, hd => by simp [PV.toD] at hd
  | .hmap _, v, d, h, hd => by simp [PV.toD] at hd
  | .any, v, d, h, hd => by simp [PV.toD] at hd
theorem RepL.toDs {γ : Gh} : ∀ {cs : List PV} {vs : List Value} {ds : List D}, RepL γ cs vs → PV.toD.toDs cs = some ds → RepDL γ.K ds vs
  | [], vs, ds, h, hd => by
    simp only [PV.toD.toDs, Option.some.injEq] at hd
    subst hd
    have : vs = [] := List.eq_nil_of_length_eq_zero (by simpa using h.1.symm)
    subst this
    exact .nil
  | c :: cs, vs, ds, h, hd => by
    obtain ⟨v, vs', rfl, h1, h2⟩ := h.cons_inv
    simp only [PV.toD.toDs] at hd
    split at hd
    · rename_i x xs hx hxs
      simp only [Option.some.injEq] at hd
      subst hd
      exact .cons (Rep.toD h1 hx) (RepL.toDs h2 hxs)
    · cases hd
end

end Go.PS

/-
  A part of the walks of this seat: each theorem says what a function of the program gives. No condition beyond its own premises.
-/
import Derived.Calls
import Derived.Orders
import Derived.Still
import Derived.Below
import Derived.Maps.AppendAt
import Derived.Laws.OwnMore
import Derived.KernelRfl
import Derived.ArgAppend
namespace Go.PS
open Go Go.RowKit

/-- Data: what a value is, apart from where it lies. Cells of a struct are laid flat. -/
inductive D where
  | bool (b : Bool)
  | int (k : IntKind) (n : Int)
  | str (l : List UInt8)
  | sl (sz : Nat) (xs : List D)
  | agg (cs : List D)
  | tup (vs : List D)
  | ref (cs : List D)
  | fn (f : Fn) (first caps : List D)
  | nilp
  | nilf
  | nili
  | nilm
  | map (kvs : List D)
  deriving Inhabited

def D.cells : D → List D
  | .agg cs => cs
  | x => [x]

/-- It fills one cell. -/
def D.cell : D → Bool
  | .agg _ | .tup _ => false
  | _ => true

/-- The spare room of a slice: none (its capacity is its length), or that of a token. -/
inductive Tok where
  | full
  | tok (n : Nat)
  deriving Inhabited, DecidableEq

/-- Values of a walk: data, slices whose spare room is the walk's own, structs, addresses of the walk's own objects. -/
inductive PV where
  | d (x : D)
  | own (sz : Nat) (xs : List D) (t : Tok)
  | agg (cs : List PV)
  | tup (vs : List PV)
  | hp (id i off : Nat)
  | hrow (id sz lo len cap : Nat)
  | hmap (id : Nat)
  | fn (f : Fn) (first caps : List PV)
  | any
  deriving Inhabited

def PV.cells : PV → List PV
  | .agg cs => cs
  | x => [x]

def PV.cell : PV → Bool
  | .d x => x.cell
  | .agg _ | .tup _ | .any => false
  | _ => true

/-- Data as a value of the walk. -/
def PV.ofD : D → PV
  | .agg cs => .agg (cs.map .d)
  | .tup vs => .tup (vs.map PV.ofD1)
  | .fn f a b => .fn f (a.map .d) (b.map .d)
  | x => .d x
where
  PV.ofD1 : D → PV
  | .agg cs => .agg (cs.map .d)
  | x => .d x

/-- An object of the walk's own: elements of one size, laid one behind the other. -/
structure OB where
  ty : TypeId
  sz : Nat
  elems : List PV
  deriving Inhabited

inductive TS where
  | never
  | dead
  | live (e : TypeId) (size : Nat)
  deriving Inhabited

structure St where
  tm : Nat → PV
  ob : Nat → Option OB
  tk : Nat → TS

def upd {α : Type} (f : Nat → α) (i : Nat) (v : α) : Nat → α := fun j => bif Nat.beq j i then v else f j

theorem upd_same {α : Type} (f : Nat → α) (i : Nat) (v : α) : upd f i v i = v := by simp [upd]
theorem upd_other {α : Type} (f : Nat → α) (i j : Nat) (v : α) (h : j ≠ i) : upd f i v j = f j := by
  have : Nat.beq j i = false := by rw [Bool.eq_false_iff]; intro e; exact h (Nat.eq_of_beq_eq_true e)
  simp [upd, this]

structure Gh where
  K : Nat → Nat → Option Value
  m : Nat → Option (Nat × Nat)
  τ : Nat → Option Value

/-! ### What data stand for -/

inductive RepD (K : Nat → Nat → Option Value) : D → Value → Prop
  | bool (b) : RepD K (.bool b) (.bool b)
  | int (k n) : RepD K (.int k n) (.int k n)
  | str (l) : RepD K (.str l) (.string ⟨l.toArray⟩)
  | sl (sz xs) (a : Option Addr) (c b o : Nat) (f : Nat → Nat → Value) (hc : xs.length ≤ c) (ha : xs ≠ [] → a = some ⟨b, o, none⟩)
      (hs : ∀ (i : Nat) (x : D), xs[i]? = some x → x.cells.length = sz)
      (hk : ∀ (i j : Nat) (x d : D), xs[i]? = some x → x.cells[j]? = some d → K b (o + i * sz + j) = some (f i j))
      (h1 : ∀ (i j : Nat) (x d : D), xs[i]? = some x → x.cells[j]? = some d → (f i j).oneCell' = true)
      (hr : ∀ (i j : Nat) (x d : D), xs[i]? = some x → x.cells[j]? = some d → RepD K d (f i j)) : RepD K (.sl sz xs) (.slice a xs.length c)
  | agg (cs) (vs : List Value) (hl : cs.length = vs.length) (h1 : ∀ v ∈ vs, v.oneCell' = true)
      (hr : ∀ (i : Nat) (d : D) (v : Value), cs[i]? = some d → vs[i]? = some v → RepD K d v) : RepD K (.agg cs) (.agg vs.toArray)
  | tup (cs) (vs : List Value) (hl : cs.length = vs.length)
      (hr : ∀ (i : Nat) (d : D) (v : Value), cs[i]? = some d → vs[i]? = some v → RepD K d v) : RepD K (.tup cs) (.tuple vs.toArray)
  | ref (cs) (b o : Nat) (f : Nat → Value)
      (hk : ∀ (j : Nat) (d : D), cs[j]? = some d → K b (o + j) = some (f j))
      (h1 : ∀ (j : Nat) (d : D), cs[j]? = some d → (f j).oneCell' = true)
      (hr : ∀ (j : Nat) (d : D), cs[j]? = some d → RepD K d (f j)) : RepD K (.ref cs) (.pointer (some ⟨b, o, none⟩))
  | fn (f first caps) (vf vc : List Value) (hlf : first.length = vf.length) (hlc : caps.length = vc.length)
      (hf : ∀ (i : Nat) (d : D) (v : Value), first[i]? = some d → vf[i]? = some v → RepD K d v)
      (hc : ∀ (i : Nat) (d : D) (v : Value), caps[i]? = some d → vc[i]? = some v → RepD K d v) : RepD K (.fn f first caps) (.func f vf.toArray vc.toArray)
  | nilp : RepD K .nilp (.pointer none)
  | nilf : RepD K .nilf .nilFunc
  | nili : RepD K .nili .nilIface
  | nilm : RepD K .nilm (.map none)
  | map (kvs) (b : Nat) (vs : List Value) (hk : K b 0 = some (.tuple vs.toArray)) (hl : kvs.length = vs.length)
      (hr : ∀ (i : Nat) (d : D) (v : Value), kvs[i]? = some d → vs[i]? = some v → RepD K d v) : RepD K (.map kvs) (.map (some b))

def KLe (K K' : Nat → Nat → Option Value) : Prop := ∀ b o v, K b o = some v → K' b o = some v
theorem KLe.refl (K) : KLe K K := fun _ _ _ h => h
theorem KLe.trans {K K' K''} (h : KLe K K') (h' : KLe K' K'') : KLe K K'' := fun _ _ _ hv => h' _ _ _ (h _ _ _ hv)

theorem RepD.mono {K K'} (hk : KLe K K') {x : D} {v : Value} (h : RepD K x v) : RepD K' x v := by
  induction h with
  | bool b => exact .bool b
  | int k n => exact .int k n
  | str l => exact .str l
  | sl sz xs a c b o f hc ha hs hkk h1 hr ih => exact .sl sz xs a c b o f hc ha hs (fun i j x d hx hd => hk _ _ _ (hkk i j x d hx hd)) h1 ih
  | agg cs vs hl h1 hr ih => exact .agg cs vs hl h1 ih
  | tup cs vs hl hr ih => exact .tup cs vs hl ih
  | ref cs b o f hkk h1 hr ih => exact .ref cs b o f (fun j d hd => hk _ _ _ (hkk j d hd)) h1 ih
  | fn f first caps vf vc hlf hlc hf hc ihf ihc => exact .fn f first caps vf vc hlf hlc ihf ihc
  | nilp => exact .nilp
  | nilf => exact .nilf
  | nili => exact .nili
  | nilm => exact .nilm
  | map kvs b vs hkk hl hr ih => exact .map kvs b vs (hk _ _ _ hkk) hl ih

theorem RepD.oneCell {K} {x : D} {v : Value} (h : RepD K x v) (hx : x.cell = true) : v.oneCell' = true := by
  cases h <;> first | rfl | (simp [D.cell] at hx)

def TokRep (γ : Gh) : Tok → Value → Prop
  | .full, v => v = .slice none 0 0 ∨ ∃ a n, v = .slice (some a) n n
  | .tok t, v => γ.τ t = some v

inductive Rep (γ : Gh) : PV → Value → Prop
  | d {x v} (h : RepD γ.K x v) : Rep γ (.d x) v
  | own {sz xs t v} (h : RepD γ.K (.sl sz xs) v) (ht : TokRep γ t v) : Rep γ (.own sz xs t) v
  | agg (cs) (vs : List Value) (hl : cs.length = vs.length) (h1 : ∀ v ∈ vs, v.oneCell' = true)
      (hr : ∀ (i : Nat) (c : PV) (v : Value), cs[i]? = some c → vs[i]? = some v → Rep γ c v) : Rep γ (.agg cs) (.agg vs.toArray)
  | tup (cs) (vs : List Value) (hl : cs.length = vs.length)
      (hr : ∀ (i : Nat) (c : PV) (v : Value), cs[i]? = some c → vs[i]? = some v → Rep γ c v) : Rep γ (.tup cs) (.tuple vs.toArray)
  | hp {id i off blk sz} (h : γ.m id = some (blk, sz)) : Rep γ (.hp id i off) (.pointer (some ⟨blk, i * sz + off, none⟩))
  | hrow {id sz lo len cap c blk} (h : γ.m id = some (blk, sz)) (hc : cap ≤ c) (hl : len ≤ c) : Rep γ (.hrow id sz lo len cap) (.slice (some ⟨blk, lo * sz, none⟩) len c)
  | hmap {id blk sz} (h : γ.m id = some (blk, sz)) : Rep γ (.hmap id) (.map (some blk))
  | fn (f first caps) (vf vc : List Value) (hlf : first.length = vf.length) (hlc : caps.length = vc.length)
      (hf : ∀ (i : Nat) (c : PV) (v : Value), first[i]? = some c → vf[i]? = some v → Rep γ c v)
      (hc : ∀ (i : Nat) (c : PV) (v : Value), caps[i]? = some c → vc[i]? = some v → Rep γ c v) : Rep γ (.fn f first caps) (.func f vf.toArray vc.toArray)
  | any (v) : Rep γ .any v

structure GhLe (γ γ' : Gh) : Prop where
  K : KLe γ.K γ'.K
  m : ∀ i x, γ.m i = some x → γ'.m i = some x
  τ : ∀ i x, γ.τ i = some x → γ'.τ i = some x

theorem GhLe.refl (γ) : GhLe γ γ := ⟨KLe.refl _, fun _ _ h => h, fun _ _ h => h⟩
theorem GhLe.trans {a b c : Gh} (h : GhLe a b) (h' : GhLe b c) : GhLe a c := ⟨h.K.trans h'.K, fun i x hx => h'.m i x (h.m i x hx), fun i x hx => h'.τ i x (h.τ i x hx)⟩

theorem TokRep.mono {γ γ' : Gh} (h : GhLe γ γ') {t : Tok} {v : Value} (ht : TokRep γ t v) : TokRep γ' t v := by
  cases t with
  | full => exact ht
  | tok n => exact h.τ _ _ ht

theorem Rep.mono {γ γ' : Gh} (hg : GhLe γ γ') {x : PV} {v : Value} (h : Rep γ x v) : Rep γ' x v := by
  induction h with
  | d h => exact .d (h.mono hg.K)
  | own h ht => exact .own (h.mono hg.K) (ht.mono hg)
  | agg cs vs hl h1 hr ih => exact .agg cs vs hl h1 ih
  | tup cs vs hl hr ih => exact .tup cs vs hl ih
  | hp h => exact .hp (hg.m _ _ h)
  | hrow h hc hl => exact .hrow (hg.m _ _ h) hc hl
  | hmap h => exact .hmap (hg.m _ _ h)
  | fn f first caps vf vc hlf hlc hf hc ihf ihc => exact .fn f first caps vf vc hlf hlc ihf ihc
  | any v => exact .any v

theorem Rep.oneCell {γ} {x : PV} {v : Value} (h : Rep γ x v) (hx : x.cell = true) : v.oneCell' = true := by
  cases h with
  | d h => exact h.oneCell hx
  | own h ht => exact h.oneCell rfl
  | _ => first | rfl | (simp [PV.cell] at hx)

/-- Lists of values, one by one. -/
def RepL (γ : Gh) (cs : List PV) (vs : List Value) : Prop := cs.length = vs.length ∧ ∀ (i : Nat) (c : PV) (v : Value), cs[i]? = some c → vs[i]? = some v → Rep γ c v
def RepDL (K : Nat → Nat → Option Value) (cs : List D) (vs : List Value) : Prop := cs.length = vs.length ∧ ∀ (i : Nat) (c : D) (v : Value), cs[i]? = some c → vs[i]? = some v → RepD K c v

theorem RepL.mono {γ γ' : Gh} (hg : GhLe γ γ') {cs vs} (h : RepL γ cs vs) : RepL γ' cs vs := ⟨h.1, fun i c v hc hv => (h.2 i c v hc hv).mono hg⟩
theorem RepDL.mono {K K'} (hg : KLe K K') {cs vs} (h : RepDL K cs vs) : RepDL K' cs vs := ⟨h.1, fun i c v hc hv => (h.2 i c v hc hv).mono hg⟩
theorem RepL.nil {γ : Gh} : RepL γ [] [] := ⟨rfl, fun i c v h => by simp at h⟩
theorem RepL.cons {γ : Gh} {c : PV} {v : Value} {cs vs} (h : Rep γ c v) (hs : RepL γ cs vs) : RepL γ (c :: cs) (v :: vs) :=
  ⟨by simp [hs.1], fun i c' v' hc hv => by cases i with
    | zero => simp at hc hv; subst hc; subst hv; exact h
    | succ i => simp at hc hv; exact hs.2 i c' v' hc hv⟩
theorem RepL.cons_inv {γ : Gh} {c : PV} {cs : List PV} {vs : List Value} (h : RepL γ (c :: cs) vs) : ∃ v vs', vs = v :: vs' ∧ Rep γ c v ∧ RepL γ cs vs' := by
  cases vs with
  | nil => have := h.1; simp at this
  | cons v vs => exact ⟨v, vs, rfl, h.2 0 c v rfl rfl, by have := h.1; simpa using this, fun i c' v' hc hv => h.2 (i + 1) c' v' (by simpa using hc) (by simpa using hv)⟩
theorem RepDL.nil {K} : RepDL K [] [] := ⟨rfl, fun i c v h => by simp at h⟩
theorem RepDL.cons {K} {c : D} {v : Value} {cs vs} (h : RepD K c v) (hs : RepDL K cs vs) : RepDL K (c :: cs) (v :: vs) :=
  ⟨by simp [hs.1], fun i c' v' hc hv => by cases i with
    | zero => simp at hc hv; subst hc; subst hv; exact h
    | succ i => simp at hc hv; exact hs.2 i c' v' hc hv⟩
theorem RepDL.cons_inv {K} {c : D} {cs : List D} {vs : List Value} (h : RepDL K (c :: cs) vs) : ∃ v vs', vs = v :: vs' ∧ RepD K c v ∧ RepDL K cs vs' := by
  cases vs with
  | nil => have := h.1; simp at this
  | cons v vs => exact ⟨v, vs, rfl, h.2 0 c v rfl rfl, by have := h.1; simpa using this, fun i c' v' hc hv => h.2 (i + 1) c' v' (by simpa using hc) (by simpa using hv)⟩
theorem RepL.append {γ : Gh} {as bs us vs} (ha : RepL γ as us) (hb : RepL γ bs vs) : RepL γ (as ++ bs) (us ++ vs) :=
  ⟨by simp [ha.1, hb.1], fun i c v hc hv => by
    by_cases hi : i < as.length
    · rw [List.getElem?_append_left hi] at hc
      rw [List.getElem?_append_left (by rw [← ha.1]; exact hi)] at hv
      exact ha.2 i c v hc hv
    · rw [List.getElem?_append_right (by omega)] at hc
      rw [List.getElem?_append_right (by rw [← ha.1]; omega), ← ha.1] at hv
      exact hb.2 _ c v hc hv⟩

theorem RepDL.toRep {γ : Gh} {cs vs} (h : RepDL γ.K cs vs) : RepL γ (cs.map .d) vs :=
  ⟨by simp [h.1], fun i c v hc hv => by
    simp only [List.getElem?_map, Option.map_eq_some_iff] at hc
    obtain ⟨x, hx, rfl⟩ := hc
    exact .d (h.2 i x v hx hv)⟩

theorem Rep.agg_iff {γ : Gh} {cs : List PV} {v : Value} : Rep γ (.agg cs) v ↔ ∃ vs : List Value, v = .agg vs.toArray ∧ RepL γ cs vs ∧ ∀ u ∈ vs, u.oneCell' = true := by
  constructor
  · intro h
    cases h with
    | agg _ vs hl h1 hr => exact ⟨vs, rfl, ⟨hl, hr⟩, h1⟩
  · rintro ⟨vs, rfl, h, h1⟩
    exact .agg cs vs h.1 h1 h.2
theorem Rep.tup_iff {γ : Gh} {cs : List PV} {v : Value} : Rep γ (.tup cs) v ↔ ∃ vs : List Value, v = .tuple vs.toArray ∧ RepL γ cs vs := by
  constructor
  · intro h
    cases h with
    | tup _ vs hl hr => exact ⟨vs, rfl, hl, hr⟩
  · rintro ⟨vs, rfl, h⟩
    exact .tup cs vs h.1 h.2
theorem RepD.agg_iff {K} {cs : List D} {v : Value} : RepD K (.agg cs) v ↔ ∃ vs : List Value, v = .agg vs.toArray ∧ RepDL K cs vs ∧ ∀ u ∈ vs, u.oneCell' = true := by
  constructor
  · intro h
    cases h with
    | agg _ vs hl h1 hr => exact ⟨vs, rfl, ⟨hl, hr⟩, h1⟩
  · rintro ⟨vs, rfl, h, h1⟩
    exact .agg cs vs h.1 h1 h.2
theorem RepD.tup_iff {K} {cs : List D} {v : Value} : RepD K (.tup cs) v ↔ ∃ vs : List Value, v = .tuple vs.toArray ∧ RepDL K cs vs := by
  constructor
  · intro h
    cases h with
    | tup _ vs hl hr => exact ⟨vs, rfl, hl, hr⟩
  · rintro ⟨vs, rfl, h⟩
    exact .tup cs vs h.1 h.2

theorem Rep.undef {γ : Gh} : Rep γ (.tup []) Go.undef := Rep.tup_iff.2 ⟨[], rfl, .nil⟩

theorem rep_ofD1 {γ : Gh} {x : D} {v : Value} (h : RepD γ.K x v) : Rep γ (PV.ofD.PV.ofD1 x) v := by
  cases x with
  | agg cs =>
    obtain ⟨vs, rfl, hl, h1⟩ := RepD.agg_iff.1 h
    exact Rep.agg_iff.2 ⟨vs, rfl, hl.toRep, h1⟩
  | _ => exact .d h

theorem Rep.ofD {γ : Gh} {x : D} {v : Value} (h : RepD γ.K x v) : Rep γ (PV.ofD x) v := by
  cases x with
  | agg cs =>
    obtain ⟨vs, rfl, hl, h1⟩ := RepD.agg_iff.1 h
    exact Rep.agg_iff.2 ⟨vs, rfl, hl.toRep, h1⟩
  | tup cs =>
    obtain ⟨vs, rfl, hl⟩ := RepD.tup_iff.1 h
    refine Rep.tup_iff.2 ⟨vs, rfl, by simp [hl.1], fun i c v hc hv => ?_⟩
    simp only [List.getElem?_map, Option.map_eq_some_iff] at hc
    obtain ⟨x, hx, rfl⟩ := hc
    exact rep_ofD1 (hl.2 i x v hx hv)
  | fn f a b =>
    cases h with
    | fn _ _ _ vf vc hlf hlc hf hc =>
      have h1 := RepDL.toRep (γ := γ) ⟨hlf, hf⟩
      have h2 := RepDL.toRep (γ := γ) ⟨hlc, hc⟩
      exact .fn f _ _ vf vc h1.1 h2.1 h1.2 h2.2
  | _ => exact .d h

/-- The cells of a value of the walk. -/
theorem Rep.cells {γ : Gh} {x : PV} {v : Value} (h : Rep γ x v) (hx : (x.cells.all PV.cell) = true) : RepL γ x.cells v.cells.toList ∧ ∀ u ∈ v.cells.toList, u.oneCell' = true := by
  cases x with
  | agg cs =>
    obtain ⟨vs, rfl, hl, h1⟩ := Rep.agg_iff.1 h
    simpa [PV.cells, Value.cells] using ⟨hl, h1⟩
  | _ =>
    simp only [PV.cells, List.all_cons, List.all_nil, Bool.and_true] at hx
    have h1 := h.oneCell hx
    have hv : v.cells = #[v] := by cases v <;> first | rfl | (simp [Value.oneCell'] at h1)
    rw [hv]
    exact ⟨RepL.cons h .nil, by simpa using h1⟩

/-- From a value of the walk to data: what it reads as. -/
def PV.toD : PV → Option D
  | .d x => some x
  | .own sz xs _ => some (.sl sz xs)
  | .agg cs => (toDs cs).map .agg
  | .tup cs => (toDs cs).map .tup
  | .fn f first caps => match toDs first, toDs caps with
    | some a, some b => some (.fn f a b)
    | _, _ => none
  | _ => none
where
  toDs : List PV → Option (List D)
  | [] => some []
  | c :: cs => match c.toD, toDs cs with
    | some x, some xs => some (x :: xs)
    | _, _ => none

mutual
theorem Rep.toD {γ : Gh} : ∀ {x : PV} {v : Value} {d : D}, Rep γ x v → x.toD = some d → RepD γ.K d v
  | .d x, v, d, h, hd => by
    simp only [PV.toD, Option.some.injEq] at hd
    subst hd
    cases h with | d h => exact h
  | .own sz xs t, v, d, h, hd => by
    simp only [PV.toD, Option.some.injEq] at hd
    subst hd
    cases h with | own h ht => exact h
  | .agg cs, v, d, h, hd => by
    simp only [PV.toD, Option.map_eq_some_iff] at hd
    obtain ⟨ds, hds, rfl⟩ := hd
    obtain ⟨vs, rfl, hl, h1⟩ := Rep.agg_iff.1 h
    exact RepD.agg_iff.2 ⟨vs, rfl, RepL.toDs hl hds, h1⟩
  | .tup cs, v, d, h, hd => by
    simp only [PV.toD, Option.map_eq_some_iff] at hd
    obtain ⟨ds, hds, rfl⟩ := hd
    obtain ⟨vs, rfl, hl⟩ := Rep.tup_iff.1 h
    exact RepD.tup_iff.2 ⟨vs, rfl, RepL.toDs hl hds⟩
  | .fn f first caps, v, d, h, hd => by
    simp only [PV.toD] at hd
    split at hd
    · rename_i a b ha hb
      simp only [Option.some.injEq] at hd
      subst hd
      cases h with
      | fn _ _ _ vf vc hlf hlc hf hc =>
        have h1 := RepL.toDs (γ := γ) ⟨hlf, hf⟩ ha
        have h2 := RepL.toDs (γ := γ) ⟨hlc, hc⟩ hb
        exact .fn f a b vf vc h1.1 h2.1 h1.2 h2.2
    · cases hd
  | .hp _ _ _, v, d, h, hd => by simp [PV.toD] at hd
  | .hrow _ _ _ _ _, v, d, h, hd => by simp [PV.toD] at hd
  | .hmap _, v, d, h, hd => by simp [PV.toD] at hd
  | .any, v, d, h, hd => by simp [PV.toD] at hd
theorem RepL.toDs {γ : Gh} : ∀ {cs : List PV} {vs : List Value} {ds : List D}, RepL γ cs vs → PV.toD.toDs cs = some ds → RepDL γ.K ds vs
  | [], vs, ds, h, hd => by
    simp only [PV.toD.toDs, Option.some.injEq] at hd
    subst hd
    have : vs = [] := List.eq_nil_of_length_eq_zero (by simpa using h.1.symm)
    subst this
    exact .nil
  | c :: cs, vs, ds, h, hd => by
    obtain ⟨v, vs', rfl, h1, h2⟩ := h.cons_inv
    simp only [PV.toD.toDs] at hd
    split at hd
    · rename_i x xs hx hxs
      simp only [Option.some.injEq] at hd
      subst hd
      exact .cons (Rep.toD h1 hx) (RepL.toDs h2 hxs)
    · cases hd
end

end Go.PS
namespace Go.PS
open Go Go.RowKit

inductive TK where
  | bool
  | int (k : IntKind)
  | str
  | slice (e : TypeId)
  | struct (fs : List (Nat × TypeId))
  | array (n : Nat) (e : TypeId)
  | ptr (e : TypeId)
  | func
  | map (k e : TypeId)
  | iface
  | other
  deriving Inhabited

structure TI where
  size : Nat
  bytes : Nat
  k : TK
  zero : Value
  eqs : Bool
  deriving Inhabited

def TK.of : TypeDesc → TK
  | .bool => .bool
  | .int k => .int k
  | .string => .str
  | .slice e => .slice e
  | .struct fs => .struct (fs.toList.map fun f => (f.offset, f.type))
  | .array n e => .array n e
  | .pointer e => .ptr e
  | .func _ _ _ => .func
  | .map k e => .map k e
  | .interface _ => .iface
  | _ => .other

def TK.agg : TK → Bool
  | .struct _ | .array _ _ => true
  | _ => false

def eqSimple (P : Program) (t : TypeId) : Bool :=
  match P.underlying t with
  | some (.struct fs) => !P.stoodInHeld t && fs.toList.all (fun f => f.name != "_") && !P.eqGuardType P.depth t
  | _ => false

def tabOf (P : Program) (t : TypeId) : Option TI :=
  match P.info? t, P.underlying t with
  | some i, some d => match i.zero with
    | some z => some ⟨i.size, i.bytes, TK.of d, z, eqSimple P t⟩
    | none => none
  | _, _ => none

def TabOk (P : Program) (T : Nat → Option TI) : Prop := ∀ t ti, T t = some ti → tabOf P t = some ti

theorem TabOk.facts {P : Program} {T : Nat → Option TI} (h : TabOk P T) {t : TypeId} {ti : TI} (ht : T t = some ti) :
    ∃ i d, P.info? t = some i ∧ P.underlying t = some d ∧ i.zero = some ti.zero ∧ i.size = ti.size ∧ i.bytes = ti.bytes ∧ TK.of d = ti.k ∧ ti.eqs = eqSimple P t := by
  have h1 := h t ti ht
  unfold tabOf at h1
  split at h1
  · rename_i i d hi hd
    split at h1
    · rename_i z hz
      simp only [Option.some.injEq] at h1
      subst h1
      exact ⟨i, d, hi, hd, hz, rfl, rfl, rfl, rfl⟩
    · cases h1
  · cases h1

def ofConst1 : Value → PV
  | .bool b => .d (.bool b)
  | .int k n => .d (.int k n)
  | .string s => .d (.str s.data.toList)
  | .slice none 0 0 => .own 0 [] .full
  | .pointer none => .d .nilp
  | .nilFunc => .d .nilf
  | .nilIface => .d .nili
  | .map none => .d .nilm
  | _ => .any

def ofConst : Value → PV
  | .agg cs => bif cs.toList.all Value.oneCell' then .agg (cs.toList.map ofConst1) else .any
  | .tuple cs => .tup (cs.toList.map ofConst1)
  | v => ofConst1 v

theorem rep_ofConst1 (γ : Gh) (v : Value) : Rep γ (ofConst1 v) v := by
  unfold ofConst1
  split
  · exact .d (.bool _)
  · exact .d (.int _ _)
  · rename_i s; exact .d (.str s.data.toList)
  · refine .own ?_ (.inl rfl)
    exact .sl 0 [] none 0 0 0 (fun _ _ => default) (Nat.le_refl _) (fun h => absurd rfl h) (fun i x h => by simp at h) (fun i j x d h => by simp at h) (fun i j x d h => by simp at h) (fun i j x d h => by simp at h)
  · exact .d .nilp
  · exact .d .nilf
  · exact .d .nili
  · exact .d .nilm
  · exact .any _

theorem repL_ofConst1 (γ : Gh) (l : List Value) : RepL γ (l.map ofConst1) l :=
  ⟨by simp, fun i c v hc hv => by
    simp only [List.getElem?_map, hv, Option.map_some, Option.some.injEq] at hc
    subst hc
    exact rep_ofConst1 γ v⟩

theorem rep_ofConst (γ : Gh) (v : Value) : Rep γ (ofConst v) v := by
  unfold ofConst
  split
  · rename_i cs
    cases h : cs.toList.all Value.oneCell' with
    | false => exact .any _
    | true => exact Rep.agg_iff.2 ⟨cs.toList, by simp, repL_ofConst1 γ _, List.all_eq_true.1 h⟩
  · rename_i cs
    exact Rep.tup_iff.2 ⟨cs.toList, by simp, repL_ofConst1 γ _⟩
  · exact rep_ofConst1 γ v

def St.look (st : St) : Operand → PV
  | .tmp t => st.tm t
  | .const v => ofConst v
  | .global _ => .any
  | .func f => .fn (.func f) [] []

inductive HEff where
  | none
  | obj (id : Nat) (o : OB)
  | tok (kill : Option Nat) (mk : Nat) (e : TypeId) (size : Nat)

def St.put (st : St) (dst : Option Nat) (v : PV) : St :=
  match dst with
  | some d => { st with tm := upd st.tm d v }
  | none => st

def tkAfter (tk : Nat → TS) : Option Nat → Nat → TS → Nat → TS
  | Option.none, d, x => upd tk d x
  | Option.some k, d, x => upd (upd tk k .dead) d x

def HEff.obA : HEff → (Nat → Option OB) → Nat → Option OB
  | .obj id o, ob => upd ob id (some o)
  | _, ob => ob

def HEff.tkA : HEff → (Nat → TS) → Nat → TS
  | .tok kill g e size, tk => tkAfter tk kill g (.live e size)
  | _, tk => tk

def St.eff (st : St) (e : HEff) : St := ⟨st.tm, e.obA st.ob, e.tkA st.tk⟩

def inR (k : IntKind) (n : Int) : Bool := decide (k.min ≤ n) && decide (n ≤ k.max)

/-- The quotient, towards zero. -/
def divT (a b : Int) : Int := if 0 ≤ a then a / b else -(-a / b)

def evalInt (op : BinOp) (k : IntKind) (a b : Int) : Option (Bool × D) :=
  match op with
  | .add => some (inR k (a + b), .int k (a + b))
  | .sub => some (inR k (a - b), .int k (a - b))
  | .mul => some (inR k (a * b), .int k (a * b))
  | .quo => some (decide (k.min ≤ a) && decide (a ≤ k.max) && decide (0 < b), .int k (divT a b))
  | .rem => some (decide (0 ≤ a) && decide (0 < b), .int k (a % b))
  | .eql => some (true, .bool (decide (a = b)))
  | .neq => some (true, .bool (!decide (a = b)))
  | .lss => some (true, .bool (decide (a < b)))
  | .leq => some (true, .bool (decide (a ≤ b)))
  | .gtr => some (true, .bool (decide (b < a)))
  | .geq => some (true, .bool (decide (b ≤ a)))
  | _ => none

def evalStr (op : BinOp) (a b : List UInt8) : Option (Bool × D) :=
  match op with
  | .add => some (decide (((a.length + b.length : Nat) : Int) ≤ IntKind.i64.max), .str (a ++ b))
  | .eql => some (true, .bool (decide (a = b)))
  | .neq => some (true, .bool (!decide (a = b)))
  | .lss => some (true, .bool (Op.bytesLess a b))
  | .leq => some (true, .bool (Op.bytesLess a b || decide (a = b)))
  | .gtr => some (true, .bool (!(Op.bytesLess a b || decide (a = b))))
  | .geq => some (true, .bool (!Op.bytesLess a b))
  | _ => none

def evalBool (op : BinOp) (a b : Bool) : Option (Bool × D) :=
  match op with
  | .eql => some (true, .bool (a == b))
  | .neq => some (true, .bool (!(a == b)))
  | _ => none

/-- One field of two structs that are held against each other. -/
def eqField : TK → PV → PV → Option Bool
  | .bool, .d (.bool a), .d (.bool b) => some (a == b)
  | .int _, .d (.int k a), .d (.int k' b) => if k = k' then some (decide (a = b)) else none
  | .str, .d (.str a), .d (.str b) => some (decide (a = b))
  | _, _, _ => none

def eqFields (T : Nat → Option TI) (xs ys : List PV) : List (Nat × TypeId) → Option Bool
  | [] => some true
  | (off, t) :: fs => match T t, xs[off]?, ys[off]? with
    | some ti, some x, some y => match eqField ti.k x y, eqFields T xs ys fs with
      | some a, some b => some (a && b)
      | _, _ => none
    | _, _, _ => none

def evalBin (T : Nat → Option TI) (op : BinOp) (t : TypeId) : PV → PV → Option (Bool × PV)
  | .d (.int k a), .d (.int k' b) => if k = k' then (evalInt op k a b).map fun r => (r.1, .d r.2) else none
  | .d (.str a), .d (.str b) => (evalStr op a b).map fun r => (r.1, .d r.2)
  | .d (.bool a), .d (.bool b) => match T t with
    | some ⟨_, _, .bool, _, _⟩ => (evalBool op a b).map fun r => (r.1, .d r.2)
    | _ => none
  | .agg xs, .agg ys => match T t with
    | some ⟨_, _, .struct fs, _, true⟩ => match op, eqFields T xs ys fs with
      | .eql, some b => some (true, .d (.bool b))
      | .neq, some b => some (true, .d (.bool (!b)))
      | _, _ => none
    | _ => none
  | .fn _ _ _, .d .nilf => match T t, op with
    | some ⟨_, _, .func, _, _⟩, .eql => some (true, .d (.bool false))
    | some ⟨_, _, .func, _, _⟩, .neq => some (true, .d (.bool true))
    | _, _ => none
  | .d (.fn _ _ _), .d .nilf => match T t, op with
    | some ⟨_, _, .func, _, _⟩, .eql => some (true, .d (.bool false))
    | some ⟨_, _, .func, _, _⟩, .neq => some (true, .d (.bool true))
    | _, _ => none
  | .d .nilf, .d .nilf => match T t, op with
    | some ⟨_, _, .func, _, _⟩, .eql => some (true, .d (.bool true))
    | some ⟨_, _, .func, _, _⟩, .neq => some (true, .d (.bool false))
    | _, _ => none
  | _, _ => none

def evalUn (op : UnOp) : PV → Option (Bool × PV)
  | .d (.bool b) => match op with
    | .not => some (true, .d (.bool (!b)))
    | _ => none
  | .d (.int k n) => match op with
    | .neg => some (inR k (0 - n), .d (.int k (0 - n)))
    | _ => none
  | _ => none

def setSub (l : List PV) (off : Nat) : List PV → List PV
  | [] => l
  | c :: cs => setSub (l.set off c) (off + 1) cs

def fillP (place : Nat → Option (Nat × Nat)) (cells : List PV) : List (Nat × PV) → Option (List PV)
  | [] => some cells
  | (i, v) :: rest => match place i with
    | none => none
    | some (off, size) => bif Nat.beq v.cells.length size && Nat.ble (off + size) cells.length && v.cells.all PV.cell then fillP place (setSub cells off v.cells) rest else none

def placesOf (T : Nat → Option TI) : List (Nat × TypeId) → Option (List (Nat × Nat))
  | [] => some []
  | (off, t) :: fs => match T t, placesOf T fs with
    | some ti, some r => some ((off, ti.size) :: r)
    | _, _ => none

def evalBuild (T : Nat → Option TI) (t : TypeId) (parts : List (Nat × PV)) : Option PV :=
  match T t with
  | some ⟨_, _, .struct fs, z, _⟩ => match placesOf T fs, ofConst z with
    | some ps, .agg zc => (fillP (fun i => ps[i]?) zc parts).map .agg
    | _, _ => none
  | some ⟨_, _, .array _ e, z, _⟩ => match T e, ofConst z with
    | some te, .agg zc => (fillP (fun i => some (i * te.size, te.size)) zc parts).map .agg
    | _, _ => none
  | _ => none

/-- The elements of a row of cells. -/
def chunk (size : Nat) : Nat → List PV → List PV
  | 0, _ => []
  | n + 1, l => (.agg (l.take size)) :: chunk size n (l.drop size)

def elemsD (agg : Bool) (size : Nat) : Nat → List D → List D
  | 0, _ => []
  | n + 1, l => (bif agg then D.agg (l.take size) else l.headD .nilp) :: elemsD agg size n (l.drop size)

def subPV (x : PV) (agg : Bool) (off size : Nat) : PV := bif agg then .agg ((x.cells.drop off).take size) else x.cells.getD off .any

def replSub (x : PV) (off : Nat) (y : PV) : PV := bif Nat.beq off 0 && Nat.beq y.cells.length x.cells.length then y else .agg (setSub x.cells off y.cells)

def asSl : PV → Option (Nat × List D)
  | .d (.sl sz xs) => some (sz, xs)
  | .own sz xs _ => some (sz, xs)
  | _ => none

def boundI : Option PV → Int → Option Int
  | none, n => some n
  | some (.d (.int _ i)), _ => some i
  | _, _ => none

def evalSlice (T : Nat → Option TI) (t : TypeId) (x : PV) (lo hi mx : Option PV) : Option (Bool × PV) :=
  match T t with
  | some ⟨_, _, .str, _, _⟩ => match x, mx with
    | .d (.str l), none => match boundI lo 0, boundI hi l.length with
      | some a, some b => some (decide (0 ≤ a) && decide (a ≤ b) && decide (b ≤ l.length), .d (.str ((l.drop a.toNat).take (b.toNat - a.toNat))))
      | _, _ => none
    | _, _ => none
  | some ⟨_, _, .slice e, _, _⟩ => match T e, asSl x with
    | some te, some (sz, xs) => match boundI lo 0, boundI hi xs.length, mx with
      | some a, some b, none => some ((Nat.beq sz te.size || xs.isEmpty) && decide (0 ≤ a) && decide (a ≤ b) && decide (b ≤ xs.length), .d (.sl te.size ((xs.drop a.toNat).take (b.toNat - a.toNat))))
      | some a, some b, some (.d (.int _ c)) => some ((Nat.beq sz te.size || xs.isEmpty) && decide (0 ≤ a) && decide (a ≤ b) && decide (b = c) && decide (b ≤ xs.length), .own te.size ((xs.drop a.toNat).take (b.toNat - a.toNat)) .full)
      | _, _, _ => none
    | _, _ => none
  | _ => none

/-- A cut of a row of the walk's own. -/
def evalSliceH (T : Nat → Option TI) (t : TypeId) (id sz l n cap : Nat) (lo hi mx : Option PV) : Option (Bool × PV) :=
  match T t with
  | some ⟨_, _, .slice e, _, _⟩ => match T e with
    | some te => match boundI lo 0, boundI hi n, mx with
      | some a, some b, none => some (Nat.beq sz te.size && decide (0 ≤ a) && decide (a ≤ b) && decide (b ≤ n), bif decide (a = b) && !decide (a = 0) then .d (.sl sz []) else .hrow id sz (l + a.toNat) (b.toNat - a.toNat) (cap - a.toNat))
      | some a, some b, some (.d (.int _ c)) => some (Nat.beq sz te.size && decide (0 ≤ a) && decide (a ≤ b) && decide (b ≤ n) && (decide (a = 0) || decide (a < b)) && decide (b = c), .hrow id sz (l + a.toNat) (b.toNat - a.toNat) (b.toNat - a.toNat))
      | _, _, _ => none
    | none => none
  | _ => none

/-- Two keys of a map. -/
def eqKey : D → D → Option Bool
  | .int k a, .int k' b => if k = k' then some (decide (a = b)) else none
  | .str a, .str b => some (decide (a = b))
  | .bool a, .bool b => some (a == b)
  | _, _ => none
def keyOk : TK → D → Bool
  | .int k, .int k' _ => decide (k' = k)
  | .str, .str _ => true
  | .bool, .bool _ => true
  | _, _ => false
/-- A key among the entries of a map: its place, its value. -/
def findP (key : D) : List PV → Option (Option (Nat × PV))
  | [] => some none
  | .agg [.d k, v] :: r => match eqKey k key with
    | some true => some (some (0, v))
    | some false => match findP key r with
      | some none => some none
      | some (some (i, u)) => some (some (i + 1, u))
      | none => none
    | none => none
  | _ => none
def pairsP : List D → List PV
  | k :: v :: r => .agg [.d k, .d v] :: pairsP r
  | _ => []

def mapElems (m : PV) (ob : Nat → Option OB) : Option (List PV) :=
  match m with
  | .hmap id => match ob id with
    | some o => bif Nat.beq o.ty 4000000000 then some o.elems else none
    | none => none
  | .d (.map kvs) => some (pairsP kvs)
  | .d .nilm => some []
  | _ => none

def evalLookup (T : Nat → Option TI) (t : TypeId) (m k : PV) (ok : Bool) (ob : Nat → Option OB) : Option (Bool × PV) :=
  match T t, k, mapElems m ob with
  | some ⟨_, _, .map kt et, _, _⟩, .d key, some els => match T kt, T et, findP key els with
    | some tk, some te, some none => some (keyOk tk.k key, bif ok then .tup [ofConst te.zero, .d (.bool false)] else ofConst te.zero)
    | some tk, some _, some (some (_, v)) => some (keyOk tk.k key, bif ok then .tup [v, .d (.bool true)] else v)
    | _, _, _ => none
  | _, _, _ => none

def evalMapUpdate (T : Nat → Option TI) (t : TypeId) (m k x : PV) (ob : Nat → Option OB) : Option (Bool × PV × HEff) :=
  match T t, m, k with
  | some ⟨_, _, .map kt _, _, _⟩, .hmap id, .d key => match T kt, ob id with
    | some tk, some o => match findP key o.elems with
      | some none => some (keyOk tk.k key && x.cell && Nat.beq o.ty 4000000000 && Nat.beq o.sz 2, .tup [], .obj id ⟨o.ty, o.sz, o.elems ++ [.agg [.d key, x]]⟩)
      | some (some (i, _)) => some (keyOk tk.k key && x.cell && Nat.beq o.ty 4000000000 && Nat.beq o.sz 2, .tup [], .obj id ⟨o.ty, o.sz, o.elems.set i (.agg [.d key, x])⟩)
      | none => none
    | _, _ => none
  | _, _, _ => none

def evalMakeMap (dst : Option Nat) (ob : Nat → Option OB) : Option (Bool × PV × HEff) :=
  match dst with
  | some d => match ob d with
    | none => some (true, .hmap d, .obj d ⟨4000000000, 2, []⟩)
    | some _ => none
  | none => none

/-- What stands at a place of a text. -/
def runeAt (l : List UInt8) (i : Nat) : Nat × Nat := Utf8.decode ⟨l.toArray⟩ i
/-- A walk over a text: the text, the place. -/
def evalRange (T : Nat → Option TI) (dst : Option Nat) (t : TypeId) (x : PV) (ob : Nat → Option OB) : Option (Bool × PV × HEff) :=
  match T t, x, dst with
  | some ⟨_, _, .str, _, _⟩, .d (.str l), some d => match ob d with
    | none => some (true, .hp d 0 0, .obj d ⟨4000000001, 2, [.agg [.d (.str l), .d (.int .i64 0)]]⟩)
    | some _ => none
  | _, _, _ => none
def evalNext (it : PV) (ob : Nat → Option OB) : Option (Bool × PV × HEff) :=
  match it with
  | .hp id 0 0 => match ob id with
    | some ⟨ty, sz, [.agg [.d (.str l), .d (.int .i64 p)]]⟩ =>
      bif decide (p < l.length) then some (Nat.beq ty 4000000001 && Nat.beq sz 2 && decide (0 ≤ p), .tup [.d (.bool true), .d (.int .i64 p), .d (.int .i32 ((runeAt l p.toNat).1 : Int))],
        .obj id ⟨ty, sz, [.agg [.d (.str l), .d (.int .i64 (p + ((runeAt l p.toNat).2 : Int)))]]⟩)
      else some (Nat.beq ty 4000000001 && decide (0 ≤ p), .tup [.d (.bool false)], .none)
    | _ => none
  | _ => none

def evalIndexAddr (T : Nat → Option TI) (t : TypeId) (x i : PV) : Option (Bool × PV) :=
  match T t, i with
  | some ⟨_, _, .slice e, _, _⟩, .d (.int _ n) => match T e with
    | some te => match x with
      | .hrow id sz lo len _ => some (Nat.beq sz te.size && decide (0 ≤ n) && decide (n < len), .hp id (lo + n.toNat) 0)
      | x => match asSl x with
        | some (sz, xs) => some (Nat.beq sz te.size && decide (0 ≤ n) && decide (n < xs.length), .d (.ref (xs.getD n.toNat .nilp).cells))
        | none => none
    | none => none
  | some ⟨_, _, .array m e, _, _⟩, .d (.int _ n) => match T e with
    | some te => match x with
      | .hp id k off => some (decide (0 ≤ n) && decide (n < m), .hp id k (off + n.toNat * te.size))
      | .d (.ref cs) => some (decide (0 ≤ n) && decide (n < m), .d (.ref (cs.drop (n.toNat * te.size))))
      | _ => none
    | none => none
  | _, _ => none

def evalIndex (T : Nat → Option TI) (t : TypeId) (x i : PV) : Option (Bool × PV) :=
  match T t, i with
  | some ⟨_, _, .str, _, _⟩, .d (.int _ n) => match x with
    | .d (.str l) => some (decide (0 ≤ n) && decide (n < l.length), .d (.int .u8 ((l.getD n.toNat 0).toNat : Int)))
    | _ => none
  | some ⟨_, _, .array m e, _, _⟩, .d (.int _ n) => match T e, x with
    | some te, .agg cs => some (decide (0 ≤ n) && decide (n < m) && Nat.ble (n.toNat * te.size + (bif te.k.agg then te.size else 1)) cs.length, bif te.k.agg then .agg ((cs.drop (n.toNat * te.size)).take te.size) else cs.getD (n.toNat * te.size) .any)
    | _, _ => none
  | _, _ => none

def evalFieldAddr (T : Nat → Option TI) (s : TypeId) (x : PV) (f : Nat) : Option (Bool × PV) :=
  match T s with
  | some ⟨_, _, .struct fs, _, _⟩ => match fs[f]? with
    | some (off, t) => match T t with
      | some ti => match x with
        | .hp id i o => some (!Nat.beq ti.size 0, .hp id i (o + off))
        | .d (.ref cs) => some (!Nat.beq ti.size 0, .d (.ref (cs.drop off)))
        | _ => none
      | none => none
    | none => none
  | _ => none

def evalField (T : Nat → Option TI) (s : TypeId) (x : PV) (f : Nat) : Option (Bool × PV) :=
  match T s, x with
  | some ⟨_, _, .struct fs, _, _⟩, .agg cs => match fs[f]? with
    | some (off, t) => match T t with
      | some ti => some (Nat.ble (off + (bif ti.k.agg then ti.size else 1)) cs.length, bif ti.k.agg then .agg ((cs.drop off).take ti.size) else cs.getD off .any)
      | none => none
    | none => none
  | _, _ => none

/-- The number that stands for 'this object is a map'. -/
def mapTag : Nat := 4000000000
/-- The number that stands for 'this object walks over a text'. -/
def iterTag : Nat := 4000000001

def evalLoad (T : Nat → Option TI) (t : TypeId) (a : PV) (ob : Nat → Option OB) : Option (Bool × PV) :=
  match T t with
  | none => none
  | some ti => match a with
    | .hp id i off => match ob id with
      | some o => some (!Nat.ble 4000000000 o.ty && Nat.blt i o.elems.length && Nat.ble (off + (bif ti.k.agg then ti.size else 1)) (o.elems.getD i .any).cells.length, subPV (o.elems.getD i .any) ti.k.agg off ti.size)
      | none => none
    | .d (.ref cs) => some (Nat.ble (bif ti.k.agg then ti.size else 1) cs.length, bif ti.k.agg then .agg ((cs.take ti.size).map .d) else .d (cs.getD 0 .nilp))
    | _ => none

def evalStore (T : Nat → Option TI) (t : TypeId) (a x : PV) (ob : Nat → Option OB) : Option (Bool × PV × HEff) :=
  match T t, a with
  | some ti, .hp id i off => match ob id with
    | some o => some (!Nat.ble 4000000000 o.ty && Nat.blt i o.elems.length && Nat.beq x.cells.length ti.size && x.cells.all PV.cell && Nat.ble (off + ti.size) (o.elems.getD i .any).cells.length,
        .tup [], .obj id { o with elems := o.elems.set i (replSub (o.elems.getD i .any) off x) })
    | none => none
  | _, _ => none

def evalAlloc (T : Nat → Option TI) (dst : Option Nat) (t : TypeId) (x : Option PV) (ob : Nat → Option OB) : Option (Bool × PV × HEff) :=
  match T t, dst with
  | some ti, some d => match ob d with
    | none => some (!Nat.ble 4000000000 t && Nat.beq (x.getD (ofConst ti.zero)).cells.length ti.size && (x.getD (ofConst ti.zero)).cells.all PV.cell, .hp d 0 0, .obj d ⟨t, ti.size, [x.getD (ofConst ti.zero)]⟩)
    | some _ => none
  | _, _ => none

def evalAppend (T : Nat → Option TI) (dst : Option Nat) (t : TypeId) (s x : PV) (tk : Nat → TS) : Option (Bool × PV × HEff) :=
  match T t, dst with
  | some ⟨_, _, .slice e, _, _⟩, some d => match T e, s, asSl x, tk d with
    | some te, .own sz xs tok, some (sz2, ys), .never =>
      let c := decide (te.size < 1000000) && (Nat.beq sz te.size || xs.isEmpty) && (Nat.beq sz2 te.size || ys.isEmpty) && decide ((xs.length + ys.length) * te.bytes ≤ 140737488355328) && decide (xs.length + ys.length ≤ 140737488355328) && !Nat.beq te.size 0 && Nat.beq (ofConst te.zero).cells.length te.size && (ofConst te.zero).cells.all PV.cell
      match tok with
      | .full => some (c, .own te.size (xs ++ ys) (.tok d), .tok none d e te.size)
      | .tok n => match tk n with
        | .live e' size' => some (c && Nat.beq e' e && (Nat.beq size' te.size || Nat.beq size' (te.size + 1000000)), .own te.size (xs ++ ys) (.tok d), .tok (some n) d e size')
        | _ => none
    | _, _, _, _ => none
  | _, _ => none

def evalMakeSlice (T : Nat → Option TI) (dst : Option Nat) (t : TypeId) (l c : PV) (ob : Nat → Option OB) (tk : Nat → TS) : Option (Bool × PV × HEff) :=
  match T t, dst, l, c with
  | some ⟨_, _, .slice e, _, _⟩, some d, .d (.int .i64 n), .d (.int .i64 m) => match T e with
    | some te =>
      let ok := decide (te.size < 1000000) && decide (0 ≤ n) && decide (n ≤ m) && decide (te.bytes * m ≤ 140737488355328) && decide (m ≤ 140737488355328) && !Nat.beq te.size 0 && Nat.beq (ofConst te.zero).cells.length te.size && (ofConst te.zero).cells.all PV.cell
      bif decide (n = 0) then (match tk d with
        | .never => some (ok, .own te.size [] (.tok d), .tok none d e te.size)
        | _ => none)
      else (match ob d with
        | none => some (ok && decide (n = m) && !Nat.ble 4000000000 e, .hrow d te.size 0 n.toNat n.toNat, .obj d ⟨e, te.size, List.replicate n.toNat (ofConst te.zero)⟩)
        | some _ => none)
    | none => none
  | _, _, _, _ => none

def evalBuildSlice (T : Nat → Option TI) (t : TypeId) (n : Nat) (parts : List (Nat × PV)) : Option (Bool × PV) :=
  match T t with
  | some ⟨_, _, .slice e, _, _⟩ => match T e with
    | some te => match fillP (fun i => some (i * te.size, te.size)) ((List.replicate n (ofConst te.zero).cells).flatten) parts with
      | some cells => match PV.toD.toDs cells with
        | some ds => some (!Nat.beq te.size 0 && Nat.beq (ofConst te.zero).cells.length te.size && (ofConst te.zero).cells.all PV.cell && Nat.ble (n * te.size) 16777216 && (te.k.agg || Nat.beq te.size 1) && ds.all D.cell, .own te.size (elemsD te.k.agg te.size n ds) .full)
        | none => none
      | none => none
    | none => none
  | _ => none

def foldI (f : Int → Int → Int) (k : IntKind) : Int → List PV → Option D
  | a, [] => some (.int k a)
  | a, .d (.int k' b) :: r => if k = k' then foldI f k (f a b) r else none
  | _, _ => none

def evalBuiltin (T : Nat → Option TI) (b : Builtin) (ts : List TypeId) (args : List PV) : Option (Bool × PV) :=
  match b, ts, args with
  | .len, t :: _, x :: _ => match T t with
    | some ti => match ti.k, x with
      | .str, .d (.str l) => some (true, .d (.int .i64 l.length))
      | .slice _, .d (.sl _ xs) => some (true, .d (.int .i64 xs.length))
      | .slice _, .own _ xs _ => some (true, .d (.int .i64 xs.length))
      | .slice _, .hrow _ _ _ n _ => some (true, .d (.int .i64 n))
      | .array n _, _ => some (true, .d (.int .i64 n))
      | _, _ => none
    | none => none
  | .max, _, .d (.int k a) :: r => (foldI max k a r).map fun x => (true, .d x)
  | .min, _, .d (.int k a) :: r => (foldI min k a r).map fun x => (true, .d x)
  | _, _, _ => none

def val (r : Option (Bool × PV)) : Option (Bool × PV × HEff) := match r with
  | some (c, v) => some (c, v, .none)
  | none => none

/-- Bytes as a text. -/
def bytesOf : List D → Option (List Int)
  | [] => some []
  | .int .u8 n :: r => (bytesOf r).map (n :: ·)
  | _ => none

/-- An int, or a slice of bytes, as another type. -/
def evalConv (T : Nat → Option TI) (src dst : TypeId) (x : PV) : Option (Bool × PV) :=
  match T src, T dst, x with
  | some ⟨_, _, .int .i8, _, _⟩, some ⟨_, _, .int .u8, _, _⟩, .d (.int _ n) => some (true, .d (.int .u8 (n % 256)))
  | some _, some ⟨_, _, .int k, _, _⟩, .d (.int _ n) => some (inR k n, .d (.int k n))
  | some _, some ⟨_, _, .str, _, _⟩, .d (.str l) => some (true, .d (.str l))
  | some ⟨_, _, .slice e, _, _⟩, some ⟨_, _, .str, _, _⟩, x => match T e, asSl x with
    | some ⟨_, _, .int .u8, _, _⟩, some (sz, xs) => match bytesOf xs with
      | some ns => some (Nat.beq sz 1 && !xs.isEmpty, .d (.str (ns.map fun n => UInt8.ofNat n.toNat)))
      | none => none
    | _, _ => none
  | _, _, _ => none

/-- A row copied into one of the walk's own. -/
def evalCopy (T : Nat → Option TI) (t : TypeId) (d s : PV) (ob : Nat → Option OB) : Option (Bool × PV × HEff) :=
  match T t, d, asSl s with
  | some ⟨_, _, .slice e, _, _⟩, .hrow id _ lo len _, some (sz2, ys) => match T e, ob id with
    | some te, some o => some (!Nat.ble 4000000000 o.ty && Nat.beq o.sz te.size && (Nat.beq sz2 te.size || ys.isEmpty) && Nat.ble ys.length len && Nat.ble (lo + len) o.elems.length,
        .d (.int .i64 ys.length), .obj id ⟨o.ty, o.sz, o.elems.take lo ++ ys.map PV.ofD.PV.ofD1 ++ o.elems.drop (lo + ys.length)⟩)
    | _, _ => none
  | some ⟨_, _, .slice e, _, _⟩, .d (.sl _ []), some (_, []) => match T e with
    | some _ => some (true, .d (.int .i64 0), .none)
    | none => none
  | _, _, _ => none

def evalOp (T : Nat → Option TI) (dst : Option Nat) (op : Op) (ρ : Operand → PV) (ob : Nat → Option OB) (tk : Nat → TS) : Option (Bool × PV × HEff) :=
  match op with
  | .move x => some (true, ρ x, .none)
  | .assign x => some (true, ρ x, .none)
  | .pick c a b => match ρ c with
    | .d (.bool t) => some (true, bif t then ρ a else ρ b, .none)
    | _ => none
  | .build t parts => match evalBuild T t (parts.toList.map fun p => (p.1, ρ p.2)) with
    | some v => some (true, v, .none)
    | none => none
  | .buildSlice t n parts => val (evalBuildSlice T t n (parts.toList.map fun p => (p.1, ρ p.2)))
  | .binOp op t x y _ => val (evalBin T op t (ρ x) (ρ y))
  | .unOp op _ x => val (evalUn op (ρ x))
  | .convert src dst x => val (evalConv T src dst (ρ x))
  | .makeFunc f first caps => some (true, .fn f (first.toList.map ρ) (caps.toList.map ρ), .none)
  | .slice t x lo hi mx => match ρ x with
    | .hrow id sz l n cap => val (evalSliceH T t id sz l n cap (lo.map ρ) (hi.map ρ) (mx.map ρ))
    | y => val (evalSlice T t y (lo.map ρ) (hi.map ρ) (mx.map ρ))
  | .makeMap _ none => evalMakeMap dst ob
  | .lookup t m k ok => val (evalLookup T t (ρ m) (ρ k) ok ob)
  | .mapUpdate t m k x => evalMapUpdate T t (ρ m) (ρ k) (ρ x) ob
  | .insert t m k x => evalMapUpdate T t (ρ m) (ρ k) (ρ x) ob
  | .range t x => evalRange T dst t (ρ x) ob
  | .next x true => evalNext (ρ x) ob
  | .fieldAddr s x f => val (evalFieldAddr T s (ρ x) f)
  | .field s x f => val (evalField T s (ρ x) f)
  | .indexAddr t x i => val (evalIndexAddr T t (ρ x) (ρ i))
  | .index t x i => val (evalIndex T t (ρ x) (ρ i))
  | .extract x i => match ρ x with
    | .tup cs => match cs[i]? with
      | some c => some (true, c, .none)
      | none => none
    | _ => none
  | .nilCheck x => match ρ x with
    | .hp id i off => some (true, .hp id i off, .none)
    | .d (.ref cs) => some (true, .d (.ref cs), .none)
    | _ => none
  | .call { callee := .builtin .append, args, argTypes } => match args.toList, argTypes.toList with
    | [s, x], [t, t2] => bif Nat.beq t t2 then evalAppend T dst t (ρ s) (ρ x) tk else none
    | _, _ => none
  | .call { callee := .builtin .copy, args, argTypes } => match args.toList, argTypes.toList with
    | [d, s], [t, _] => evalCopy T t (ρ d) (ρ s) ob
    | _, _ => none
  | .call { callee := .builtin b, args, argTypes } => val (evalBuiltin T b argTypes.toList (args.toList.map ρ))
  | .load t a => val (evalLoad T t (ρ a) ob)
  | .store t a x => evalStore T t (ρ a) (ρ x) ob
  | .alloc t => evalAlloc T dst t none ob
  | .box t x => evalAlloc T dst t (some (ρ x)) ob
  | .makeSlice t l c => evalMakeSlice T dst t (ρ l) (ρ c) ob tk
  | _ => none

end Go.PS
namespace Go.PS
open Go Go.RowKit

/-- A map's object: keys and values, one behind the other. -/
def entriesOf : Nat → List Value → List MapEntry
  | i, k :: v :: r => ⟨k, v, i⟩ :: entriesOf (i + 1) r
  | _, _ => []
def mapObj (vs : List Value) : Obj := .map (entriesOf 0 vs).toArray (entriesOf 0 vs).length

/-- A walk over a text. -/
def iterObj : List Value → Obj
  | [.string s, .int .i64 p] => .stringIter s p.toNat
  | _ => .stringIter ⟨#[]⟩ 0

/-- The object of a row of cells (with spare cells behind it), or of a map. -/
def objOf (ty : TypeId) (cs spare : Array Value) : Obj := bif Nat.beq ty mapTag then mapObj cs.toList else bif Nat.beq ty iterTag then iterObj cs.toList else .cells (cs ++ spare) ty (0, 0)
theorem noTag {ty : TypeId} (h : Nat.ble mapTag ty = false) : Nat.beq ty mapTag = false ∧ Nat.beq ty iterTag = false := by
  have h1 : ¬ mapTag ≤ ty := fun h2 => by rw [Nat.ble_eq_true_of_le h2] at h; cases h
  simp only [mapTag] at h1
  constructor <;> (rw [Bool.eq_false_iff]; intro e; have := Nat.eq_of_beq_eq_true e; simp only [mapTag, iterTag] at this; omega)
theorem objOf_cells {ty : TypeId} (h : Nat.ble mapTag ty = false) (cs spare : Array Value) : objOf ty cs spare = .cells (cs ++ spare) ty (0, 0) := by simp [objOf, (noTag h).1, (noTag h).2]

/-- What is known of a block's cell: its value; or, where the value is a tuple, that the block is a map with these entries. -/
def Held (w : World) (b o : Nat) : Value → Prop
  | .tuple vs => w.heap[b]? = some (mapObj vs.toList)
  | v => w.cell? ⟨b, o, none⟩ = some v
theorem Held.cell {w : World} {b o : Nat} {v : Value} (h : Held w b o v) (h1 : v.oneCell' = true) : w.cell? ⟨b, o, none⟩ = some v := by
  cases v <;> first | exact h | (simp [Value.oneCell'] at h1)
theorem Held.of_cell {w : World} {b o : Nat} {v : Value} (h : w.cell? ⟨b, o, none⟩ = some v) (h1 : v.oneCell' = true) : Held w b o v := by
  cases v <;> first | exact h | (simp [Value.oneCell'] at h1)
theorem Held.of_cells {w : World} {b o : Nat} {v : Value} {cs : Array Value} {e : TypeId} {f : Nat × Nat} (h : Held w b o v) (hb : w.heap[b]? = some (.cells cs e f)) : w.cell? ⟨b, o, none⟩ = some v := by
  cases v with
  | tuple vs => rw [Held, hb] at h; cases h
  | _ => exact h
theorem Held.lt {w : World} {b o : Nat} {v : Value} (h : Held w b o v) : b < w.heap.size := by
  cases v with
  | tuple vs => exact (Array.getElem?_eq_some_iff.1 h).1
  | _ => exact World.block_lt_of_cell? w _ h
theorem Held.block {w w' : World} {b o : Nat} {v : Value} (h : Held w b o v) (hb : w'.heap[b]? = w.heap[b]?) : Held w' b o v := by
  cases v with
  | tuple vs => exact hb.trans h
  | _ => exact (World.cell?_of_block (w := w) hb).trans h

def KSub (K : Nat → Nat → Option Value) (w : World) : Prop := ∀ b o v, K b o = some v → Held w b o v

/-- What was there, and is not given away, is as it was. -/
structure BelowM (B : Nat) (M : Nat → Prop) (w w' : World) : Prop where
  os : w'.os = w.os
  tape : w'.tape = w.tape
  output : w'.output = w.output
  size : w.heap.size ≤ w'.heap.size
  block : ∀ k, k < B → ¬ M k → w'.heap[k]? = w.heap[k]?

theorem BelowM.refl (B M) (w : World) : BelowM B M w w := ⟨rfl, rfl, rfl, Nat.le_refl _, fun _ _ _ => rfl⟩
theorem BelowM.trans {B M} {a b c : World} (h : BelowM B M a b) (k : BelowM B M b c) : BelowM B M a c :=
  ⟨k.os.trans h.os, k.tape.trans h.tape, k.output.trans h.output, Nat.le_trans h.size k.size, fun i hi hm => (k.block i hi hm).trans (h.block i hi hm)⟩
theorem BelowM.drew {B M} {a w : World} (h : BelowM B M a w) : BelowM B M a w.drew := ⟨h.os, h.tape, h.output, h.size, h.block⟩
theorem BelowM.alloc {B M} {a w : World} (h : BelowM B M a w) (hB : B ≤ w.heap.size) (o : Obj) : BelowM B M a (w.alloc o) :=
  h.trans ⟨rfl, rfl, rfl, by simp, fun k hk _ => Below.heap_alloc _ _ _ (by omega)⟩
theorem BelowM.of_below {B B' M} {a b : World} (h : Below B' a b) (hB : B ≤ B') : BelowM B M a b := ⟨h.os, h.tape, h.output, h.size, fun k hk _ => h.block k (by omega)⟩
theorem BelowM.below {B M} {a b : World} (h : BelowM B M a b) (hM : ∀ k, ¬ M k) : Below B a b := ⟨h.os, h.tape, h.output, h.size, fun k hk => h.block k hk (hM k)⟩

/-- An object that a call is given to write, before or after: its number, what it is, its elements. -/
structure PO where
  id : Nat
  ty : TypeId
  sz : Nat
  elems : List D

structure Env where
  n : Nat
  small : n ≤ 3000
  w0 : World
  K0 : Nat → Nat → Option Value
  k0sub : KSub K0 w0
  pas : Nat → Option Nat
  free : ∀ id b, pas id = some b → ∀ o, K0 b o = none
  post : List PO
  res : Option PO

def Env.B (E : Env) : Nat := E.w0.heap.size
/-- The blocks that a call was given to write. -/
def Env.M (E : Env) (b : Nat) : Prop := ∃ id, E.pas id = some b
/-- The blocks that a call may write: those that it makes, and those that it was given for that. -/
def Env.mine (E : Env) (b : Nat) : Prop := E.B ≤ b ∨ E.M b

theorem Env.free_mine (E : Env) {b : Nat} (h : E.mine b) (o : Nat) : E.K0 b o = none := by
  rcases h with h | ⟨id, h⟩
  · cases hk : E.K0 b o with
    | none => rfl
    | some v => have := (E.k0sub b o v hk).lt; simp only [Env.B] at h; omega
  · exact E.free id b h o

def FullV (v : Value) : Prop := v = .slice none 0 0 ∨ ∃ a n, v = .slice (some a) n n

def flat (l : List PV) : List PV := l.flatMap PV.cells

structure ObjOk (M : Nat → Prop) (γ : Gh) (w : World) (blk : Nat) (o : OB) (cs : Array Value) : Prop where
  base : M blk
  heap : ∃ spare, w.heap[blk]? = some (objOf o.ty cs spare)
  rep : RepL γ (flat o.elems) cs.toList
  one : ∀ u ∈ cs.toList, u.oneCell' = true
  size : ∀ e ∈ o.elems, e.cells.length = o.sz
  free : ∀ off, γ.K blk off = none

structure TokOwn (M : Nat → Prop) (γ : Gh) (w : World) (e : TypeId) (sz g : Nat) (v : Value) (n cap : Nat) (cur : Array Value) : Prop where
  val : v = .slice (some ⟨g, 0, none⟩) n cap
  base : M g
  heap : w.heap[g]? = some (.cells cur e (0, 0))
  le : n ≤ cap
  max : cap ≤ maxLen
  size : cur.size = cap * sz
  free : ∀ o, n * sz ≤ o → γ.K g o = none
  noobj : ∀ id s, γ.m id ≠ some (g, s)

/-- A token's label is the size of an element, or, where the row is surely the walk's own, that and a million. -/
def rsz (s : Nat) : Nat := s % 1000000
theorem rsz_lt {s : Nat} (h : s < 1000000) : rsz s = s := Nat.mod_eq_of_lt h
theorem rsz_mine {s : Nat} (h : s < 1000000) : rsz (s + 1000000) = s := by unfold rsz; omega

def TokOk (M : Nat → Prop) (γ : Gh) (w : World) (e : TypeId) (sz : Nat) (v : Value) : Option Nat → Prop
  | none => FullV v
  | some g => ∃ n cap cur, TokOwn M γ w e (rsz sz) g v n cap cur

structure ConcW (E : Env) (γ : Gh) (own : Nat → Option Nat) (ob : Nat → Option OB) (tk : Nat → TS) (w : World) : Prop where
  k0 : KLe E.K0 γ.K
  knew : ∀ b o, γ.K b o ≠ E.K0 b o → E.mine b
  ksub : KSub γ.K w
  below : BelowM E.B E.M E.w0 w
  obj : ∀ id o, ob id = some o → ∃ blk cs, γ.m id = some (blk, o.sz) ∧ ObjOk E.mine γ w blk o cs
  nob : ∀ id, ob id = none → γ.m id = none
  inj : ∀ i j b s t, γ.m i = some (b, s) → γ.m j = some (b, t) → i = j
  tok : ∀ t e sz, tk t = .live e sz → ∃ v, γ.τ t = some v ∧ TokOk E.mine γ w e sz v (own t)
  tinj : ∀ t t' e e' s s' g, tk t = .live e s → tk t' = .live e' s' → own t = some g → own t' = some g → t = t'
  ntok : ∀ t, tk t = .never → γ.τ t = none
  pas : ∀ id b s, 3000 ≤ id → γ.m id = some (b, s) → E.pas id = some b
  tmine : ∀ t e sz v, 1000000 ≤ sz → tk t = .live e sz → γ.τ t = some v → own t = none → ∃ a, v = .slice a 0 0

structure Conc (E : Env) (γ : Gh) (own : Nat → Option Nat) (st : St) (a : Act) (w : World) : Prop where
  defers : a.defers = []
  size : a.tmps.size = E.n
  tm : ∀ i, Rep γ (st.tm i) (a.tmps.getD i undef)
  world : ConcW E γ own st.ob st.tk w

section
variable {E : Env} {γ γ' : Gh} {own : Nat → Option Nat} {st : St} {a : Act} {w w' : World} {ob : Nat → Option OB} {tk : Nat → TS}

theorem ObjOk.lt {M : Nat → Prop} {blk : Nat} {o : OB} {cs : Array Value} (h : ObjOk M γ w blk o cs) : blk < w.heap.size := by
  obtain ⟨spare, hs⟩ := h.heap
  exact (Array.getElem?_eq_some_iff.1 hs).1

theorem ConcW.lt (h : ConcW E γ own ob tk w) : E.B ≤ w.heap.size := h.below.size

theorem ConcW.mlt (h : ConcW E γ own ob tk w) {id b s} (hm : γ.m id = some (b, s)) : b < w.heap.size ∧ E.mine b := by
  cases ho : ob id with
  | none => rw [h.nob id ho] at hm; cases hm
  | some o =>
    obtain ⟨blk, cs, hb, hok⟩ := h.obj id o ho
    rw [hm] at hb
    cases hb
    exact ⟨hok.lt, hok.base⟩

theorem KSub.lt {K} (h : KSub K w) {b o v} (hk : K b o = some v) : b < w.heap.size := (h b o v hk).lt

theorem ObjOk.keep {M : Nat → Prop} {blk : Nat} {o : OB} {cs : Array Value} (h : ObjOk M γ w blk o cs) (hg : GhLe γ γ') (hh : w'.heap[blk]? = w.heap[blk]?) (hf : ∀ off, γ'.K blk off = none) :
    ObjOk M γ' w' blk o cs := ⟨h.base, h.heap.imp fun _ hs => hh.trans hs, h.rep.mono hg, h.one, h.size, hf⟩

theorem TokOwn.keep {M : Nat → Prop} {e : TypeId} {sz g : Nat} {v : Value} {n cap : Nat} {cur : Array Value} (h : TokOwn M γ w e sz g v n cap cur) (hh : w'.heap[g]? = w.heap[g]?)
    (hf : ∀ o, n * sz ≤ o → γ'.K g o = none) (hm : ∀ id s, γ'.m id ≠ some (g, s)) : TokOwn M γ' w' e sz g v n cap cur :=
  ⟨h.val, h.base, hh.trans h.heap, h.le, h.max, h.size, hf, hm⟩

theorem Conc.look (h : Conc E γ own st a w) (x : Operand) : Rep γ (st.look x) (a.eval x) := by
  cases x with
  | tmp t => exact h.tm t
  | const v => exact rep_ofConst γ v
  | global g => exact .any _
  | func f => exact .fn (.func f) [] [] [] [] rfl rfl (fun i c v hc => by simp at hc) (fun i c v hc => by simp at hc)

theorem Conc.put (h : Conc E γ own st a w) {dst : Option Nat} {v : PV} {u : Value} (hv : Rep γ v u) (hd : ∀ d, dst = some d → d < E.n) : Conc E γ own (st.put dst v) (a.put dst u) w := by
  cases dst with
  | none => exact h
  | some d =>
    refine ⟨h.defers, by simpa [Act.put] using h.size, fun i => ?_, h.world⟩
    by_cases hi : i = d
    · subst hi
      have hlt : i < a.tmps.size := by rw [h.size]; exact hd i rfl
      simpa [St.put, upd, Act.put, hlt] using hv
    · have := h.tm i
      have h2 : Nat.beq i d = false := by rw [Bool.eq_false_iff]; intro e; exact hi (Nat.eq_of_beq_eq_true e)
      simpa [St.put, upd, h2, Act.put, Array.getElem?_setIfInBounds_ne (Ne.symm hi)] using this

theorem Conc.upworld {γ' own' ob' tk'} (h : Conc E γ own st a w) (hg : GhLe γ γ') (hw : ConcW E γ' own' ob' tk' w') : Conc E γ' own' { st with ob := ob', tk := tk' } a w' :=
  ⟨h.defers, h.size, fun i => (h.tm i).mono hg, hw⟩

/-- The order's draw. -/
theorem ConcW.drew (h : ConcW E γ own ob tk w) : ConcW E γ own ob tk w.drew :=
  ⟨h.k0, h.knew, h.ksub, h.below.drew, fun id o ho => let ⟨blk, cs, hb, hok⟩ := h.obj id o ho; ⟨blk, cs, hb, hok.keep (GhLe.refl _) rfl hok.free⟩, h.nob, h.inj,
    fun t e sz ht => by
      obtain ⟨v, hv, hok⟩ := h.tok t e sz ht
      refine ⟨v, hv, ?_⟩
      cases ho : own t with
      | none => rw [ho] at hok; exact hok
      | some g => rw [ho] at hok; obtain ⟨n, cap, cur, hok⟩ := hok; exact ⟨n, cap, cur, hok.keep rfl hok.free hok.noobj⟩,
    h.tinj, h.ntok, h.pas, h.tmine⟩
theorem Conc.drew (h : Conc E γ own st a w) : Conc E γ own st a w.drew := ⟨h.defers, h.size, h.tm, h.world.drew⟩

theorem heap_new (w : World) (o : Obj) : (w.alloc o).heap[w.heap.size]? = some o := heap_alloc_new w o
theorem heap_old (w : World) (o : Obj) {k : Nat} (h : k < w.heap.size) : (w.alloc o).heap[k]? = w.heap[k]? := Below.heap_alloc w o k h

theorem KSub.alloc {K} (h : KSub K w) (o : Obj) : KSub K (w.alloc o) := fun b off v hk => (h b off v hk).block (heap_old w o (h.lt hk))

/-- A new object of the walk's own. -/
theorem ConcW.newObj (h : ConcW E γ own ob tk w) {d : Nat} (hd : ob d = none) (hdn : d < E.n) {o : OB} {cs : Array Value}
    (hr : RepL γ (flat o.elems) cs.toList) (h1 : ∀ u ∈ cs.toList, u.oneCell' = true) (hs : ∀ e ∈ o.elems, e.cells.length = o.sz) :
    ∃ γ', GhLe γ γ' ∧ γ'.m d = some (w.heap.size, o.sz) ∧ ConcW E γ' own (upd ob d (some o)) tk (w.alloc (objOf o.ty cs #[])) := by
  have hmd : γ.m d = none := h.nob d hd
  have hfree : ∀ off, γ.K w.heap.size off = none := fun off => by
    cases hk : γ.K w.heap.size off with
    | none => rfl
    | some v => have := h.ksub.lt hk; omega
  have hle : GhLe γ { γ with m := upd γ.m d (some (w.heap.size, o.sz)) } := ⟨KLe.refl _, fun i x hx => by
    by_cases hi : i = d
    · subst hi; rw [hmd] at hx; cases hx
    · exact (upd_other _ _ _ _ hi).trans hx, fun _ _ h => h⟩
  have hmm : ∀ id b s, (upd γ.m d (some (w.heap.size, o.sz))) id = some (b, s) → (id = d ∧ b = w.heap.size) ∨ (id ≠ d ∧ γ.m id = some (b, s) ∧ b < w.heap.size) := by
    intro id b s hx
    by_cases hi : id = d
    · subst hi; rw [upd_same] at hx; cases hx; exact .inl ⟨rfl, rfl⟩
    · rw [upd_other _ _ _ _ hi] at hx; exact .inr ⟨hi, hx, (h.mlt hx).1⟩
  refine ⟨{ γ with m := upd γ.m d (some (w.heap.size, o.sz)) }, hle, upd_same _ _ _, ?_⟩
  refine ⟨h.k0, h.knew, h.ksub.alloc _, h.below.alloc h.lt _, ?_, ?_, ?_, ?_, h.tinj, h.ntok, ?_, h.tmine⟩
  · intro id o' ho
    by_cases hi : id = d
    · subst hi
      rw [upd_same] at ho
      cases ho
      exact ⟨w.heap.size, cs, upd_same _ _ _, ⟨.inl h.lt, ⟨#[], heap_new w _⟩, hr.mono hle, h1, hs, hfree⟩⟩
    · rw [upd_other _ _ _ _ hi] at ho
      obtain ⟨blk, cs', hb, hok⟩ := h.obj id o' ho
      exact ⟨blk, cs', (upd_other _ _ _ _ hi).trans hb, hok.keep hle (heap_old w _ (h.mlt hb).1) hok.free⟩
  · intro id ho
    by_cases hi : id = d
    · subst hi; rw [upd_same] at ho; cases ho
    · rw [upd_other _ _ _ _ hi] at ho
      exact (upd_other _ _ _ _ hi).trans (h.nob id ho)
  · intro i j b s t hi hj
    rcases hmm i b s hi with ⟨rfl, rfl⟩ | ⟨hi1, hi2, hi3⟩ <;> rcases hmm j _ t hj with ⟨rfl, hb⟩ | ⟨hj1, hj2, hj3⟩
    · rfl
    · omega
    · omega
    · exact h.inj i j b s t hi2 hj2
  · intro t e sz ht
    obtain ⟨v, hv, hok⟩ := h.tok t e sz ht
    refine ⟨v, hv, ?_⟩
    cases ho : own t with
    | none => rw [ho] at hok; exact hok
    | some g =>
      rw [ho] at hok
      obtain ⟨n, cap, cur, hok⟩ := hok
      have hg : g < w.heap.size := (Array.getElem?_eq_some_iff.1 hok.heap).1
      refine ⟨n, cap, cur, hok.keep (heap_old w _ hg) hok.free fun id s hm => ?_⟩
      rcases hmm id g s hm with ⟨_, hb⟩ | ⟨_, hb, _⟩
      · omega
      · exact hok.noobj id s hb
  · intro id b s hid hm
    rcases hmm id b s hm with ⟨rfl, _⟩ | ⟨_, hb, _⟩
    · have := E.small; omega
    · exact h.pas id b s hid hb

/-- K with the cells of a row. -/
def kadd (K : Nat → Nat → Option Value) (g : Nat) (cs : List Value) : Nat → Nat → Option Value := fun b o => if b = g then cs[o]? else K b o

theorem kadd_le {K} {g : Nat} {cs : List Value} (h : ∀ o v, K g o = some v → cs[o]? = some v) : KLe K (kadd K g cs) := fun b o v hv => by
  unfold kadd
  by_cases hb : b = g
  · subst hb; rw [if_pos rfl]; exact h o v hv
  · rw [if_neg hb]; exact hv

/-- A row of cells that is written in one go and never again. -/
theorem ConcW.newImm (h : ConcW E γ own ob tk w) (cs : Array Value) (h1 : ∀ u ∈ cs.toList, u.oneCell' = true) (e : TypeId) :
    ∃ γ', GhLe γ γ' ∧ (∀ o, γ'.K w.heap.size o = cs[o]?) ∧ ConcW E γ' own ob tk (w.alloc (.cells cs e)) := by
  have hfree : ∀ off, γ.K w.heap.size off = none := fun off => by
    cases hk : γ.K w.heap.size off with
    | none => rfl
    | some v => have := h.ksub.lt hk; omega
  have hle : GhLe γ { γ with K := kadd γ.K w.heap.size cs.toList } := ⟨kadd_le (fun o v hv => by rw [hfree] at hv; cases hv), fun _ _ h => h, fun _ _ h => h⟩
  refine ⟨{ γ with K := kadd γ.K w.heap.size cs.toList }, hle, fun o => by simp [kadd], ?_⟩
  have hne : ∀ b o, b ≠ w.heap.size → kadd γ.K w.heap.size cs.toList b o = γ.K b o := fun b o hb => if_neg hb
  refine ⟨h.k0.trans hle.K, ?_, ?_, h.below.alloc h.lt _, ?_, h.nob, h.inj, ?_, h.tinj, h.ntok, h.pas, h.tmine⟩
  · intro b o hk
    by_cases hb : b = w.heap.size
    · subst hb; exact .inl h.lt
    · exact h.knew b o (by rwa [← hne b o hb])
  · intro b o v hk
    by_cases hb : b = w.heap.size
    · subst hb
      simp only [kadd, if_true] at hk
      refine Held.of_cell ?_ (h1 v (List.mem_of_getElem? hk))
      rw [World.cell?_alloc_new]
      simpa using hk
    · exact (h.ksub.alloc _) b o v (by rwa [← hne b o hb])
  · intro id o ho
    obtain ⟨blk, cs', hb, hok⟩ := h.obj id o ho
    have hlt := (h.mlt hb).1
    exact ⟨blk, cs', hb, hok.keep hle (heap_old w _ hlt) fun off => (hne blk off (by omega)).trans (hok.free off)⟩
  · intro t e' sz ht
    obtain ⟨v, hv, hok⟩ := h.tok t e' sz ht
    refine ⟨v, hv, ?_⟩
    cases ho : own t with
    | none => rw [ho] at hok; exact hok
    | some g =>
      rw [ho] at hok
      obtain ⟨n, cap, cur, hok⟩ := hok
      have hg : g < w.heap.size := (Array.getElem?_eq_some_iff.1 hok.heap).1
      exact ⟨n, cap, cur, hok.keep (heap_old w _ hg) (fun o hle => (hne g o (by omega)).trans (hok.free o hle)) hok.noobj⟩

end
end Go.PS

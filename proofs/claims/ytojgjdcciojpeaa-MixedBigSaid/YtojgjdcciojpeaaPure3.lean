/-
  States of the pure layer, and the worlds that they stand for.
-/
import Derived.Test.YtojgjdcciojpeaaPure2
namespace Go.PS
open Go Go.RowKit

/-- A map's object: keys and values, one behind the other. -/
def entriesOf : Nat → List Value → List MapEntry
  | i, k :: v :: r => ⟨k, v, i⟩ :: entriesOf (i + 1) r
  | _, _ => []
def mapObj (vs : List Value) : Obj := .map (entriesOf 0 vs).toArray (entriesOf 0 vs).length

/-- A walk over a text. -/
def iterObj : List Value → Obj
  | [.string s, .int .i64 p] => .stringIter s p.toNat
  | _ => .stringIter ⟨#[]⟩ 0

/-- The object of a row of cells (with spare cells behind it), or of a map. -/
def objOf (ty : TypeId) (cs spare : Array Value) : Obj := bif Nat.beq ty mapTag then mapObj cs.toList else bif Nat.beq ty iterTag then iterObj cs.toList else .cells (cs ++ spare) ty (0, 0)
theorem noTag {ty : TypeId} (h : Nat.ble mapTag ty = false) : Nat.beq ty mapTag = false ∧ Nat.beq ty iterTag = false := by
  have h1 : ¬ mapTag ≤ ty := fun h2 => by rw [Nat.ble_eq_true_of_le h2] at h; cases h
  simp only [mapTag] at h1
  constructor <;> (rw [Bool.eq_false_iff]; intro e; have := Nat.eq_of_beq_eq_true e; simp only [mapTag, iterTag] at this; omega)
theorem objOf_cells {ty : TypeId} (h : Nat.ble mapTag ty = false) (cs spare : Array Value) : objOf ty cs spare = .cells (cs ++ spare) ty (0, 0) := by simp [objOf, (noTag h).1, (noTag h).2]

/-- What is known of a block's cell: its value; or, where the value is a tuple, that the block is a map with these entries. -/
def Held (w : World) (b o : Nat) : Value → Prop
  | .tuple vs => w.heap[b]? = some (mapObj vs.toList)
  | v => w.cell? ⟨b, o, none⟩ = some v
theorem Held.cell {w : World} {b o : Nat} {v : Value} (h : Held w b o v) (h1 : v.oneCell' = true) : w.cell? ⟨b, o, none⟩ = some v := by
  cases v <;> first | exact h | (simp [Value.oneCell'] at h1)
theorem Held.of_cell {w : World} {b o : Nat} {v : Value} (h : w.cell? ⟨b, o, none⟩ = some v) (h1 : v.oneCell' = true) : Held w b o v := by
  cases v <;> first | exact h | (simp [Value.oneCell'] at h1)
theorem Held.of_cells {w : World} {b o : Nat} {v : Value} {cs : Array Value} {e : TypeId} {f : Nat × Nat} (h : Held w b o v) (hb : w.heap[b]? = some (.cells cs e f)) : w.cell? ⟨b, o, none⟩ = some v := by
  cases v with
  | tuple vs => rw [Held, hb] at h; cases h
  | _ => exact h
theorem Held.lt {w : World} {b o : Nat} {v : Value} (h : Held w b o v) : b < w.heap.size := by
  cases v with
  | tuple vs => exact (Array.getElem?_eq_some_iff.1 h).1
  | _ => exact World.block_lt_of_cell? w _ h
theorem Held.block {w w' : World} {b o : Nat} {v : Value} (h : Held w b o v) (hb : w'.heap[b]? = w.heap[b]?) : Held w' b o v := by
  cases v with
  | tuple vs => exact hb.trans h
  | _ => exact (World.cell?_of_block (w := w) hb).trans h

def KSub (K : Nat → Nat → Option Value) (w : World) : Prop := ∀ b o v, K b o = some v → Held w b o v

/-- What was there, and is not given away, is as it was. -/
structure BelowM (B : Nat) (M : Nat → Prop) (w w' : World) : Prop where
  os : w'.os = w.os
  tape : w'.tape = w.tape
  output : w'.output = w.output
  size : w.heap.size ≤ w'.heap.size
  block : ∀ k, k < B → ¬ M k → w'.heap[k]? = w.heap[k]?

theorem BelowM.refl (B M) (w : World) : BelowM B M w w := ⟨rfl, rfl, rfl, Nat.le_refl _, fun _ _ _ => rfl⟩
theorem BelowM.trans {B M} {a b c : World} (h : BelowM B M a b) (k : BelowM B M b c) : BelowM B M a c :=
  ⟨k.os.trans h.os, k.tape.trans h.tape, k.output.trans h.output, Nat.le_trans h.size k.size, fun i hi hm => (k.block i hi hm).trans (h.block i hi hm)⟩
theorem BelowM.drew {B M} {a w : World} (h : BelowM B M a w) : BelowM B M a w.drew := ⟨h.os, h.tape, h.output, h.size, h.block⟩
theorem BelowM.alloc {B M} {a w : World} (h : BelowM B M a w) (hB : B ≤ w.heap.size) (o : Obj) : BelowM B M a (w.alloc o) :=
  h.trans ⟨rfl, rfl, rfl, by simp, fun k hk _ => Below.heap_alloc _ _ _ (by omega)⟩
theorem BelowM.of_below {B B' M} {a b : World} (h : Below B' a b) (hB : B ≤ B') : BelowM B M a b := ⟨h.os, h.tape, h.output, h.size, fun k hk _ => h.block k (by omega)⟩
theorem BelowM.below {B M} {a b : World} (h : BelowM B M a b) (hM : ∀ k, ¬ M k) : Below B a b := ⟨h.os, h.tape, h.output, h.size, fun k hk => h.block k hk (hM k)⟩

/-- An object that a call is given to write, before or after: its number, what it is, its elements. -/
structure PO where
  id : Nat
  ty : TypeId
  sz : Nat
  elems : List D

structure Env where
  n : Nat
  small : n ≤ 3000
  w0 : World
  K0 : Nat → Nat → Option Value
  k0sub : KSub K0 w0
  pas : Nat → Option Nat
  free : ∀ id b, pas id = some b → ∀ o, K0 b o = none
  post : List PO

def Env.B (E : Env) : Nat := E.w0.heap.size
/-- The blocks that a call was given to write. -/
def Env.M (E : Env) (b : Nat) : Prop := ∃ id, E.pas id = some b
/-- The blocks that a call may write: those that it makes, and those that it was given for that. -/
def Env.mine (E : Env) (b : Nat) : Prop := E.B ≤ b ∨ E.M b

theorem Env.free_mine (E : Env) {b : Nat} (h : E.mine b) (o : Nat) : E.K0 b o = none := by
  rcases h with h | ⟨id, h⟩
  · cases hk : E.K0 b o with
    | none => rfl
    | some v => have := (E.k0sub b o v hk).lt; simp only [Env.B] at h; omega
  · exact E.free id b h o

def FullV (v : Value) : Prop := v = .slice none 0 0 ∨ ∃ a n, v = .slice (some a) n n

def flat (l : List PV) : List PV := l.flatMap PV.cells

structure ObjOk (M : Nat → Prop) (γ : Gh) (w : World) (blk : Nat) (o : OB) (cs : Array Value) : Prop where
  base : M blk
  heap : ∃ spare, w.heap[blk]? = some (objOf o.ty cs spare)
  rep : RepL γ (flat o.elems) cs.toList
  one : ∀ u ∈ cs.toList, u.oneCell' = true
  size : ∀ e ∈ o.elems, e.cells.length = o.sz
  free : ∀ off, γ.K blk off = none

structure TokOwn (M : Nat → Prop) (γ : Gh) (w : World) (e : TypeId) (sz g : Nat) (v : Value) (n cap : Nat) (cur : Array Value) : Prop where
  val : v = .slice (some ⟨g, 0, none⟩) n cap
  base : M g
  heap : w.heap[g]? = some (.cells cur e (0, 0))
  le : n ≤ cap
  max : cap ≤ maxLen
  size : cur.size = cap * sz
  free : ∀ o, n * sz ≤ o → γ.K g o = none
  noobj : ∀ id s, γ.m id ≠ some (g, s)

/-- A token's label is the size of an element, or, where the row is surely the walk's own, that and a million. -/
def rsz (s : Nat) : Nat := s % 1000000
theorem rsz_lt {s : Nat} (h : s < 1000000) : rsz s = s := Nat.mod_eq_of_lt h
theorem rsz_mine {s : Nat} (h : s < 1000000) : rsz (s + 1000000) = s := by unfold rsz; omega

def TokOk (M : Nat → Prop) (γ : Gh) (w : World) (e : TypeId) (sz : Nat) (v : Value) : Option Nat → Prop
  | none => FullV v
  | some g => ∃ n cap cur, TokOwn M γ w e (rsz sz) g v n cap cur

structure ConcW (E : Env) (γ : Gh) (own : Nat → Option Nat) (ob : Nat → Option OB) (tk : Nat → TS) (w : World) : Prop where
  k0 : KLe E.K0 γ.K
  knew : ∀ b o, γ.K b o ≠ E.K0 b o → E.mine b
  ksub : KSub γ.K w
  below : BelowM E.B E.M E.w0 w
  obj : ∀ id o, ob id = some o → ∃ blk cs, γ.m id = some (blk, o.sz) ∧ ObjOk E.mine γ w blk o cs
  nob : ∀ id, ob id = none → γ.m id = none
  inj : ∀ i j b s t, γ.m i = some (b, s) → γ.m j = some (b, t) → i = j
  tok : ∀ t e sz, tk t = .live e sz → ∃ v, γ.τ t = some v ∧ TokOk E.mine γ w e sz v (own t)
  tinj : ∀ t t' e e' s s' g, tk t = .live e s → tk t' = .live e' s' → own t = some g → own t' = some g → t = t'
  ntok : ∀ t, tk t = .never → γ.τ t = none
  pas : ∀ id b s, 3000 ≤ id → γ.m id = some (b, s) → E.pas id = some b
  tmine : ∀ t e sz v, 1000000 ≤ sz → tk t = .live e sz → γ.τ t = some v → own t = none → ∃ a, v = .slice a 0 0

structure Conc (E : Env) (γ : Gh) (own : Nat → Option Nat) (st : St) (a : Act) (w : World) : Prop where
  defers : a.defers = []
  size : a.tmps.size = E.n
  tm : ∀ i, Rep γ (st.tm i) (a.tmps.getD i undef)
  world : ConcW E γ own st.ob st.tk w

section
variable {E : Env} {γ γ' : Gh} {own : Nat → Option Nat} {st : St} {a : Act} {w w' : World} {ob : Nat → Option OB} {tk : Nat → TS}

theorem ObjOk.lt {M : Nat → Prop} {blk : Nat} {o : OB} {cs : Array Value} (h : ObjOk M γ w blk o cs) : blk < w.heap.size := by
  obtain ⟨spare, hs⟩ := h.heap
  exact (Array.getElem?_eq_some_iff.1 hs).1

theorem ConcW.lt (h : ConcW E γ own ob tk w) : E.B ≤ w.heap.size := h.below.size

theorem ConcW.mlt (h : ConcW E γ own ob tk w) {id b s} (hm : γ.m id = some (b, s)) : b < w.heap.size ∧ E.mine b := by
  cases ho : ob id with
  | none => rw [h.nob id ho] at hm; cases hm
  | some o =>
    obtain ⟨blk, cs, hb, hok⟩ := h.obj id o ho
    rw [hm] at hb
    cases hb
    exact ⟨hok.lt, hok.base⟩

theorem KSub.lt {K} (h : KSub K w) {b o v} (hk : K b o = some v) : b < w.heap.size := (h b o v hk).lt

theorem ObjOk.keep {M : Nat → Prop} {blk : Nat} {o : OB} {cs : Array Value} (h : ObjOk M γ w blk o cs) (hg : GhLe γ γ') (hh : w'.heap[blk]? = w.heap[blk]?) (hf : ∀ off, γ'.K blk off = none) :
    ObjOk M γ' w' blk o cs := ⟨h.base, h.heap.imp fun _ hs => hh.trans hs, h.rep.mono hg, h.one, h.size, hf⟩

theorem TokOwn.keep {M : Nat → Prop} {e : TypeId} {sz g : Nat} {v : Value} {n cap : Nat} {cur : Array Value} (h : TokOwn M γ w e sz g v n cap cur) (hh : w'.heap[g]? = w.heap[g]?)
    (hf : ∀ o, n * sz ≤ o → γ'.K g o = none) (hm : ∀ id s, γ'.m id ≠ some (g, s)) : TokOwn M γ' w' e sz g v n cap cur :=
  ⟨h.val, h.base, hh.trans h.heap, h.le, h.max, h.size, hf, hm⟩

theorem Conc.look (h : Conc E γ own st a w) (x : Operand) : Rep γ (st.look x) (a.eval x) := by
  cases x with
  | tmp t => exact h.tm t
  | const v => exact rep_ofConst γ v
  | global g => exact .any _
  | func f => exact .fn (.func f) [] [] [] [] rfl rfl (fun i c v hc => by simp at hc) (fun i c v hc => by simp at hc)

theorem Conc.put (h : Conc E γ own st a w) {dst : Option Nat} {v : PV} {u : Value} (hv : Rep γ v u) (hd : ∀ d, dst = some d → d < E.n) : Conc E γ own (st.put dst v) (a.put dst u) w := by
  cases dst with
  | none => exact h
  | some d =>
    refine ⟨h.defers, by simpa [Act.put] using h.size, fun i => ?_, h.world⟩
    by_cases hi : i = d
    · subst hi
      have hlt : i < a.tmps.size := by rw [h.size]; exact hd i rfl
      simpa [St.put, upd, Act.put, hlt] using hv
    · have := h.tm i
      have h2 : Nat.beq i d = false := by rw [Bool.eq_false_iff]; intro e; exact hi (Nat.eq_of_beq_eq_true e)
      simpa [St.put, upd, h2, Act.put, Array.getElem?_setIfInBounds_ne (Ne.symm hi)] using this

theorem Conc.upworld {γ' own' ob' tk'} (h : Conc E γ own st a w) (hg : GhLe γ γ') (hw : ConcW E γ' own' ob' tk' w') : Conc E γ' own' { st with ob := ob', tk := tk' } a w' :=
  ⟨h.defers, h.size, fun i => (h.tm i).mono hg, hw⟩

/-- The order's draw. -/
theorem ConcW.drew (h : ConcW E γ own ob tk w) : ConcW E γ own ob tk w.drew :=
  ⟨h.k0, h.knew, h.ksub, h.below.drew, fun id o ho => let ⟨blk, cs, hb, hok⟩ := h.obj id o ho; ⟨blk, cs, hb, hok.keep (GhLe.refl _) rfl hok.free⟩, h.nob, h.inj,
    fun t e sz ht => by
      obtain ⟨v, hv, hok⟩ := h.tok t e sz ht
      refine ⟨v, hv, ?_⟩
      cases ho : own t with
      | none => rw [ho] at hok; exact hok
      | some g => rw [ho] at hok; obtain ⟨n, cap, cur, hok⟩ := hok; exact ⟨n, cap, cur, hok.keep rfl hok.free hok.noobj⟩,
    h.tinj, h.ntok, h.pas, h.tmine⟩
theorem Conc.drew (h : Conc E γ own st a w) : Conc E γ own st a w.drew := ⟨h.defers, h.size, h.tm, h.world.drew⟩

theorem heap_new (w : World) (o : Obj) : (w.alloc o).heap[w.heap.size]? = some o := heap_alloc_new w o
theorem heap_old (w : World) (o : Obj) {k : Nat} (h : k < w.heap.size) : (w.alloc o).heap[k]? = w.heap[k]? := Below.heap_alloc w o k h

theorem KSub.alloc {K} (h : KSub K w) (o : Obj) : KSub K (w.alloc o) := fun b off v hk => (h b off v hk).block (heap_old w o (h.lt hk))

/-- A new object of the walk's own. -/
theorem ConcW.newObj (h : ConcW E γ own ob tk w) {d : Nat} (hd : ob d = none) (hdn : d < E.n) {o : OB} {cs : Array Value}
    (hr : RepL γ (flat o.elems) cs.toList) (h1 : ∀ u ∈ cs.toList, u.oneCell' = true) (hs : ∀ e ∈ o.elems, e.cells.length = o.sz) :
    ∃ γ', GhLe γ γ' ∧ γ'.m d = some (w.heap.size, o.sz) ∧ ConcW E γ' own (upd ob d (some o)) tk (w.alloc (objOf o.ty cs #[])) := by
  have hmd : γ.m d = none := h.nob d hd
  have hfree : ∀ off, γ.K w.heap.size off = none := fun off => by
    cases hk : γ.K w.heap.size off with
    | none => rfl
    | some v => have := h.ksub.lt hk; omega
  have hle : GhLe γ { γ with m := upd γ.m d (some (w.heap.size, o.sz)) } := ⟨KLe.refl _, fun i x hx => by
    by_cases hi : i = d
    · subst hi; rw [hmd] at hx; cases hx
    · exact (upd_other _ _ _ _ hi).trans hx, fun _ _ h => h⟩
  have hmm : ∀ id b s, (upd γ.m d (some (w.heap.size, o.sz))) id = some (b, s) → (id = d ∧ b = w.heap.size) ∨ (id ≠ d ∧ γ.m id = some (b, s) ∧ b < w.heap.size) := by
    intro id b s hx
    by_cases hi : id = d
    · subst hi; rw [upd_same] at hx; cases hx; exact .inl ⟨rfl, rfl⟩
    · rw [upd_other _ _ _ _ hi] at hx; exact .inr ⟨hi, hx, (h.mlt hx).1⟩
  refine ⟨{ γ with m := upd γ.m d (some (w.heap.size, o.sz)) }, hle, upd_same _ _ _, ?_⟩
  refine ⟨h.k0, h.knew, h.ksub.alloc _, h.below.alloc h.lt _, ?_, ?_, ?_, ?_, h.tinj, h.ntok, ?_, h.tmine⟩
  · intro id o' ho
    by_cases hi : id = d
    · subst hi
      rw [upd_same] at ho
      cases ho
      exact ⟨w.heap.size, cs, upd_same _ _ _, ⟨.inl h.lt, ⟨#[], heap_new w _⟩, hr.mono hle, h1, hs, hfree⟩⟩
    · rw [upd_other _ _ _ _ hi] at ho
      obtain ⟨blk, cs', hb, hok⟩ := h.obj id o' ho
      exact ⟨blk, cs', (upd_other _ _ _ _ hi).trans hb, hok.keep hle (heap_old w _ (h.mlt hb).1) hok.free⟩
  · intro id ho
    by_cases hi : id = d
    · subst hi; rw [upd_same] at ho; cases ho
    · rw [upd_other _ _ _ _ hi] at ho
      exact (upd_other _ _ _ _ hi).trans (h.nob id ho)
  · intro i j b s t hi hj
    rcases hmm i b s hi with ⟨rfl, rfl⟩ | ⟨hi1, hi2, hi3⟩ <;> rcases hmm j _ t hj with ⟨rfl, hb⟩ | ⟨hj1, hj2, hj3⟩
    · rfl
    · omega
    · omega
    · exact h.inj i j b s t hi2 hj2
  · intro t e sz ht
    obtain ⟨v, hv, hok⟩ := h.tok t e sz ht
    refine ⟨v, hv, ?_⟩
    cases ho : own t with
    | none => rw [ho] at hok; exact hok
    | some g =>
      rw [ho] at hok
      obtain ⟨n, cap, cur, hok⟩ := hok
      have hg : g < w.heap.size := (Array.getElem?_eq_some_iff.1 hok.heap).1
      refine ⟨n, cap, cur, hok.keep (heap_old w _ hg) hok.free fun id s hm => ?_⟩
      rcases hmm id g s hm with ⟨_, hb⟩ | ⟨_, hb, _⟩
      · omega
      · exact hok.noobj id s hb
  · intro id b s hid hm
    rcases hmm id b s hm with ⟨rfl, _⟩ | ⟨_, hb, _⟩
    · have := E.small; omega
    · exact h.pas id b s hid hb

/-- K with the cells of a row. -/
def kadd (K : Nat → Nat → Option Value) (g : Nat) (cs : List Value) : Nat → Nat → Option Value := fun b o => if b = g then cs[o]? else K b o

theorem kadd_le {K} {g : Nat} {cs : List Value} (h : ∀ o v, K g o = some v → cs[o]? = some v) : KLe K (kadd K g cs) := fun b o v hv => by
  unfold kadd
  by_cases hb : b = g
  · subst hb; rw [if_pos rfl]; exact h o v hv
  · rw [if_neg hb]; exact hv

/-- A row of cells that is written in one go and never again. -/
theorem ConcW.newImm (h : ConcW E γ own ob tk w) (cs : Array Value) (h1 : ∀ u ∈ cs.toList, u.oneCell' = true) (e : TypeId) :
    ∃ γ', GhLe γ γ' ∧ (∀ o, γ'.K w.heap.size o = cs[o]?) ∧ ConcW E γ' own ob tk (w.alloc (.cells cs e)) := by
  have hfree : ∀ off, γ.K w.heap.size off = none := fun off => by
    cases hk : γ.K w.heap.size off with
    | none => rfl
    | some v => have := h.ksub.lt hk; omega
  have hle : GhLe γ { γ with K := kadd γ.K w.heap.size cs.toList } := ⟨kadd_le (fun o v hv => by rw [hfree] at hv; cases hv), fun _ _ h => h, fun _ _ h => h⟩
  refine ⟨{ γ with K := kadd γ.K w.heap.size cs.toList }, hle, fun o => by simp [kadd], ?_⟩
  have hne : ∀ b o, b ≠ w.heap.size → kadd γ.K w.heap.size cs.toList b o = γ.K b o := fun b o hb => if_neg hb
  refine ⟨h.k0.trans hle.K, ?_, ?_, h.below.alloc h.lt _, ?_, h.nob, h.inj, ?_, h.tinj, h.ntok, h.pas, h.tmine⟩
  · intro b o hk
    by_cases hb : b = w.heap.size
    · subst hb; exact .inl h.lt
    · exact h.knew b o (by rwa [← hne b o hb])
  · intro b o v hk
    by_cases hb : b = w.heap.size
    · subst hb
      simp only [kadd, if_true] at hk
      refine Held.of_cell ?_ (h1 v (List.mem_of_getElem? hk))
      rw [World.cell?_alloc_new]
      simpa using hk
    · exact (h.ksub.alloc _) b o v (by rwa [← hne b o hb])
  · intro id o ho
    obtain ⟨blk, cs', hb, hok⟩ := h.obj id o ho
    have hlt := (h.mlt hb).1
    exact ⟨blk, cs', hb, hok.keep hle (heap_old w _ hlt) fun off => (hne blk off (by omega)).trans (hok.free off)⟩
  · intro t e' sz ht
    obtain ⟨v, hv, hok⟩ := h.tok t e' sz ht
    refine ⟨v, hv, ?_⟩
    cases ho : own t with
    | none => rw [ho] at hok; exact hok
    | some g =>
      rw [ho] at hok
      obtain ⟨n, cap, cur, hok⟩ := hok
      have hg : g < w.heap.size := (Array.getElem?_eq_some_iff.1 hok.heap).1
      exact ⟨n, cap, cur, hok.keep (heap_old w _ hg) (fun o hle => (hne g o (by omega)).trans (hok.free o hle)) hok.noobj⟩

end
end Go.PS

/-
  States of the pure layer, and the worlds that they stand for.
-/
import Derived.Test.YtobdkpadpdideaaPure2
namespace Go.PS
open Go Go.RowKit

structure Env where
  n : Nat
  w0 : World
  K0 : Nat → Nat → Option Value

def Env.B (E : Env) : Nat := E.w0.heap.size

def KSub (K : Nat → Nat → Option Value) (w : World) : Prop := ∀ b o v, K b o = some v → w.cell? ⟨b, o, none⟩ = some v

def FullV (v : Value) : Prop := v = .slice none 0 0 ∨ ∃ a n, v = .slice (some a) n n

def flat (l : List PV) : List PV := l.flatMap PV.cells

structure ObjOk (B : Nat) (γ : Gh) (w : World) (blk : Nat) (o : OB) (cs : Array Value) : Prop where
  base : B ≤ blk
  heap : w.heap[blk]? = some (.cells cs o.ty (0, 0))
  rep : RepL γ (flat o.elems) cs.toList
  one : ∀ u ∈ cs.toList, u.oneCell' = true
  size : ∀ e ∈ o.elems, e.cells.length = o.sz
  free : ∀ off, γ.K blk off = none

structure TokOwn (B : Nat) (γ : Gh) (w : World) (e : TypeId) (sz g : Nat) (v : Value) (n cap : Nat) (cur : Array Value) : Prop where
  val : v = .slice (some ⟨g, 0, none⟩) n cap
  base : B ≤ g
  heap : w.heap[g]? = some (.cells cur e (0, 0))
  le : n ≤ cap
  max : cap ≤ maxLen
  size : cur.size = cap * sz
  free : ∀ o, n * sz ≤ o → γ.K g o = none
  noobj : ∀ id s, γ.m id ≠ some (g, s)

def TokOk (B : Nat) (γ : Gh) (w : World) (e : TypeId) (sz : Nat) (v : Value) : Option Nat → Prop
  | none => FullV v
  | some g => ∃ n cap cur, TokOwn B γ w e sz g v n cap cur

structure ConcW (E : Env) (γ : Gh) (own : Nat → Option Nat) (ob : Nat → Option OB) (tk : Nat → TS) (w : World) : Prop where
  k0 : KLe E.K0 γ.K
  knew : ∀ b o, γ.K b o ≠ E.K0 b o → E.B ≤ b
  ksub : KSub γ.K w
  below : Below E.B E.w0 w
  obj : ∀ id o, ob id = some o → ∃ blk cs, γ.m id = some (blk, o.sz) ∧ ObjOk E.B γ w blk o cs
  nob : ∀ id, ob id = none → γ.m id = none
  inj : ∀ i j b s t, γ.m i = some (b, s) → γ.m j = some (b, t) → i = j
  tok : ∀ t e sz, tk t = .live e sz → ∃ v, γ.τ t = some v ∧ TokOk E.B γ w e sz v (own t)
  tinj : ∀ t t' e e' s s' g, tk t = .live e s → tk t' = .live e' s' → own t = some g → own t' = some g → t = t'
  ntok : ∀ t, tk t = .never → γ.τ t = none

structure Conc (E : Env) (γ : Gh) (own : Nat → Option Nat) (st : St) (a : Act) (w : World) : Prop where
  defers : a.defers = []
  size : a.tmps.size = E.n
  tm : ∀ i, Rep γ (st.tm i) (a.tmps.getD i undef)
  world : ConcW E γ own st.ob st.tk w

section
variable {E : Env} {γ γ' : Gh} {own : Nat → Option Nat} {st : St} {a : Act} {w w' : World} {ob : Nat → Option OB} {tk : Nat → TS}

theorem ConcW.lt (h : ConcW E γ own ob tk w) : E.B ≤ w.heap.size := h.below.size

theorem ConcW.mlt (h : ConcW E γ own ob tk w) {id b s} (hm : γ.m id = some (b, s)) : b < w.heap.size ∧ E.B ≤ b := by
  cases ho : ob id with
  | none => rw [h.nob id ho] at hm; cases hm
  | some o =>
    obtain ⟨blk, cs, hb, hok⟩ := h.obj id o ho
    rw [hm] at hb
    cases hb
    exact ⟨(Array.getElem?_eq_some_iff.1 hok.heap).1, hok.base⟩

theorem KSub.lt {K} (h : KSub K w) {b o v} (hk : K b o = some v) : b < w.heap.size := World.block_lt_of_cell? w _ (h b o v hk)

theorem ObjOk.keep {B blk : Nat} {o : OB} {cs : Array Value} (h : ObjOk B γ w blk o cs) (hg : GhLe γ γ') (hh : w'.heap[blk]? = w.heap[blk]?) (hf : ∀ off, γ'.K blk off = none) :
    ObjOk B γ' w' blk o cs := ⟨h.base, hh.trans h.heap, h.rep.mono hg, h.one, h.size, hf⟩

theorem TokOwn.keep {B : Nat} {e : TypeId} {sz g : Nat} {v : Value} {n cap : Nat} {cur : Array Value} (h : TokOwn B γ w e sz g v n cap cur) (hh : w'.heap[g]? = w.heap[g]?)
    (hf : ∀ o, n * sz ≤ o → γ'.K g o = none) (hm : ∀ id s, γ'.m id ≠ some (g, s)) : TokOwn B γ' w' e sz g v n cap cur :=
  ⟨h.val, h.base, hh.trans h.heap, h.le, h.max, h.size, hf, hm⟩

theorem Conc.look (h : Conc E γ own st a w) (x : Operand) : Rep γ (st.look x) (a.eval x) := by
  cases x with
  | tmp t => exact h.tm t
  | const v => exact rep_ofConst γ v
  | global g => exact .any _
  | func f => exact .fn (.func f) [] [] [] [] rfl rfl (fun i c v hc => by simp at hc) (fun i c v hc => by simp at hc)

theorem Conc.put (h : Conc E γ own st a w) {dst : Option Nat} {v : PV} {u : Value} (hv : Rep γ v u) (hd : ∀ d, dst = some d → d < E.n) : Conc E γ own (st.put dst v) (a.put dst u) w := by
  cases dst with
  | none => exact h
  | some d =>
    refine ⟨h.defers, by simpa [Act.put] using h.size, fun i => ?_, h.world⟩
    by_cases hi : i = d
    · subst hi
      have hlt : i < a.tmps.size := by rw [h.size]; exact hd i rfl
      simpa [St.put, upd, Act.put, hlt] using hv
    · have := h.tm i
      have h2 : Nat.beq i d = false := by rw [Bool.eq_false_iff]; intro e; exact hi (Nat.eq_of_beq_eq_true e)
      simpa [St.put, upd, h2, Act.put, Array.getElem?_setIfInBounds_ne (Ne.symm hi)] using this

theorem Conc.upworld {γ' own' ob' tk'} (h : Conc E γ own st a w) (hg : GhLe γ γ') (hw : ConcW E γ' own' ob' tk' w') : Conc E γ' own' { st with ob := ob', tk := tk' } a w' :=
  ⟨h.defers, h.size, fun i => (h.tm i).mono hg, hw⟩

/-- The order's draw. -/
theorem ConcW.drew (h : ConcW E γ own ob tk w) : ConcW E γ own ob tk w.drew :=
  ⟨h.k0, h.knew, h.ksub, h.below.drew, fun id o ho => let ⟨blk, cs, hb, hok⟩ := h.obj id o ho; ⟨blk, cs, hb, hok.keep (GhLe.refl _) rfl hok.free⟩, h.nob, h.inj,
    fun t e sz ht => by
      obtain ⟨v, hv, hok⟩ := h.tok t e sz ht
      refine ⟨v, hv, ?_⟩
      cases ho : own t with
      | none => rw [ho] at hok; exact hok
      | some g => rw [ho] at hok; obtain ⟨n, cap, cur, hok⟩ := hok; exact ⟨n, cap, cur, hok.keep rfl hok.free hok.noobj⟩,
    h.tinj, h.ntok⟩
theorem Conc.drew (h : Conc E γ own st a w) : Conc E γ own st a w.drew := ⟨h.defers, h.size, h.tm, h.world.drew⟩

theorem heap_new (w : World) (o : Obj) : (w.alloc o).heap[w.heap.size]? = some o := heap_alloc_new w o
theorem heap_old (w : World) (o : Obj) {k : Nat} (h : k < w.heap.size) : (w.alloc o).heap[k]? = w.heap[k]? := Below.heap_alloc w o k h

theorem KSub.alloc {K} (h : KSub K w) (o : Obj) : KSub K (w.alloc o) := fun b off v hk => by
  rw [World.cell?_alloc_lt w o _ (h.lt hk)]; exact h b off v hk

/-- A new object of the walk's own. -/
theorem ConcW.newObj (h : ConcW E γ own ob tk w) {d : Nat} (hd : ob d = none) {o : OB} {cs : Array Value}
    (hr : RepL γ (flat o.elems) cs.toList) (h1 : ∀ u ∈ cs.toList, u.oneCell' = true) (hs : ∀ e ∈ o.elems, e.cells.length = o.sz) :
    ∃ γ', GhLe γ γ' ∧ γ'.m d = some (w.heap.size, o.sz) ∧ ConcW E γ' own (upd ob d (some o)) tk (w.alloc (.cells cs o.ty)) := by
  have hmd : γ.m d = none := h.nob d hd
  have hfree : ∀ off, γ.K w.heap.size off = none := fun off => by
    cases hk : γ.K w.heap.size off with
    | none => rfl
    | some v => have := h.ksub.lt hk; omega
  have hle : GhLe γ { γ with m := upd γ.m d (some (w.heap.size, o.sz)) } := ⟨KLe.refl _, fun i x hx => by
    by_cases hi : i = d
    · subst hi; rw [hmd] at hx; cases hx
    · exact (upd_other _ _ _ _ hi).trans hx, fun _ _ h => h⟩
  have hmm : ∀ id b s, (upd γ.m d (some (w.heap.size, o.sz))) id = some (b, s) → (id = d ∧ b = w.heap.size) ∨ (id ≠ d ∧ γ.m id = some (b, s) ∧ b < w.heap.size) := by
    intro id b s hx
    by_cases hi : id = d
    · subst hi; rw [upd_same] at hx; cases hx; exact .inl ⟨rfl, rfl⟩
    · rw [upd_other _ _ _ _ hi] at hx; exact .inr ⟨hi, hx, (h.mlt hx).1⟩
  refine ⟨{ γ with m := upd γ.m d (some (w.heap.size, o.sz)) }, hle, upd_same _ _ _, ?_⟩
  refine ⟨h.k0, h.knew, h.ksub.alloc _, h.below.alloc h.lt _, ?_, ?_, ?_, ?_, h.tinj, h.ntok⟩
  · intro id o' ho
    by_cases hi : id = d
    · subst hi
      rw [upd_same] at ho
      cases ho
      exact ⟨w.heap.size, cs, upd_same _ _ _, ⟨h.lt, heap_new w _, hr.mono hle, h1, hs, hfree⟩⟩
    · rw [upd_other _ _ _ _ hi] at ho
      obtain ⟨blk, cs', hb, hok⟩ := h.obj id o' ho
      exact ⟨blk, cs', (upd_other _ _ _ _ hi).trans hb, hok.keep hle (heap_old w _ (h.mlt hb).1) hok.free⟩
  · intro id ho
    by_cases hi : id = d
    · subst hi; rw [upd_same] at ho; cases ho
    · rw [upd_other _ _ _ _ hi] at ho
      exact (upd_other _ _ _ _ hi).trans (h.nob id ho)
  · intro i j b s t hi hj
    rcases hmm i b s hi with ⟨rfl, rfl⟩ | ⟨hi1, hi2, hi3⟩ <;> rcases hmm j _ t hj with ⟨rfl, hb⟩ | ⟨hj1, hj2, hj3⟩
    · rfl
    · omega
    · omega
    · exact h.inj i j b s t hi2 hj2
  · intro t e sz ht
    obtain ⟨v, hv, hok⟩ := h.tok t e sz ht
    refine ⟨v, hv, ?_⟩
    cases ho : own t with
    | none => rw [ho] at hok; exact hok
    | some g =>
      rw [ho] at hok
      obtain ⟨n, cap, cur, hok⟩ := hok
      have hg : g < w.heap.size := (Array.getElem?_eq_some_iff.1 hok.heap).1
      refine ⟨n, cap, cur, hok.keep (heap_old w _ hg) hok.free fun id s hm => ?_⟩
      rcases hmm id g s hm with ⟨_, hb⟩ | ⟨_, hb, _⟩
      · omega
      · exact hok.noobj id s hb

/-- K with the cells of a row. -/
def kadd (K : Nat → Nat → Option Value) (g : Nat) (cs : List Value) : Nat → Nat → Option Value := fun b o => if b = g then cs[o]? else K b o

theorem kadd_le {K} {g : Nat} {cs : List Value} (h : ∀ o v, K g o = some v → cs[o]? = some v) : KLe K (kadd K g cs) := fun b o v hv => by
  unfold kadd
  by_cases hb : b = g
  · subst hb; rw [if_pos rfl]; exact h o v hv
  · rw [if_neg hb]; exact hv

/-- A row of cells that is written in one go and never again. -/
theorem ConcW.newImm (h : ConcW E γ own ob tk w) (cs : Array Value) (e : TypeId) :
    ∃ γ', GhLe γ γ' ∧ (∀ o, γ'.K w.heap.size o = cs[o]?) ∧ ConcW E γ' own ob tk (w.alloc (.cells cs e)) := by
  have hfree : ∀ off, γ.K w.heap.size off = none := fun off => by
    cases hk : γ.K w.heap.size off with
    | none => rfl
    | some v => have := h.ksub.lt hk; omega
  have hle : GhLe γ { γ with K := kadd γ.K w.heap.size cs.toList } := ⟨kadd_le (fun o v hv => by rw [hfree] at hv; cases hv), fun _ _ h => h, fun _ _ h => h⟩
  refine ⟨{ γ with K := kadd γ.K w.heap.size cs.toList }, hle, fun o => by simp [kadd], ?_⟩
  have hne : ∀ b o, b ≠ w.heap.size → kadd γ.K w.heap.size cs.toList b o = γ.K b o := fun b o hb => if_neg hb
  refine ⟨h.k0.trans hle.K, ?_, ?_, h.below.alloc h.lt _, ?_, h.nob, h.inj, ?_, h.tinj, h.ntok⟩
  · intro b o hk
    by_cases hb : b = w.heap.size
    · subst hb; exact h.lt
    · exact h.knew b o (by rwa [← hne b o hb])
  · intro b o v hk
    by_cases hb : b = w.heap.size
    · subst hb
      simp only [kadd, if_true] at hk
      rw [World.cell?_alloc_new]
      simpa using hk
    · exact (h.ksub.alloc _) b o v (by rwa [← hne b o hb])
  · intro id o ho
    obtain ⟨blk, cs', hb, hok⟩ := h.obj id o ho
    have hlt := (h.mlt hb).1
    exact ⟨blk, cs', hb, hok.keep hle (heap_old w _ hlt) fun off => (hne blk off (by omega)).trans (hok.free off)⟩
  · intro t e' sz ht
    obtain ⟨v, hv, hok⟩ := h.tok t e' sz ht
    refine ⟨v, hv, ?_⟩
    cases ho : own t with
    | none => rw [ho] at hok; exact hok
    | some g =>
      rw [ho] at hok
      obtain ⟨n, cap, cur, hok⟩ := hok
      have hg : g < w.heap.size := (Array.getElem?_eq_some_iff.1 hok.heap).1
      exact ⟨n, cap, cur, hok.keep (heap_old w _ hg) (fun o hle => (hne g o (by omega)).trans (hok.free o hle)) hok.noobj⟩

end
end Go.PS

/-
  A part of the walks of this seat: each theorem says what a function of the program gives. No condition beyond its own premises.
-/
import Derived.Test.YtojgjdcciojpeaaGreatD4
namespace Go.PS
open Go Go.RowKit

/-- A table with numbers for keys. -/
def lk {α : Type} (dflt : α) : List (Nat × α) → Nat → α
  | [], _ => dflt
  | (i, v) :: l, j => if j = i then v else lk dflt l j

def ins {α : Type} : List (Nat × α) → Nat → α → List (Nat × α)
  | [], j, v => [(j, v)]
  | (i, u) :: l, j, v => if j < i then (j, v) :: (i, u) :: l else if j = i then (j, v) :: l else (i, u) :: ins l j v

theorem lk_ins {α : Type} (d : α) : ∀ (l : List (Nat × α)) (j : Nat) (v : α) (k : Nat), lk d (ins l j v) k = if k = j then v else lk d l k
  | [], j, v, k => by simp [ins, lk]
  | (i, u) :: l, j, v, k => by
    simp only [ins]
    split
    · simp [lk]
    · split
      · rename_i h1 h2
        subst h2
        simp only [lk]
        split <;> rfl
      · simp only [lk, lk_ins d l j v k]
        split
        · split
          · omega
          · rfl
        · rfl

theorem lk_ins_fun {α : Type} (d : α) (l : List (Nat × α)) (j : Nat) (v : α) : lk d (ins l j v) = upd (lk d l) j v := by
  funext k
  rw [lk_ins]
  by_cases h : k = j
  · subst h; simp [upd_same]
  · rw [if_neg h, upd_other _ _ _ _ h]

structure SL where
  tm : List (Nat × PV)
  ob : List (Nat × Option OB)
  tk : List (Nat × TS)

def SL.of (s : SL) : St := ⟨lk .any s.tm, lk none s.ob, lk .never s.tk⟩

def SL.look (s : SL) : Operand → PV
  | .tmp t => lk .any s.tm t
  | .const v => ofConst v
  | .global _ => .any
  | .func f => .fn (.func f) [] []

theorem SL.of_look (s : SL) : s.of.look = s.look := by funext x; cases x <;> rfl

def SL.put (s : SL) (dst : Option Nat) (v : PV) : SL := match dst with
  | some d => ⟨ins s.tm d v, s.ob, s.tk⟩
  | none => s

def SL.eff (s : SL) : HEff → SL
  | .none => s
  | .obj id o => ⟨s.tm, ins s.ob id (some o), s.tk⟩
  | .tok none g e size => ⟨s.tm, s.ob, ins s.tk g (.live e size)⟩
  | .tok (some k) g e size => ⟨s.tm, s.ob, ins (ins s.tk k .dead) g (.live e size)⟩

theorem SL.of_put (s : SL) (dst : Option Nat) (v : PV) : (s.put dst v).of = s.of.put dst v := by
  cases dst with
  | none => rfl
  | some d => simp [SL.put, SL.of, St.put, lk_ins_fun]

theorem SL.of_eff (s : SL) (e : HEff) : (s.eff e).of = s.of.eff e := by
  cases e with
  | none => rfl
  | obj id o => simp [SL.eff, SL.of, St.eff, HEff.obA, HEff.tkA, lk_ins_fun]
  | tok k g e size => cases k <;> simp [SL.eff, SL.of, St.eff, HEff.obA, HEff.tkA, tkAfter, lk_ins_fun]

/-- What data may be read as: an empty slice as an empty slice of any elements. -/
def DLe (x y : D) : Prop := ∀ K v, RepD K x v → RepD K y v
def DLeL (xs ys : List D) : Prop := ∀ K vs, RepDL K xs vs → RepDL K ys vs
theorem DLe.refl (x : D) : DLe x x := fun _ _ h => h
theorem DLe.nil (a b : Nat) : DLe (.sl a []) (.sl b []) := fun K v h => by
  obtain ⟨ad, c, rfl, hc, _⟩ := h.sl_flat
  exact .sl_nil _ _ _
theorem DLe.of_eq {x y : D} (h : x = y) : DLe x y := h ▸ DLe.refl x
theorem DLeL.nil : DLeL [] [] := fun _ _ h => h
theorem DLeL.refl (xs : List D) : DLeL xs xs := fun _ _ h => h
theorem DLeL.of_eq {x y : List D} (h : x = y) : DLeL x y := h ▸ DLeL.refl x
theorem DLeL.cons {x y : D} {xs ys : List D} (h : DLe x y) (hs : DLeL xs ys) : DLeL (x :: xs) (y :: ys) := fun K vs hv => by
  obtain ⟨v, vs', rfl, h1, h2⟩ := hv.cons_inv
  exact .cons (h K v h1) (hs K vs' h2)
theorem DLe.agg {xs ys : List D} (h : DLeL xs ys) : DLe (.agg xs) (.agg ys) := fun K v hv => by
  obtain ⟨vs, rfl, hl, h1⟩ := RepD.agg_iff.1 hv
  exact RepD.agg_iff.2 ⟨vs, rfl, h K vs hl, h1⟩
theorem DLe.tup {xs ys : List D} (h : DLeL xs ys) : DLe (.tup xs) (.tup ys) := fun K v hv => by
  obtain ⟨vs, rfl, hl⟩ := RepD.tup_iff.1 hv
  exact RepD.tup_iff.2 ⟨vs, rfl, h K vs hl⟩
theorem DLe.ref {xs ys : List D} (hl : xs.length = ys.length) (h : ∀ (i : Nat) (x y : D), xs[i]? = some x → ys[i]? = some y → DLe x y) : DLe (.ref xs) (.ref ys) := fun K v hv => by
  cases hv with
  | ref _ b o f hk h1 hr =>
    have get : ∀ (j : Nat) (d : D), ys[j]? = some d → ∃ x, xs[j]? = some x := fun j d hd => by
      have := (List.getElem?_eq_some_iff.1 hd).1
      exact ⟨_, List.getElem?_eq_getElem (by omega)⟩
    refine .ref ys b o f (fun j d hd => ?_) (fun j d hd => ?_) (fun j d hd => ?_)
    · obtain ⟨x, hx⟩ := get j d hd; exact hk j x hx
    · obtain ⟨x, hx⟩ := get j d hd; exact h1 j x hx
    · obtain ⟨x, hx⟩ := get j d hd; exact h j x d hx hd K _ (hr j x hx)

/-- A call that only reads what it is given, and gives back data. -/
def PCall (P : Program) (g : FuncId) (ds : List D) (r : D) : Prop :=
  (∃ fn, P.funcs[g]? = some fn ∧ fn.body.isNone = false ∧ (fn.name == "runtime.NumGoroutine") = false) ∧
  ∀ (K : Nat → Nat → Option Value) (w : World) (vs : List Value), KSub K w → RepDL K ds vs →
    Calls P g vs.toArray w fun e w' => ∃ v K', e = .returned v ∧ RepD K' r v ∧ KLe K K' ∧ KSub K' w' ∧ Below w.heap.size w w' ∧ ∀ b o, K' b o ≠ K b o → w.heap.size ≤ b

theorem PCall.le {P : Program} {g : FuncId} {ds : List D} {r r' : D} (h : PCall P g ds r) (hr : DLe r r') : PCall P g ds r' :=
  ⟨h.1, fun K w vs hk hv => (h.2 K w vs hk hv).mono fun _ _ ⟨v, K', h1, h2, h3⟩ => ⟨v, K', h1, hr _ _ h2, h3⟩⟩
theorem PCall.eq {P : Program} {g : FuncId} {ds : List D} {r r' : D} (h : PCall P g ds r) (hr : r = r') : PCall P g ds r' := hr ▸ h

/-- What is said of an object that a call is given to write: where it lies, what it holds. -/
def PoAt (m : Nat → Option (Nat × Nat)) (K : Nat → Nat → Option Value) (w : World) (q : PO) : Prop :=
  ∃ blk s cs spare, m q.id = some (blk, s) ∧ w.heap[blk]? = some (objOf q.ty cs spare) ∧ RepDL K (q.elems.flatMap D.cells) cs.toList ∧ (∀ u ∈ cs.toList, u.oneCell' = true) ∧ ∀ off, K blk off = none

/-- What such a call is given: data, or an address of an object. -/
inductive MA where
  | d (x : D)
  | hrow (id sz lo len cap : Nat)
  | hp (id i off : Nat)
  | hmap (id : Nat)

def MA.pv : MA → PV
  | .d x => PV.ofD x
  | .hrow id sz lo len cap => .hrow id sz lo len cap
  | .hp id i off => .hp id i off
  | .hmap id => .hmap id

/-- A call that is given objects to write: which ones, what they hold before and behind it. -/
def MCall (P : Program) (g : FuncId) (pre : List PO) (as : List MA) (r : D) (post : List PO) : Prop :=
  (∃ fn, P.funcs[g]? = some fn ∧ fn.body.isNone = false ∧ (fn.name == "runtime.NumGoroutine") = false) ∧
  ∀ (K : Nat → Nat → Option Value) (m : Nat → Option (Nat × Nat)) (w : World) (vs : List Value), KSub K w → (∀ id, (∀ q ∈ pre, q.id ≠ id) → m id = none) → (∀ q ∈ pre, PoAt m K w q ∧ ∃ blk, m q.id = some (blk, q.sz)) →
    (∀ i j b s t, m i = some (b, s) → m j = some (b, t) → i = j) → RepL ⟨K, m, fun _ => none⟩ (as.map MA.pv) vs →
    Calls P g vs.toArray w fun e w' => ∃ v K', e = .returned v ∧ RepD K' r v ∧ KLe K K' ∧ KSub K' w' ∧ BelowM w.heap.size (fun b => ∃ id s, m id = some (b, s)) w w' ∧ (∀ b o, K' b o ≠ K b o → w.heap.size ≤ b) ∧ ∀ q ∈ post, PoAt m K' w' q

/-- A call that only reads what it is given, and gives back a row of its own, which nothing else knows. -/
def OCall (P : Program) (g : FuncId) (ds : List D) (ty : TypeId) (sz : Nat) (xs : List D) : Prop :=
  (∃ fn, P.funcs[g]? = some fn ∧ fn.body.isNone = false ∧ (fn.name == "runtime.NumGoroutine") = false) ∧
  ∀ (K : Nat → Nat → Option Value) (w : World) (vs : List Value), KSub K w → RepDL K ds vs →
    Calls P g vs.toArray w fun e w' => ∃ v K', e = .returned v ∧ KLe K K' ∧ KSub K' w' ∧ Below w.heap.size w w' ∧ (∀ b o, K' b o ≠ K b o → w.heap.size ≤ b) ∧
      ∃ blk cap cs spare, v = .slice (some ⟨blk, 0, none⟩) xs.length cap ∧ xs.length ≤ cap ∧ w.heap.size ≤ blk ∧ w'.heap[blk]? = some (objOf ty cs spare) ∧ RepDL K' (xs.flatMap D.cells) cs.toList ∧ (∀ u ∈ cs.toList, u.oneCell' = true) ∧ ∀ off, K' blk off = none

/-- The spare room of a row that was grown: none, or one that nothing else knows. -/
def SpareOk (M : Nat → Prop) (K' : Nat → Nat → Option Value) (w' : World) (e : TypeId) (sz : Nat) (v : Value) : Prop :=
  FullV v ∨ ∃ g n cap cur, v = .slice (some ⟨g, 0, none⟩) n cap ∧ M g ∧ w'.heap[g]? = some (.cells cur e (0, 0)) ∧ n ≤ cap ∧ cap ≤ maxLen ∧ cur.size = cap * sz ∧ ∀ o, n * sz ≤ o → K' g o = none

/-- A call that only reads what it is given, and gives back a row that was grown, with its spare room. -/
def TCall (P : Program) (g : FuncId) (ds : List D) (e : TypeId) (sz : Nat) (xs : List D) : Prop :=
  (∃ fn, P.funcs[g]? = some fn ∧ fn.body.isNone = false ∧ (fn.name == "runtime.NumGoroutine") = false) ∧
  ∀ (K : Nat → Nat → Option Value) (w : World) (vs : List Value), KSub K w → RepDL K ds vs →
    Calls P g vs.toArray w fun ex w' => ∃ v K', ex = .returned v ∧ RepD K' (.sl sz xs) v ∧ KLe K K' ∧ KSub K' w' ∧ Below w.heap.size w w' ∧ (∀ b o, K' b o ≠ K b o → w.heap.size ≤ b) ∧
      SpareOk (fun b => w.heap.size ≤ b) K' w' e sz v

variable {P : Program} {T : Nat → Option TI}
variable {E : Env} {γ : Gh} {own : Nat → Option Nat} {st : St} {a : Act} {w : World}

/-- Behind a call that only reads. -/
theorem ConcW.called {ob : Nat → Option OB} {tk : Nat → TS} {w' : World} (h : ConcW E γ own ob tk w) {K' : Nat → Nat → Option Value} (hle : KLe γ.K K') (hsub : KSub K' w') (hb : Below w.heap.size w w')
    (hnew : ∀ b o, K' b o ≠ γ.K b o → w.heap.size ≤ b) : ConcW E ⟨K', γ.m, γ.τ⟩ own ob tk w' := by
  have hgle : GhLe γ ⟨K', γ.m, γ.τ⟩ := ⟨hle, fun _ _ h => h, fun _ _ h => h⟩
  have hsame : ∀ b o, b < w.heap.size → K' b o = γ.K b o := fun b o hlt => by
    refine Classical.byContradiction fun hne => ?_
    have := hnew b o hne
    omega
  refine ⟨h.k0.trans hle, ?_, hsub, h.below.trans (BelowM.of_below hb h.lt), ?_, h.nob, h.inj, ?_, h.tinj, h.ntok, h.pas, h.tmine⟩
  · intro b o hk
    by_cases hlt : b < w.heap.size
    · exact h.knew b o (by rwa [← hsame b o hlt])
    · exact .inl (by have := h.lt; omega)
  · intro id o ho
    obtain ⟨blk, cs, hm, hok⟩ := h.obj id o ho
    have hlt := (h.mlt hm).1
    exact ⟨blk, cs, hm, hok.keep hgle (hb.block blk hlt) fun off => (hsame blk off hlt).trans (hok.free off)⟩
  · intro t e sz ht
    obtain ⟨v, hv, hok⟩ := h.tok t e sz ht
    refine ⟨v, hv, ?_⟩
    cases ho : own t with
    | none => rw [ho] at hok; exact hok
    | some g =>
      rw [ho] at hok
      obtain ⟨n, cap, cur, hok⟩ := hok
      have hg : g < w.heap.size := (Array.getElem?_eq_some_iff.1 hok.heap).1
      exact ⟨n, cap, cur, hok.keep (hb.block g hg) (fun o hle => (hsame g o hg).trans (hok.free o hle)) hok.noobj⟩

/-- Behind a call that gives back a row that was grown. -/
theorem ConcW.tcalled {ob : Nat → Option OB} {tk : Nat → TS} {w' : World} (h : ConcW E γ own ob tk w) {K' : Nat → Nat → Option Value} (hle : KLe γ.K K') (hsub : KSub K' w') (hb : Below w.heap.size w w')
    (hnew : ∀ b o, K' b o ≠ γ.K b o → w.heap.size ≤ b) {d : Nat} (hd : tk d = .never) {e : TypeId} {sz : Nat} (hsz : sz < 1000000) {v : Value} (hv : SpareOk (fun b => w.heap.size ≤ b) K' w' e sz v) :
    ∃ own', GhLe γ ⟨K', γ.m, upd γ.τ d (some v)⟩ ∧ ConcW E ⟨K', γ.m, upd γ.τ d (some v)⟩ own' ob (tkAfter tk none d (.live e sz)) w' := by
  have hc := h.called hle hsub hb hnew
  have hτd : γ.τ d = none := h.ntok d hd
  have hτ : ∀ i x, γ.τ i = some x → upd γ.τ d (some v) i = some x := fun i x hx => by
    by_cases hi : i = d
    · subst hi; rw [hτd] at hx; cases hx
    · exact (upd_other _ _ _ _ hi).trans hx
  have hgl : GhLe γ ⟨K', γ.m, upd γ.τ d (some v)⟩ := ⟨hle, fun _ _ h => h, hτ⟩
  have hgl2 : GhLe ⟨K', γ.m, γ.τ⟩ ⟨K', γ.m, upd γ.τ d (some v)⟩ := ⟨KLe.refl _, fun _ _ h => h, hτ⟩
  have hlive := fun t e' s' => tkAfter_live (tk := tk) (kill := none) (d := d) (e := e) (size := sz) (t := t) (e' := e') (s' := s')
  have hold : ∀ t e' s' g, tk t = .live e' s' → own t = some g → g < w.heap.size := fun t e' s' g ht ho => by
    obtain ⟨v2, _, hok⟩ := h.tok t e' s' ht
    rw [ho] at hok
    obtain ⟨n, cap, cur, hok⟩ := hok
    exact (Array.getElem?_eq_some_iff.1 hok.heap).1
  obtain ⟨og, hog⟩ : ∃ og : Option Nat, TokOk E.mine ⟨K', γ.m, upd γ.τ d (some v)⟩ w' e sz v og ∧ ∀ g, og = some g → w.heap.size ≤ g := by
    rcases hv with hv | ⟨g, n, cap, cur, h1, h2, h3, h4, h5, h6, h7⟩
    · exact ⟨none, hv, fun g h => by cases h⟩
    · refine ⟨some g, ⟨n, cap, cur, h1, .inl (Nat.le_trans h.lt h2), h3, h4, h5, by rw [rsz_lt hsz]; exact h6, by rw [rsz_lt hsz]; exact h7, fun id s hm => ?_⟩, fun g' h => by cases h; exact h2⟩
      have := (h.mlt hm).1
      omega
  refine ⟨upd own d og, hgl, hc.k0, hc.knew, hc.ksub, hc.below, ?_, hc.nob, hc.inj, ?_, ?_, ?_, hc.pas, ?_⟩
  · intro id o ho
    obtain ⟨blk, cs, hm, hok⟩ := hc.obj id o ho
    exact ⟨blk, cs, hm, hok.keep hgl2 rfl hok.free⟩
  · intro t e' s' ht
    rcases hlive t e' s' ht with ⟨rfl, rfl, rfl⟩ | ⟨htd, ht', _⟩
    · exact ⟨v, upd_same _ _ _, by rw [upd_same]; exact hog.1⟩
    · obtain ⟨v2, hv2, hok⟩ := hc.tok t e' s' ht'
      refine ⟨v2, (upd_other _ _ _ _ htd).trans hv2, ?_⟩
      rw [upd_other _ _ _ _ htd]
      cases ho : own t with
      | none => rw [ho] at hok; exact hok
      | some g =>
        rw [ho] at hok
        obtain ⟨n, cap, cur, hok⟩ := hok
        exact ⟨n, cap, cur, hok.keep rfl hok.free hok.noobj⟩
  · intro t t' e1 e2 s1 s2 g h1 h2 ho1 ho2
    rcases hlive t e1 s1 h1 with ⟨rfl, _, _⟩ | ⟨htd, ht, _⟩ <;> rcases hlive t' e2 s2 h2 with ⟨rfl, _, _⟩ | ⟨htd', ht', _⟩
    · rfl
    · rw [upd_same] at ho1
      rw [upd_other _ _ _ _ htd'] at ho2
      have := hog.2 g ho1
      have := hold _ _ _ _ ht' ho2
      omega
    · rw [upd_same] at ho2
      rw [upd_other _ _ _ _ htd] at ho1
      have := hog.2 g ho2
      have := hold _ _ _ _ ht ho1
      omega
    · rw [upd_other _ _ _ _ htd] at ho1
      rw [upd_other _ _ _ _ htd'] at ho2
      exact h.tinj _ _ _ _ _ _ _ ht ht' ho1 ho2
  · intro t ht
    obtain ⟨htd, ht'⟩ := tkAfter_never ht
    exact (upd_other _ _ _ _ htd).trans (h.ntok t ht')
  · intro t e' s' v' h3 ht hτ' ho
    rcases hlive t e' s' ht with ⟨rfl, rfl, rfl⟩ | ⟨htd, ht', _⟩
    · omega
    · rw [upd_other _ _ _ _ htd] at ho
      exact hc.tmine t e' s' v' h3 ht' ((upd_other _ _ _ _ htd).symm.trans hτ') ho

/-- Behind a call that gives back a row of its own. -/
theorem ConcW.ocalled {ob : Nat → Option OB} {tk : Nat → TS} {w' : World} (h : ConcW E γ own ob tk w) {K' : Nat → Nat → Option Value} (hle : KLe γ.K K') (hsub : KSub K' w') (hb : Below w.heap.size w w')
    (hnew : ∀ b o, K' b o ≠ γ.K b o → w.heap.size ≤ b) {d : Nat} (hd : ob d = none) (hdn : d < 3000) {o : OB} {blk : Nat} {cs spare : Array Value} (hblk : w.heap.size ≤ blk)
    (hheap : w'.heap[blk]? = some (objOf o.ty cs spare)) (hr : RepL ⟨K', γ.m, γ.τ⟩ (flat o.elems) cs.toList) (h1 : ∀ u ∈ cs.toList, u.oneCell' = true) (hs : ∀ e ∈ o.elems, e.cells.length = o.sz)
    (hfree : ∀ off, K' blk off = none) : ConcW E ⟨K', upd γ.m d (some (blk, o.sz)), γ.τ⟩ own (upd ob d (some o)) tk w' := by
  have hc := h.called hle hsub hb hnew
  have hmd : γ.m d = none := h.nob d hd
  have hgl : GhLe ⟨K', γ.m, γ.τ⟩ ⟨K', upd γ.m d (some (blk, o.sz)), γ.τ⟩ := ⟨KLe.refl _, fun i x hx => by
    by_cases hi : i = d
    · subst hi; rw [show γ.m i = none from hmd] at hx; cases hx
    · exact (upd_other _ _ _ _ hi).trans hx, fun _ _ h => h⟩
  have hmm : ∀ id b s, (upd γ.m d (some (blk, o.sz))) id = some (b, s) → (id = d ∧ b = blk) ∨ (id ≠ d ∧ γ.m id = some (b, s) ∧ b < w.heap.size) := by
    intro id b s hx
    by_cases hi : id = d
    · subst hi; rw [upd_same] at hx; cases hx; exact .inl ⟨rfl, rfl⟩
    · rw [upd_other _ _ _ _ hi] at hx; exact .inr ⟨hi, hx, (h.mlt hx).1⟩
  refine ⟨hc.k0, hc.knew, hc.ksub, hc.below, ?_, ?_, ?_, ?_, hc.tinj, hc.ntok, ?_, hc.tmine⟩
  · intro id o' ho
    by_cases hi : id = d
    · subst hi
      rw [upd_same] at ho
      cases ho
      exact ⟨blk, cs, upd_same _ _ _, ⟨.inl (by have := h.lt; omega), ⟨spare, hheap⟩, hr.mono hgl, h1, hs, hfree⟩⟩
    · rw [upd_other _ _ _ _ hi] at ho
      obtain ⟨blk', cs', hb', hok⟩ := hc.obj id o' ho
      exact ⟨blk', cs', (upd_other _ _ _ _ hi).trans hb', hok.keep hgl rfl hok.free⟩
  · intro id ho
    by_cases hi : id = d
    · subst hi; rw [upd_same] at ho; cases ho
    · rw [upd_other _ _ _ _ hi] at ho
      exact (upd_other _ _ _ _ hi).trans (hc.nob id ho)
  · intro i j b s t hi hj
    rcases hmm i b s hi with ⟨rfl, rfl⟩ | ⟨hi1, hi2, hi3⟩ <;> rcases hmm j _ t hj with ⟨rfl, hb⟩ | ⟨hj1, hj2, hj3⟩
    · rfl
    · omega
    · omega
    · exact h.inj i j b s t hi2 hj2
  · intro t e sz ht
    obtain ⟨v, hv, hok⟩ := hc.tok t e sz ht
    refine ⟨v, hv, ?_⟩
    cases ho : own t with
    | none => rw [ho] at hok; exact hok
    | some g =>
      obtain ⟨v2, hv2, hok2⟩ := h.tok t e sz ht
      rw [ho] at hok hok2
      obtain ⟨n2, cap2, cur2, hok2⟩ := hok2
      have hg : g < w.heap.size := (Array.getElem?_eq_some_iff.1 hok2.heap).1
      obtain ⟨n, cap, cur, hok⟩ := hok
      refine ⟨n, cap, cur, hok.keep rfl hok.free fun id s hm => ?_⟩
      rcases hmm id g s hm with ⟨_, hb⟩ | ⟨_, hb, _⟩
      · omega
      · exact hok.noobj id s hb
  · intro id b s hid hm
    rcases hmm id b s hm with ⟨rfl, _⟩ | ⟨_, hb, _⟩
    · omega
    · exact h.pas id b s hid hb

/-- An element, as a value of the walk. -/
def PO.ob (q : PO) : OB := ⟨q.ty, q.sz, q.elems.map PV.ofD.PV.ofD1⟩

theorem flat_ofD1 : ∀ l : List D, flat (l.map PV.ofD.PV.ofD1) = (l.flatMap D.cells).map .d
  | [] => rfl
  | x :: l => by
    have ih := flat_ofD1 l
    simp only [flat] at ih
    cases x <;> simp [flat, PV.cells, D.cells, PV.ofD.PV.ofD1, ih]

/-- The objects behind a call that was given some to write. -/
def obAfter (f : Nat → Nat) : List PO → (Nat → Option OB) → Nat → Option OB
  | [], ob => ob
  | q :: qs, ob => upd (obAfter f qs ob) (f q.id) (some q.ob)

theorem obAfter_at (f : Nat → Nat) : ∀ (l : List PO) (ob : Nat → Option OB) (j : Nat) (o : OB), obAfter f l ob j = some o → (∃ q ∈ l, f q.id = j ∧ o = q.ob) ∨ ((∀ q ∈ l, f q.id ≠ j) ∧ ob j = some o)
  | [], ob, j, o, h => .inr ⟨fun q hq => (List.not_mem_nil hq).elim, h⟩
  | q :: l, ob, j, o, h => by
    simp only [obAfter] at h
    by_cases hj : j = f q.id
    · subst hj; rw [upd_same] at h; cases h; exact .inl ⟨q, by simp, rfl, rfl⟩
    · rw [upd_other _ _ _ _ hj] at h
      rcases obAfter_at f l ob j o h with ⟨q', hq, h1, h2⟩ | ⟨h1, h2⟩
      · exact .inl ⟨q', by simp [hq], h1, h2⟩
      · refine .inr ⟨fun q' hq => ?_, h2⟩
        rcases List.mem_cons.1 hq with rfl | hq
        · exact Ne.symm hj
        · exact h1 q' hq
theorem obAfter_none (f : Nat → Nat) : ∀ (l : List PO) (ob : Nat → Option OB) (j : Nat), obAfter f l ob j = none → ob j = none
  | [], ob, j, h => h
  | q :: l, ob, j, h => by
    simp only [obAfter] at h
    by_cases hj : j = f q.id
    · subst hj; rw [upd_same] at h; cases h
    · rw [upd_other _ _ _ _ hj] at h; exact obAfter_none f l ob j h

/-- Behind a call that was given objects to write. -/
theorem ConcW.mcalled {ob : Nat → Option OB} {tk : Nat → TS} {w' : World} (h : ConcW E γ own ob tk w) {K' : Nat → Nat → Option Value} {m : Nat → Option (Nat × Nat)} {f : Nat → Nat} {post : List PO}
    (hmf : ∀ id b s, m id = some (b, s) → γ.m (f id) = some (b, s)) (hfull : ∀ q ∈ post, (∃ o, ob (f q.id) = some o ∧ o.sz = q.sz) ∧ ∀ e ∈ q.elems, e.cells.length = q.sz) (hdom : ∀ id b s, m id = some (b, s) → ∃ q ∈ post, q.id = id)
    (hle : KLe γ.K K') (hsub : KSub K' w') (hb : BelowM w.heap.size (fun b => ∃ id s, m id = some (b, s)) w w')
    (hnew : ∀ b o, K' b o ≠ γ.K b o → w.heap.size ≤ b) (hpost : ∀ q ∈ post, PoAt m K' w' q) : ConcW E ⟨K', γ.m, γ.τ⟩ own (obAfter f post ob) tk w' := by
  have hgle : GhLe γ ⟨K', γ.m, γ.τ⟩ := ⟨hle, fun _ _ h => h, fun _ _ h => h⟩
  have hsame : ∀ b o, b < w.heap.size → K' b o = γ.K b o := fun b o hlt => by
    refine Classical.byContradiction fun hne => ?_
    have := hnew b o hne
    omega
  refine ⟨h.k0.trans hle, ?_, hsub, h.below.trans ⟨hb.os, hb.tape, hb.output, hb.size, fun k hk hM => hb.block k (by have := h.lt; omega) fun ⟨id, s, hm⟩ => ?_⟩, ?_, ?_, h.inj, ?_, h.tinj, h.ntok, h.pas, h.tmine⟩
  · intro b o hk
    by_cases hlt : b < w.heap.size
    · exact h.knew b o (by rwa [← hsame b o hlt])
    · exact .inl (by have := h.lt; omega)
  · rcases (h.mlt (hmf _ _ _ hm)).2 with h1 | h1
    · omega
    · exact hM h1
  · intro j o ho
    rcases obAfter_at f post ob j o ho with ⟨q, hq, rfl, rfl⟩ | ⟨hno, ho⟩
    · obtain ⟨⟨o0, ho0, hsz⟩, hel⟩ := hfull q hq
      obtain ⟨blk0, cs0, hm0, hok0⟩ := h.obj _ o0 ho0
      obtain ⟨blk, s, cs, spare, hm, hheap, hrep, h1, hfree⟩ := hpost q hq
      have hm1 := hmf _ _ _ hm
      rw [hm0] at hm1
      cases hm1
      refine ⟨blk0, cs, by show γ.m (f q.id) = some (blk0, q.sz); rw [← hsz]; exact hm0, hok0.base, ⟨spare, hheap⟩, ?_, h1, ?_, hfree⟩
      · show RepL _ (flat (q.elems.map PV.ofD.PV.ofD1)) _
        rw [flat_ofD1]
        exact hrep.toRep
      · intro e he
        obtain ⟨d, hd, rfl⟩ := List.mem_map.1 he
        have : (PV.ofD.PV.ofD1 d).cells.length = d.cells.length := by cases d <;> simp [PV.ofD.PV.ofD1, PV.cells, D.cells]
        rw [this]; exact hel d hd
    · obtain ⟨blk, cs, hm, hok⟩ := h.obj j o ho
      have hlt := (h.mlt hm).1
      refine ⟨blk, cs, hm, hok.keep hgle (hb.block blk hlt fun ⟨id, s, hmi⟩ => ?_) fun off => (hsame blk off hlt).trans (hok.free off)⟩
      obtain ⟨q, hq, rfl⟩ := hdom id _ _ hmi
      exact hno q hq (h.inj _ _ _ _ _ (hmf _ _ _ hmi) hm)
  · intro j ho; exact h.nob j (obAfter_none f post ob j ho)
  · intro t e sz ht
    obtain ⟨v, hv, hok⟩ := h.tok t e sz ht
    refine ⟨v, hv, ?_⟩
    cases ho : own t with
    | none => rw [ho] at hok; exact hok
    | some g =>
      rw [ho] at hok
      obtain ⟨n, cap, cur, hok⟩ := hok
      have hg : g < w.heap.size := (Array.getElem?_eq_some_iff.1 hok.heap).1
      exact ⟨n, cap, cur, hok.keep (hb.block g hg fun ⟨id, s, hmi⟩ => hok.noobj _ _ (hmf _ _ _ hmi)) (fun o hle => (hsame g o hg).trans (hok.free o hle)) hok.noobj⟩

/-! ### One operation of a region -/

/-- Whether a guarded operation is carried out. -/
def guardOf (ops : Array Oper) (tm : Nat → PV) (o : Oper) : Option Bool :=
  match o.guard with
  | none => some true
  | some (j, want) => match (ops[j]?).bind (·.dst) with
    | none => some false
    | some t => match tm t with
      | .d (.bool b) => some (b == want)
      | .tup [] => some false
      | _ => none

theorem guardOf_sound (hC : Conc E γ own st a w) {ops : Array Oper} {o : Oper} {g : Bool} (h : guardOf ops st.tm o = some g) : Region.wanted o (yielded ops a.tmps) = g := by
  unfold guardOf at h
  unfold Region.wanted
  cases hg : o.guard with
  | none => rw [hg] at h; simpa using h
  | some jw =>
    obtain ⟨j, want⟩ := jw
    rw [hg] at h
    simp only at h ⊢
    unfold yielded
    cases hd : (ops[j]?).bind (·.dst) with
    | none => rw [hd] at h; simp at h ⊢; exact h
    | some t =>
      rw [hd] at h
      simp only [Option.bind_some] at h ⊢
      have ht := hC.tm t
      by_cases hlt : t < a.tmps.size
      · have e : a.tmps[t]? = some (a.tmps.getD t undef) := by simp [hlt]
        rw [e]
        split at h
        · rename_i b hb
          rw [hb] at ht
          rw [rep_bool ht]
          simpa using h
        · rename_i hb
          rw [hb] at ht
          obtain ⟨vs, he, hl⟩ := Rep.tup_iff.1 ht
          rw [he]
          simpa using h
        · cases h
      · have e : a.tmps[t]? = none := Array.getElem?_eq_none (Nat.le_of_not_lt hlt)
        have e2 : a.tmps.getD t undef = undef := by simp [e]
        rw [e]
        split at h
        · rename_i b hb
          rw [hb, e2] at ht
          have := rep_bool ht
          cases this
        · simpa using h
        · cases h

def dstOk (n : Nat) : Option Nat → Bool
  | none => true
  | some d => Nat.blt d n

/-- A function's value: which function, what goes ahead of its arguments and behind them. -/
def asFn : PV → Option (FuncId × List PV × List PV)
  | .fn (.func g) a b => some (g, a, b)
  | .d (.fn (.func g) a b) => some (g, a.map .d, b.map .d)
  | _ => none

theorem asFn_rep {γ : Gh} {x : PV} {v : Value} {g : FuncId} {a b : List PV} (h : Rep γ x v) (hx : asFn x = some (g, a, b)) : Rep γ (.fn (.func g) a b) v := by
  unfold asFn at hx
  split at hx
  · cases hx; exact h
  · cases hx
    rename_i a b
    have := Rep.ofD (x := .fn (.func g) a b) (by cases h with | d h => exact h)
    exact this
  · cases hx

/-- What an operation gives and does. -/
inductive RVal (P : Program) (T : Nat → Option TI) (ops : Array Oper) (o : Oper) (st : St) : PV → HEff → Prop
  | skip (hg : guardOf ops st.tm o = some false) : RVal P T ops o st (.tup []) .none
  | ev {v e} (hg : guardOf ops st.tm o = some true) (hc : Op.cutOk o.op = true) (he : evalOp T o.dst o.op st.look st.ob st.tk = some (true, v, e)) : RVal P T ops o st v e
  | call {f args argTypes g first caps ds ds' r} (hg : guardOf ops st.tm o = some true) (ho : o.op = .call { callee := .value f, args, argTypes }) (hf : asFn (st.look f) = some (g, first, caps))
      (hd : PV.toD.toDs (first ++ args.toList.map st.look ++ caps) = some ds) (hle : DLeL ds ds') (hcall : PCall P g ds' r) : RVal P T ops o st (PV.ofD r) .none
  | tcall {f args argTypes g first caps ds ds' d ty sz xs} (hg : guardOf ops st.tm o = some true) (ho : o.op = .call { callee := .value f, args, argTypes }) (hf : asFn (st.look f) = some (g, first, caps))
      (hds : PV.toD.toDs (first ++ args.toList.map st.look ++ caps) = some ds) (hle : DLeL ds ds') (hdst : o.dst = some d) (htk : st.tk d = .never) (hsz : sz < 1000000)
      (hcall : TCall P g ds' ty sz xs) : RVal P T ops o st (.own sz xs (.tok d)) (.tok none d ty sz)

theorem RVal.sound (hT : TabOk P T) (hC : Conc E γ own st a w) {ops : Array Oper} {o : Oper} {v : PV} {e : HEff} (hd : dstOk E.n o.dst = true) (h : RVal P T ops o st v e)
    {K : Act → World → Prop} {Q : Exit → Act → World → Prop} (hK : ∀ γ' own' a' w', GhLe γ γ' → Conc E γ' own' ((st.eff e).put o.dst v) a' w' → K a' w') :
    if Region.wanted o (yielded ops a.tmps) then o.wp P a w K Q ∨ (o.asks P a w ∧ LetsOut Q) else K (a.put o.dst undef) w := by
  have hd' : ∀ d, o.dst = some d → d < E.n := fun d hdd => by rw [hdd] at hd; exact Nat.lt_of_lt_of_le (Nat.lt_succ_self _) (Nat.le_of_ble_eq_true (by simpa [dstOk, Nat.blt] using hd))
  cases h with
  | skip hg =>
    rw [guardOf_sound hC hg, if_neg (by simp)]
    exact hK γ own _ _ (GhLe.refl _) (hC.put Rep.undef hd')
  | ev hg hc he =>
    rw [guardOf_sound hC hg, if_pos rfl]
    left
    obtain ⟨u, w', γ', own', hrun, hle, hC'⟩ := evalOp_sound (P := P) hT hC hc he hd'
    unfold Oper.wp
    rcases hrun with hrun | ⟨hrun, rfl⟩
    · rw [hrun]; exact hK γ' own' _ _ hle hC'
    · rw [hrun]; exact hK γ' own' _ _ hle hC'
  | call hg ho hf hds hle hcall =>
    rename_i f args argTypes g first caps ds ds' r
    rw [guardOf_sound hC hg, if_pos rfl]
    left
    obtain ⟨⟨fn, hfn, hbody, hname⟩, hcalls⟩ := hcall
    have hfr := asFn_rep (hC.look f) hf
    have hargs := args_rep hC args
    have hrun : ∃ vs, RepL γ (first ++ args.toList.map st.look ++ caps) vs ∧ (execOp a.eval o).run P w = .ok (.enter g vs.toArray) w := by
      generalize hfv : a.eval f = fv at hfr
      cases hfr with
      | fn _ _ _ vf vc hlf hlc hff hcc =>
        refine ⟨vf ++ (args.map a.eval).toList ++ vc, ((RepL.append ⟨hlf, hff⟩ hargs).append ⟨hlc, hcc⟩), ?_⟩
        have e1 : (vf.toArray ++ args.map a.eval ++ vc.toArray) = (vf ++ (args.map a.eval).toList ++ vc).toArray := by
          apply Array.ext'; simp
        have hb2 : fn.body.isNone = false := hbody
        obtain ⟨dst, op, type, pos, after, guard⟩ := o
        simp only at ho
        subst ho
        simp only [execOp, resolve, hfv, Deferred.ofValue, Sem.run_bind, Sem.run_pure, Result.andThen_ok, invoke, callFunc, run_program, hfn, e1, hname, hb2, Bool.false_eq_true, if_false]
    obtain ⟨vs, hvs, hrun⟩ := hrun
    unfold Oper.wp
    rw [hrun]
    simp only [Oper.upon]
    refine (hcalls γ.K w vs hC.world.ksub (hle _ _ (RepL.toDs hvs hds))).mono fun e w' ⟨v, K', he, hr, hkle, hks, hb, hnew⟩ => ?_
    subst he
    have hw' := hC.world.called hkle hks hb hnew
    have hgle : GhLe γ ⟨K', γ.m, γ.τ⟩ := ⟨hkle, fun _ _ h => h, fun _ _ h => h⟩
    exact hK _ _ _ _ hgle ((hC.upworld (ob' := st.ob) (tk' := st.tk) hgle hw').put (Rep.ofD hr) hd')
  | tcall hg ho hf hds hle hdst htk hsz hcall =>
    rename_i f args argTypes g first caps ds ds' d ty sz xs
    rw [guardOf_sound hC hg, if_pos rfl]
    left
    obtain ⟨⟨fn, hfn, hbody, hname⟩, hcalls⟩ := hcall
    have hfr := asFn_rep (hC.look f) hf
    have hargs := args_rep hC args
    have hrun : ∃ vs, RepL γ (first ++ args.toList.map st.look ++ caps) vs ∧ (execOp a.eval o).run P w = .ok (.enter g vs.toArray) w := by
      generalize hfv : a.eval f = fv at hfr
      cases hfr with
      | fn _ _ _ vf vc hlf hlc hff hcc =>
        refine ⟨vf ++ (args.map a.eval).toList ++ vc, ((RepL.append ⟨hlf, hff⟩ hargs).append ⟨hlc, hcc⟩), ?_⟩
        have e1 : (vf.toArray ++ args.map a.eval ++ vc.toArray) = (vf ++ (args.map a.eval).toList ++ vc).toArray := by
          apply Array.ext'; simp
        have hb2 : fn.body.isNone = false := hbody
        obtain ⟨dst, op, type, pos, after, guard⟩ := o
        simp only at ho
        subst ho
        simp only [execOp, resolve, hfv, Deferred.ofValue, Sem.run_bind, Sem.run_pure, Result.andThen_ok, invoke, callFunc, run_program, hfn, e1, hname, hb2, Bool.false_eq_true, if_false]
    obtain ⟨vs, hvs, hrun⟩ := hrun
    unfold Oper.wp
    rw [hrun]
    simp only [Oper.upon]
    refine (hcalls γ.K w vs hC.world.ksub (hle _ _ (RepL.toDs hvs hds))).mono fun ex w' ⟨v, K', he, hr, hkle, hks, hb, hnew, hsp⟩ => ?_
    subst he
    obtain ⟨own', hgle, hw'⟩ := hC.world.tcalled hkle hks hb hnew htk hsz hsp
    exact hK _ _ _ _ hgle ((hC.upworld hgle hw').put (.own hr (upd_same _ _ _)) hd')

/-! ### A call that is given objects -/

/-- What a caller hands in, and what the callee takes it for: the callee's numbers of objects, the caller's. -/
def argOk (ids : List (Nat × Nat)) : PV → MA → Prop
  | .hrow id sz lo len cap, .hrow id' sz' lo' len' cap' => (id', id) ∈ ids ∧ sz = sz' ∧ lo = lo' ∧ len = len' ∧ cap' ≤ cap
  | .hp id i off, .hp id' i' off' => (id', id) ∈ ids ∧ i = i' ∧ off = off'
  | .hmap id, .hmap id' => (id', id) ∈ ids
  | x, .d y => ∃ d, x.toD = some d ∧ DLe d y
  | _, _ => False
def argsOk (ids : List (Nat × Nat)) : List PV → List MA → Prop
  | [], [] => True
  | x :: xs, a :: as => argOk ids x a ∧ argsOk ids xs as
  | _, _ => False

theorem argOk_rep {ids : List (Nat × Nat)} {γ : Gh} {m : Nat → Option (Nat × Nat)} (hm : ∀ p ∈ ids, m p.1 = γ.m p.2) {x : PV} {a : MA} {v : Value} (h : argOk ids x a) (hx : Rep γ x v) : Rep ⟨γ.K, m, fun _ => none⟩ a.pv v := by
  unfold argOk at h
  split at h
  · obtain ⟨h1, rfl, rfl, rfl, h2⟩ := h
    cases hx with
    | hrow hg hc hl => exact .hrow ((hm _ h1).trans hg) (Nat.le_trans h2 hc) hl
  · obtain ⟨h1, rfl, rfl⟩ := h
    cases hx with
    | hp hg => exact .hp ((hm _ h1).trans hg)
  · cases hx with
    | hmap hg => exact .hmap ((hm _ h).trans hg)
  · obtain ⟨d, h1, h2⟩ := h
    have h3 := h2 γ.K v (Rep.toD hx h1)
    exact Rep.ofD (γ := ⟨γ.K, m, fun _ => none⟩) h3
  · cases h
theorem argsOk_rep {ids : List (Nat × Nat)} {γ : Gh} {m : Nat → Option (Nat × Nat)} (hm : ∀ p ∈ ids, m p.1 = γ.m p.2) : ∀ {xs : List PV} {as : List MA} {vs : List Value}, argsOk ids xs as → RepL γ xs vs → RepL ⟨γ.K, m, fun _ => none⟩ (as.map MA.pv) vs
  | [], [], vs, _, h => by
    have : vs = [] := List.eq_nil_of_length_eq_zero (by simpa using h.1.symm)
    subst this; exact .nil
  | x :: xs, a :: as, vs, h, hv => by
    obtain ⟨v, vs', rfl, h1, h2⟩ := hv.cons_inv
    exact .cons (argOk_rep hm h.1 h1) (argsOk_rep hm h.2 h2)
  | [], _ :: _, _, h, _ => by cases h
  | _ :: _, [], _, h, _ => by cases h

/-- The objects that a call is given are what it takes them for. -/
def preOk (ob : Nat → Option OB) (f : Nat → Nat) : List PO → Prop
  | [] => True
  | q :: qs => (∃ o ds, ob (f q.id) = some o ∧ o.ty = q.ty ∧ o.sz = q.sz ∧ PV.toD.toDs (flat o.elems) = some ds ∧ DLeL ds (q.elems.flatMap D.cells)) ∧ preOk ob f qs
theorem preOk_mem {ob : Nat → Option OB} {f : Nat → Nat} : ∀ {l : List PO}, preOk ob f l → ∀ q ∈ l, ∃ o ds, ob (f q.id) = some o ∧ o.ty = q.ty ∧ o.sz = q.sz ∧ PV.toD.toDs (flat o.elems) = some ds ∧ DLeL ds (q.elems.flatMap D.cells)
  | q :: l, h, q', hq => by
    rcases List.mem_cons.1 hq with rfl | hq
    · exact h.1
    · exact preOk_mem h.2 q' hq

/-- The callee's number of an object in the caller's numbers. -/
def idOf (ids : List (Nat × Nat)) (i : Nat) : Nat := lk 0 ids i

inductive MVal (P : Program) (T : Nat → Option TI) (ops : Array Oper) (o : Oper) (st : St) : PV → (Nat → Nat) → List PO → Prop
  | mk {f args argTypes g first caps as r pre post ids} (hg : guardOf ops st.tm o = some true) (ho : o.op = .call { callee := .value f, args, argTypes }) (hf : asFn (st.look f) = some (g, first, caps))
      (ha : argsOk ids (first ++ args.toList.map st.look ++ caps) as) (hids : ids.map (·.1) = pre.map (·.id)) (hnd : (ids.map (·.1)).Nodup) (hnd2 : (ids.map (·.2)).Nodup) (hpre : preOk st.ob (idOf ids) pre)
      (hpp : post.map (fun q => (q.id, q.sz)) = pre.map (fun q => (q.id, q.sz))) (hel : ∀ q ∈ post, ∀ e ∈ q.elems, e.cells.length = q.sz)
      (hcall : MCall P g pre as r post) : MVal P T ops o st (PV.ofD r) (idOf ids) post
  | own {f args argTypes g first caps ds ds' id ty sz xs} (hg : guardOf ops st.tm o = some true) (ho : o.op = .call { callee := .value f, args, argTypes }) (hf : asFn (st.look f) = some (g, first, caps))
      (hds : PV.toD.toDs (first ++ args.toList.map st.look ++ caps) = some ds) (hle : DLeL ds ds') (hid : st.ob id = none) (hidn : id < 3000) (hel : ∀ e ∈ xs, e.cells.length = sz)
      (hcall : OCall P g ds' ty sz xs) : MVal P T ops o st (.hrow id sz 0 xs.length xs.length) (fun _ => id) [⟨0, ty, sz, xs⟩]

theorem idOf_mem {ids : List (Nat × Nat)} (hnd : (ids.map (·.1)).Nodup) : ∀ p ∈ ids, idOf ids p.1 = p.2 := by
  induction ids with
  | nil => intro p hp; cases hp
  | cons q l ih =>
    intro p hp
    obtain ⟨a, b⟩ := q
    simp only [List.map_cons, List.nodup_cons] at hnd
    simp only [idOf, lk]
    rcases List.mem_cons.1 hp with rfl | hp
    · simp
    · have : p.1 ≠ a := fun e => hnd.1 (List.mem_map.2 ⟨p, hp, e⟩)
      rw [if_neg this]
      exact ih hnd.2 p hp

theorem MVal.sound (hC : Conc E γ own st a w) {ops : Array Oper} {o : Oper} {v : PV} {f : Nat → Nat} {post : List PO} (hd : dstOk E.n o.dst = true) (h : MVal P T ops o st v f post)
    {K : Act → World → Prop} {Q : Exit → Act → World → Prop} (hK : ∀ γ' own' a' w', Conc E γ' own' ((⟨st.tm, obAfter f post st.ob, st.tk⟩ : St).put o.dst v) a' w' → K a' w') :
    if Region.wanted o (yielded ops a.tmps) then o.wp P a w K Q ∨ (o.asks P a w ∧ LetsOut Q) else K (a.put o.dst undef) w := by
  have hd' : ∀ d, o.dst = some d → d < E.n := fun d hdd => by rw [hdd] at hd; exact Nat.lt_of_lt_of_le (Nat.lt_succ_self _) (Nat.le_of_ble_eq_true (by simpa [dstOk, Nat.blt] using hd))
  cases h with
  | mk hg ho hf ha hids hnd hnd2 hpre hpp hel hcall =>
    rename_i f args argTypes g first caps as r pre ids
    rw [guardOf_sound hC hg, if_pos rfl]
    left
    obtain ⟨⟨fn, hfn, hbody, hname⟩, hcalls⟩ := hcall
    have hfr := asFn_rep (hC.look f) hf
    have hargs := args_rep hC args
    have hrun : ∃ vs, RepL γ (first ++ args.toList.map st.look ++ caps) vs ∧ (execOp a.eval o).run P w = .ok (.enter g vs.toArray) w := by
      generalize hfv : a.eval f = fv at hfr
      cases hfr with
      | fn _ _ _ vf vc hlf hlc hff hcc =>
        refine ⟨vf ++ (args.map a.eval).toList ++ vc, ((RepL.append ⟨hlf, hff⟩ hargs).append ⟨hlc, hcc⟩), ?_⟩
        have e1 : (vf.toArray ++ args.map a.eval ++ vc.toArray) = (vf ++ (args.map a.eval).toList ++ vc).toArray := by
          apply Array.ext'; simp
        have hb2 : fn.body.isNone = false := hbody
        obtain ⟨dst, op, type, pos, after, guard⟩ := o
        simp only at ho
        subst ho
        simp only [execOp, resolve, hfv, Deferred.ofValue, Sem.run_bind, Sem.run_pure, Result.andThen_ok, invoke, callFunc, run_program, hfn, e1, hname, hb2, Bool.false_eq_true, if_false]
    obtain ⟨vs, hvs, hrun⟩ := hrun
    unfold Oper.wp
    rw [hrun]
    simp only [Oper.upon]
    -- the callee's numbering
    let m : Nat → Option (Nat × Nat) := fun i => if i ∈ ids.map (·.1) then γ.m (idOf ids i) else none
    have hm1 : ∀ p ∈ ids, m p.1 = γ.m p.2 := fun p hp => by
      have : p.1 ∈ ids.map (·.1) := List.mem_map.2 ⟨p, hp, rfl⟩
      simp only [m, this, if_true, idOf_mem hnd p hp]
    have hmf : ∀ id b s, m id = some (b, s) → γ.m (idOf ids id) = some (b, s) := fun id b s hm => by
      simp only [m] at hm
      split at hm
      · exact hm
      · cases hm
    have hmid : ∀ id b s, m id = some (b, s) → id ∈ ids.map (·.1) := fun id b s hm => by
      simp only [m] at hm
      split at hm
      · assumption
      · cases hm
    have hinj : ∀ i j b s t, m i = some (b, s) → m j = some (b, t) → i = j := by
      intro i j b s t hi hj
      have e := hC.world.inj _ _ _ _ _ (hmf _ _ _ hi) (hmf _ _ _ hj)
      obtain ⟨p, hp, rfl⟩ := List.mem_map.1 (hmid _ _ _ hi)
      obtain ⟨q, hq, rfl⟩ := List.mem_map.1 (hmid _ _ _ hj)
      rw [idOf_mem hnd p hp, idOf_mem hnd q hq] at e
      obtain ⟨x, hx, rfl⟩ := List.mem_iff_getElem.1 hp
      obtain ⟨y, hy, rfl⟩ := List.mem_iff_getElem.1 hq
      have h2 := hnd2
      rw [List.Nodup, List.pairwise_iff_getElem] at h2
      rcases Nat.lt_trichotomy x y with hxy | rfl | hxy
      · exact (h2 x y (by simpa using hx) (by simpa using hy) hxy (by rw [List.getElem_map, List.getElem_map]; exact e)).elim
      · rfl
      · exact (h2 y x (by simpa using hy) (by simpa using hx) hxy (by rw [List.getElem_map, List.getElem_map]; exact e.symm)).elim
    have hat : ∀ q ∈ pre, PoAt m γ.K w q ∧ ∃ blk, m q.id = some (blk, q.sz) := by
      intro q hq
      obtain ⟨o1, ds, ho1, hty, hsz, hds, hdl⟩ := preOk_mem hpre q hq
      obtain ⟨blk, cs, hmb, hok⟩ := hC.world.obj _ o1 ho1
      obtain ⟨spare, hheap⟩ := hok.heap
      have hin : q.id ∈ ids.map (·.1) := by rw [hids]; exact List.mem_map.2 ⟨q, hq, rfl⟩
      have hmq : m q.id = some (blk, q.sz) := by simp only [m, hin, if_true]; rw [hmb, hsz]
      exact ⟨⟨blk, q.sz, cs, spare, hmq, by rw [← hty]; exact hheap, hdl _ _ (RepL.toDs hok.rep hds), hok.one, hok.free⟩, blk, hmq⟩
    have hsup : ∀ id, (∀ q ∈ pre, q.id ≠ id) → m id = none := fun id hno => by
      have : id ∉ ids.map (·.1) := by
        rw [hids]; intro h
        obtain ⟨q, hq, e⟩ := List.mem_map.1 h
        exact hno q hq e
      simp only [m, this, if_false]
    refine (hcalls γ.K m w vs hC.world.ksub hsup hat hinj (argsOk_rep hm1 ha hvs)).mono fun e w' ⟨v, K', he, hr, hkle, hks, hb, hnew, hpo⟩ => ?_
    subst he
    have hpid : ∀ q ∈ post, ∃ q' ∈ pre, q'.id = q.id ∧ q'.sz = q.sz := fun q hq => by
      have : (q.id, q.sz) ∈ pre.map (fun q => (q.id, q.sz)) := by rw [← hpp]; exact List.mem_map.2 ⟨q, hq, rfl⟩
      obtain ⟨q', hq', e⟩ := List.mem_map.1 this
      simp only [Prod.mk.injEq] at e
      exact ⟨q', hq', e.1, e.2⟩
    have hw' := hC.world.mcalled (f := idOf ids) (post := post) hmf (fun q hq => by
        obtain ⟨q', hq', e1, e2⟩ := hpid q hq
        obtain ⟨o1, ds, ho1, hty, hsz, _⟩ := preOk_mem hpre q' hq'
        exact ⟨⟨o1, by rw [← e1]; exact ho1, by rw [hsz, e2]⟩, hel q hq⟩)
      (fun id b s hm => by
        have := hmid _ _ _ hm
        rw [hids] at this
        obtain ⟨q, hq, rfl⟩ := List.mem_map.1 this
        have h3 : (q.id, q.sz) ∈ post.map (fun q => (q.id, q.sz)) := by rw [hpp]; exact List.mem_map.2 ⟨q, hq, rfl⟩
        obtain ⟨q', hq', e⟩ := List.mem_map.1 h3
        simp only [Prod.mk.injEq] at e
        exact ⟨q', hq', e.1⟩) hkle hks hb hnew hpo
    have hgle : GhLe γ ⟨K', γ.m, γ.τ⟩ := ⟨hkle, fun _ _ h => h, fun _ _ h => h⟩
    exact hK _ _ _ _ ((hC.upworld hgle hw').put (Rep.ofD hr) hd')
  | own hg ho hf hds hle hid hidn hel hcall =>
    rename_i f args argTypes g first caps ds ds' id ty sz xs
    rw [guardOf_sound hC hg, if_pos rfl]
    left
    obtain ⟨⟨fn, hfn, hbody, hname⟩, hcalls⟩ := hcall
    have hfr := asFn_rep (hC.look f) hf
    have hargs := args_rep hC args
    have hrun : ∃ vs, RepL γ (first ++ args.toList.map st.look ++ caps) vs ∧ (execOp a.eval o).run P w = .ok (.enter g vs.toArray) w := by
      generalize hfv : a.eval f = fv at hfr
      cases hfr with
      | fn _ _ _ vf vc hlf hlc hff hcc =>
        refine ⟨vf ++ (args.map a.eval).toList ++ vc, ((RepL.append ⟨hlf, hff⟩ hargs).append ⟨hlc, hcc⟩), ?_⟩
        have e1 : (vf.toArray ++ args.map a.eval ++ vc.toArray) = (vf ++ (args.map a.eval).toList ++ vc).toArray := by
          apply Array.ext'; simp
        have hb2 : fn.body.isNone = false := hbody
        obtain ⟨dst, op, type, pos, after, guard⟩ := o
        simp only at ho
        subst ho
        simp only [execOp, resolve, hfv, Deferred.ofValue, Sem.run_bind, Sem.run_pure, Result.andThen_ok, invoke, callFunc, run_program, hfn, e1, hname, hb2, Bool.false_eq_true, if_false]
    obtain ⟨vs, hvs, hrun⟩ := hrun
    unfold Oper.wp
    rw [hrun]
    simp only [Oper.upon]
    refine (hcalls γ.K w vs hC.world.ksub (hle _ _ (RepL.toDs hvs hds))).mono fun e w' ⟨v, K', he, hkle, hks, hb, hnew, blk, cap, cs, spare, hv, hcap, hblk, hheap, hr, h1, hfree⟩ => ?_
    subst he
    subst hv
    have hw' := hC.world.ocalled hkle hks hb hnew hid hidn (o := (⟨0, ty, sz, xs⟩ : PO).ob) hblk hheap (by
        show RepL _ (flat (xs.map PV.ofD.PV.ofD1)) _
        rw [flat_ofD1]
        exact hr.toRep) h1 (fun e he => by
        obtain ⟨d, hd, rfl⟩ := List.mem_map.1 he
        have : (PV.ofD.PV.ofD1 d).cells.length = d.cells.length := by cases d <;> simp [PV.ofD.PV.ofD1, PV.cells, D.cells]
        rw [this]; exact hel d hd) hfree
    have hgle : GhLe γ ⟨K', upd γ.m id (some (blk, sz)), γ.τ⟩ := ⟨hkle, fun i x hx => by
      by_cases hi : i = id
      · subst hi; rw [hC.world.nob i hid] at hx; cases hx
      · exact (upd_other _ _ _ _ hi).trans hx, fun _ _ h => h⟩
    have hrow : Rep ⟨K', upd γ.m id (some (blk, sz)), γ.τ⟩ (.hrow id sz 0 xs.length xs.length) (.slice (some ⟨blk, 0, none⟩) xs.length cap) := by
      have := Rep.hrow (γ := ⟨K', upd γ.m id (some (blk, sz)), γ.τ⟩) (id := id) (sz := sz) (lo := 0) (len := xs.length) (cap := xs.length) (c := cap) (blk := blk) (upd_same _ _ _) hcap hcap
      rwa [Nat.zero_mul] at this
    exact hK _ _ _ _ ((hC.upworld hgle hw').put hrow hd')

/-! ### Operations one after the other -/

/-- The objects, in a state that is written out. -/
def SL.objs (f : Nat → Nat) : List PO → SL → SL
  | [], s => s
  | q :: qs, s => ⟨s.tm, ins (SL.objs f qs s).ob (f q.id) (some q.ob), s.tk⟩
theorem SL.of_objs (f : Nat → Nat) : ∀ (l : List PO) (s : SL), (s.objs f l).of = ⟨s.of.tm, obAfter f l s.of.ob, s.of.tk⟩
  | [], s => rfl
  | q :: l, s => by
    have ih := SL.of_objs f l s
    have : (SL.objs f l s).of.ob = obAfter f l s.of.ob := by rw [ih]
    simp only [SL.objs, SL.of, obAfter, lk_ins_fun] at this ⊢
    rw [this]

/-- In the order of the text. -/
inductive ROps (P : Program) (T : Nat → Option TI) (ops : Array Oper) (n : Nat) (m : Bool) (Q : SL → Prop) : List Oper → SL → Prop
  | nil {s} (h : Q s) : ROps P T ops n m Q [] s
  | cons {o os s v e} (hd : dstOk n o.dst = true) (h : RVal P T ops o s.of v e) (hr : ROps P T ops n m Q os ((s.eff e).put o.dst v)) : ROps P T ops n m Q (o :: os) s
  | mcons {o os s v f post} (hm : m = true) (hd : dstOk n o.dst = true) (h : MVal P T ops o s.of v f post) (hr : ROps P T ops n m Q os ((s.objs f post).put o.dst v)) : ROps P T ops n m Q (o :: os) s

theorem ROps.wpOps (hT : TabOk P T) {ops : Array Oper} {m : Bool} {Q : SL → Prop} {Q' : Exit → Act → World → Prop} (hQ : ∀ s γ own a w, Q s → Conc E γ own s.of a w → Q' .normal a w) :
    ∀ (os : List Oper) (k : Nat), (∀ j, os[j]? = ops[k + j]?) → ∀ {s : SL} {γ own a w}, ROps P T ops E.n m Q os s → Conc E γ own s.of a w → Go.wpOps P ops Q' (List.range' k os.length) a w
  | [], k, _, s, γ, own, a, w, h, hC => by
    cases h with | nil h => exact hQ s γ own a w h hC
  | o :: os, k, hk, s, γ, own, a, w, h, hC => by
    have h0 : ops[k]? = some o := by simpa using (hk 0).symm
    have hk' : ∀ j, os[j]? = ops[k + 1 + j]? := fun j => by have := hk (j + 1); simpa [Nat.add_assoc, Nat.add_comm 1 j] using this
    cases h with
    | cons hd hv hr =>
      rw [List.length_cons, List.range'_succ, wpOps_cons]
      unfold wpOp
      simp only [h0]
      refine hv.sound hT hC hd fun γ' own' a' w' _ hC' => ?_
      exact ROps.wpOps hT hQ os (k + 1) hk' hr (by rw [SL.of_put, SL.of_eff]; exact hC')
    | mcons hm hd hv hr =>
      rw [List.length_cons, List.range'_succ, wpOps_cons]
      unfold wpOp
      simp only [h0]
      refine hv.sound hC hd fun γ' own' a' w' hC' => ?_
      exact ROps.wpOps hT hQ os (k + 1) hk' hr (by rw [SL.of_put, SL.of_objs]; exact hC')

end Go.PS

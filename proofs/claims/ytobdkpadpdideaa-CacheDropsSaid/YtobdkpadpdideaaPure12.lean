/-
  States that are written out, and runs of a function's body.
-/
import Derived.Test.YtobdkpadpdideaaPure11
namespace Go.PS
open Go Go.RowKit

/-- A table with numbers for keys. -/
def lk {α : Type} (dflt : α) : List (Nat × α) → Nat → α
  | [], _ => dflt
  | (i, v) :: l, j => if j = i then v else lk dflt l j

def ins {α : Type} : List (Nat × α) → Nat → α → List (Nat × α)
  | [], j, v => [(j, v)]
  | (i, u) :: l, j, v => if j < i then (j, v) :: (i, u) :: l else if j = i then (j, v) :: l else (i, u) :: ins l j v

theorem lk_ins {α : Type} (d : α) : ∀ (l : List (Nat × α)) (j : Nat) (v : α) (k : Nat), lk d (ins l j v) k = if k = j then v else lk d l k
  | [], j, v, k => by simp [ins, lk]
  | (i, u) :: l, j, v, k => by
    simp only [ins]
    split
    · simp [lk]
    · split
      · rename_i h1 h2
        subst h2
        simp only [lk]
        split <;> rfl
      · simp only [lk, lk_ins d l j v k]
        split
        · split
          · omega
          · rfl
        · rfl

theorem lk_ins_fun {α : Type} (d : α) (l : List (Nat × α)) (j : Nat) (v : α) : lk d (ins l j v) = upd (lk d l) j v := by
  funext k
  rw [lk_ins]
  by_cases h : k = j
  · subst h; simp [upd_same]
  · rw [if_neg h, upd_other _ _ _ _ h]

structure SL where
  tm : List (Nat × PV)
  ob : List (Nat × Option OB)
  tk : List (Nat × TS)

def SL.of (s : SL) : St := ⟨lk .any s.tm, lk none s.ob, lk .never s.tk⟩

def SL.look (s : SL) : Operand → PV
  | .tmp t => lk .any s.tm t
  | .const v => ofConst v
  | .global _ => .any
  | .func f => .fn (.func f) [] []

theorem SL.of_look (s : SL) : s.of.look = s.look := by funext x; cases x <;> rfl

def SL.put (s : SL) (dst : Option Nat) (v : PV) : SL := match dst with
  | some d => ⟨ins s.tm d v, s.ob, s.tk⟩
  | none => s

def SL.eff (s : SL) : HEff → SL
  | .none => s
  | .obj id o => ⟨s.tm, ins s.ob id (some o), s.tk⟩
  | .tok none g e size => ⟨s.tm, s.ob, ins s.tk g (.live e size)⟩
  | .tok (some k) g e size => ⟨s.tm, s.ob, ins (ins s.tk k .dead) g (.live e size)⟩

theorem SL.of_put (s : SL) (dst : Option Nat) (v : PV) : (s.put dst v).of = s.of.put dst v := by
  cases dst with
  | none => rfl
  | some d => simp [SL.put, SL.of, St.put, lk_ins_fun]

theorem SL.of_eff (s : SL) (e : HEff) : (s.eff e).of = s.of.eff e := by
  cases e with
  | none => rfl
  | obj id o => simp [SL.eff, SL.of, St.eff, HEff.obA, HEff.tkA, lk_ins_fun]
  | tok k g e size => cases k <;> simp [SL.eff, SL.of, St.eff, HEff.obA, HEff.tkA, tkAfter, lk_ins_fun]

/-- What data may be read as: an empty slice as an empty slice of any elements. -/
def DLe (x y : D) : Prop := ∀ K v, RepD K x v → RepD K y v
def DLeL (xs ys : List D) : Prop := ∀ K vs, RepDL K xs vs → RepDL K ys vs
theorem DLe.refl (x : D) : DLe x x := fun _ _ h => h
theorem DLe.nil (a b : Nat) : DLe (.sl a []) (.sl b []) := fun K v h => by
  obtain ⟨ad, c, rfl, hc, _⟩ := h.sl_flat
  exact .sl_nil _ _ _
theorem DLe.of_eq {x y : D} (h : x = y) : DLe x y := h ▸ DLe.refl x
theorem DLeL.nil : DLeL [] [] := fun _ _ h => h
theorem DLeL.refl (xs : List D) : DLeL xs xs := fun _ _ h => h
theorem DLeL.of_eq {x y : List D} (h : x = y) : DLeL x y := h ▸ DLeL.refl x
theorem DLeL.cons {x y : D} {xs ys : List D} (h : DLe x y) (hs : DLeL xs ys) : DLeL (x :: xs) (y :: ys) := fun K vs hv => by
  obtain ⟨v, vs', rfl, h1, h2⟩ := hv.cons_inv
  exact .cons (h K v h1) (hs K vs' h2)
theorem DLe.agg {xs ys : List D} (h : DLeL xs ys) : DLe (.agg xs) (.agg ys) := fun K v hv => by
  obtain ⟨vs, rfl, hl, h1⟩ := RepD.agg_iff.1 hv
  exact RepD.agg_iff.2 ⟨vs, rfl, h K vs hl, h1⟩
theorem DLe.tup {xs ys : List D} (h : DLeL xs ys) : DLe (.tup xs) (.tup ys) := fun K v hv => by
  obtain ⟨vs, rfl, hl⟩ := RepD.tup_iff.1 hv
  exact RepD.tup_iff.2 ⟨vs, rfl, h K vs hl⟩
theorem DLe.ref {xs ys : List D} (hl : xs.length = ys.length) (h : ∀ (i : Nat) (x y : D), xs[i]? = some x → ys[i]? = some y → DLe x y) : DLe (.ref xs) (.ref ys) := fun K v hv => by
  cases hv with
  | ref _ b o f hk h1 hr =>
    have get : ∀ (j : Nat) (d : D), ys[j]? = some d → ∃ x, xs[j]? = some x := fun j d hd => by
      have := (List.getElem?_eq_some_iff.1 hd).1
      exact ⟨_, List.getElem?_eq_getElem (by omega)⟩
    refine .ref ys b o f (fun j d hd => ?_) (fun j d hd => ?_) (fun j d hd => ?_)
    · obtain ⟨x, hx⟩ := get j d hd; exact hk j x hx
    · obtain ⟨x, hx⟩ := get j d hd; exact h1 j x hx
    · obtain ⟨x, hx⟩ := get j d hd; exact h j x d hx hd K _ (hr j x hx)

/-- A call that only reads what it is given, and gives back data. -/
def PCall (P : Program) (g : FuncId) (ds : List D) (r : D) : Prop :=
  (∃ fn, P.funcs[g]? = some fn ∧ fn.body.isNone = false ∧ (fn.name == "runtime.NumGoroutine") = false) ∧
  ∀ (K : Nat → Nat → Option Value) (w : World) (vs : List Value), KSub K w → RepDL K ds vs →
    Calls P g vs.toArray w fun e w' => ∃ v K', e = .returned v ∧ RepD K' r v ∧ KLe K K' ∧ KSub K' w' ∧ Below w.heap.size w w' ∧ ∀ b o, K' b o ≠ K b o → w.heap.size ≤ b

theorem PCall.le {P : Program} {g : FuncId} {ds : List D} {r r' : D} (h : PCall P g ds r) (hr : DLe r r') : PCall P g ds r' :=
  ⟨h.1, fun K w vs hk hv => (h.2 K w vs hk hv).mono fun _ _ ⟨v, K', h1, h2, h3⟩ => ⟨v, K', h1, hr _ _ h2, h3⟩⟩
theorem PCall.eq {P : Program} {g : FuncId} {ds : List D} {r r' : D} (h : PCall P g ds r) (hr : r = r') : PCall P g ds r' := hr ▸ h

variable {P : Program} {T : Nat → Option TI}
variable {E : Env} {γ : Gh} {own : Nat → Option Nat} {st : St} {a : Act} {w : World}

/-- Behind a call that only reads. -/
theorem ConcW.called {ob : Nat → Option OB} {tk : Nat → TS} {w' : World} (h : ConcW E γ own ob tk w) {K' : Nat → Nat → Option Value} (hle : KLe γ.K K') (hsub : KSub K' w') (hb : Below w.heap.size w w')
    (hnew : ∀ b o, K' b o ≠ γ.K b o → w.heap.size ≤ b) : ConcW E ⟨K', γ.m, γ.τ⟩ own ob tk w' := by
  have hgle : GhLe γ ⟨K', γ.m, γ.τ⟩ := ⟨hle, fun _ _ h => h, fun _ _ h => h⟩
  have hsame : ∀ b o, b < w.heap.size → K' b o = γ.K b o := fun b o hlt => by
    refine Classical.byContradiction fun hne => ?_
    have := hnew b o hne
    omega
  refine ⟨h.k0.trans hle, ?_, hsub, h.below.trans (hb.mono h.lt), ?_, h.nob, h.inj, ?_, h.tinj, h.ntok⟩
  · intro b o hk
    by_cases hlt : b < w.heap.size
    · exact h.knew b o (by rwa [← hsame b o hlt])
    · have := h.lt; omega
  · intro id o ho
    obtain ⟨blk, cs, hm, hok⟩ := h.obj id o ho
    have hlt := (h.mlt hm).1
    exact ⟨blk, cs, hm, hok.keep hgle (hb.block blk hlt) fun off => (hsame blk off hlt).trans (hok.free off)⟩
  · intro t e sz ht
    obtain ⟨v, hv, hok⟩ := h.tok t e sz ht
    refine ⟨v, hv, ?_⟩
    cases ho : own t with
    | none => rw [ho] at hok; exact hok
    | some g =>
      rw [ho] at hok
      obtain ⟨n, cap, cur, hok⟩ := hok
      have hg : g < w.heap.size := (Array.getElem?_eq_some_iff.1 hok.heap).1
      exact ⟨n, cap, cur, hok.keep (hb.block g hg) (fun o hle => (hsame g o hg).trans (hok.free o hle)) hok.noobj⟩

/-! ### One operation of a region -/

/-- Whether a guarded operation is carried out. -/
def guardOf (ops : Array Oper) (tm : Nat → PV) (o : Oper) : Option Bool :=
  match o.guard with
  | none => some true
  | some (j, want) => match (ops[j]?).bind (·.dst) with
    | none => some false
    | some t => match tm t with
      | .d (.bool b) => some (b == want)
      | .tup [] => some false
      | _ => none

theorem guardOf_sound (hC : Conc E γ own st a w) {ops : Array Oper} {o : Oper} {g : Bool} (h : guardOf ops st.tm o = some g) : Region.wanted o (yielded ops a.tmps) = g := by
  unfold guardOf at h
  unfold Region.wanted
  cases hg : o.guard with
  | none => rw [hg] at h; simpa using h
  | some jw =>
    obtain ⟨j, want⟩ := jw
    rw [hg] at h
    simp only at h ⊢
    unfold yielded
    cases hd : (ops[j]?).bind (·.dst) with
    | none => rw [hd] at h; simp at h ⊢; exact h
    | some t =>
      rw [hd] at h
      simp only [Option.bind_some] at h ⊢
      have ht := hC.tm t
      by_cases hlt : t < a.tmps.size
      · have e : a.tmps[t]? = some (a.tmps.getD t undef) := by simp [hlt]
        rw [e]
        split at h
        · rename_i b hb
          rw [hb] at ht
          rw [rep_bool ht]
          simpa using h
        · rename_i hb
          rw [hb] at ht
          obtain ⟨vs, he, hl⟩ := Rep.tup_iff.1 ht
          rw [he]
          simpa using h
        · cases h
      · have e : a.tmps[t]? = none := Array.getElem?_eq_none (Nat.le_of_not_lt hlt)
        have e2 : a.tmps.getD t undef = undef := by simp [e]
        rw [e]
        split at h
        · rename_i b hb
          rw [hb, e2] at ht
          have := rep_bool ht
          cases this
        · simpa using h
        · cases h

def dstOk (n : Nat) : Option Nat → Bool
  | none => true
  | some d => Nat.blt d n

/-- A function's value: which function, what goes ahead of its arguments and behind them. -/
def asFn : PV → Option (FuncId × List PV × List PV)
  | .fn (.func g) a b => some (g, a, b)
  | .d (.fn (.func g) a b) => some (g, a.map .d, b.map .d)
  | _ => none

theorem asFn_rep {γ : Gh} {x : PV} {v : Value} {g : FuncId} {a b : List PV} (h : Rep γ x v) (hx : asFn x = some (g, a, b)) : Rep γ (.fn (.func g) a b) v := by
  unfold asFn at hx
  split at hx
  · cases hx; exact h
  · cases hx
    rename_i a b
    have := Rep.ofD (x := .fn (.func g) a b) (by cases h with | d h => exact h)
    exact this
  · cases hx

/-- What an operation gives and does. -/
inductive RVal (P : Program) (T : Nat → Option TI) (ops : Array Oper) (o : Oper) (st : St) : PV → HEff → Prop
  | skip (hg : guardOf ops st.tm o = some false) : RVal P T ops o st (.tup []) .none
  | ev {v e} (hg : guardOf ops st.tm o = some true) (hc : Op.cutOk o.op = true) (he : evalOp T o.dst o.op st.look st.ob st.tk = some (true, v, e)) : RVal P T ops o st v e
  | call {f args argTypes g first caps ds ds' r} (hg : guardOf ops st.tm o = some true) (ho : o.op = .call { callee := .value f, args, argTypes }) (hf : asFn (st.look f) = some (g, first, caps))
      (hd : PV.toD.toDs (first ++ args.toList.map st.look ++ caps) = some ds) (hle : DLeL ds ds') (hcall : PCall P g ds' r) : RVal P T ops o st (PV.ofD r) .none

theorem RVal.sound (hT : TabOk P T) (hC : Conc E γ own st a w) {ops : Array Oper} {o : Oper} {v : PV} {e : HEff} (hd : dstOk E.n o.dst = true) (h : RVal P T ops o st v e)
    {K : Act → World → Prop} {Q : Exit → Act → World → Prop} (hK : ∀ γ' own' a' w', GhLe γ γ' → Conc E γ' own' ((st.eff e).put o.dst v) a' w' → K a' w') :
    if Region.wanted o (yielded ops a.tmps) then o.wp P a w K Q ∨ (o.asks P a w ∧ LetsOut Q) else K (a.put o.dst undef) w := by
  have hd' : ∀ d, o.dst = some d → d < E.n := fun d hdd => by rw [hdd] at hd; exact Nat.lt_of_lt_of_le (Nat.lt_succ_self _) (Nat.le_of_ble_eq_true (by simpa [dstOk, Nat.blt] using hd))
  cases h with
  | skip hg =>
    rw [guardOf_sound hC hg, if_neg (by simp)]
    exact hK γ own _ _ (GhLe.refl _) (hC.put Rep.undef hd')
  | ev hg hc he =>
    rw [guardOf_sound hC hg, if_pos rfl]
    left
    obtain ⟨u, w', γ', own', hrun, hle, hC'⟩ := evalOp_sound (P := P) hT hC hc he hd'
    unfold Oper.wp
    rcases hrun with hrun | ⟨hrun, rfl⟩
    · rw [hrun]; exact hK γ' own' _ _ hle hC'
    · rw [hrun]; exact hK γ' own' _ _ hle hC'
  | call hg ho hf hds hle hcall =>
    rename_i f args argTypes g first caps ds ds' r
    rw [guardOf_sound hC hg, if_pos rfl]
    left
    obtain ⟨⟨fn, hfn, hbody, hname⟩, hcalls⟩ := hcall
    have hfr := asFn_rep (hC.look f) hf
    have hargs := args_rep hC args
    have hrun : ∃ vs, RepL γ (first ++ args.toList.map st.look ++ caps) vs ∧ (execOp a.eval o).run P w = .ok (.enter g vs.toArray) w := by
      generalize hfv : a.eval f = fv at hfr
      cases hfr with
      | fn _ _ _ vf vc hlf hlc hff hcc =>
        refine ⟨vf ++ (args.map a.eval).toList ++ vc, ((RepL.append ⟨hlf, hff⟩ hargs).append ⟨hlc, hcc⟩), ?_⟩
        have e1 : (vf.toArray ++ args.map a.eval ++ vc.toArray) = (vf ++ (args.map a.eval).toList ++ vc).toArray := by
          apply Array.ext'; simp
        have hb2 : fn.body.isNone = false := hbody
        obtain ⟨dst, op, type, pos, after, guard⟩ := o
        simp only at ho
        subst ho
        simp only [execOp, resolve, hfv, Deferred.ofValue, Sem.run_bind, Sem.run_pure, Result.andThen_ok, invoke, callFunc, run_program, hfn, e1, hname, hb2, Bool.false_eq_true, if_false]
    obtain ⟨vs, hvs, hrun⟩ := hrun
    unfold Oper.wp
    rw [hrun]
    simp only [Oper.upon]
    refine (hcalls γ.K w vs hC.world.ksub (hle _ _ (RepL.toDs hvs hds))).mono fun e w' ⟨v, K', he, hr, hkle, hks, hb, hnew⟩ => ?_
    subst he
    have hw' := hC.world.called hkle hks hb hnew
    have hgle : GhLe γ ⟨K', γ.m, γ.τ⟩ := ⟨hkle, fun _ _ h => h, fun _ _ h => h⟩
    exact hK _ _ _ _ hgle ((hC.upworld (ob' := st.ob) (tk' := st.tk) hgle hw').put (Rep.ofD hr) hd')

/-! ### Operations one after the other -/

/-- In the order of the text. -/
inductive ROps (P : Program) (T : Nat → Option TI) (ops : Array Oper) (n : Nat) (Q : SL → Prop) : List Oper → SL → Prop
  | nil {s} (h : Q s) : ROps P T ops n Q [] s
  | cons {o os s v e} (hd : dstOk n o.dst = true) (h : RVal P T ops o s.of v e) (hr : ROps P T ops n Q os ((s.eff e).put o.dst v)) : ROps P T ops n Q (o :: os) s

theorem ROps.wpOps (hT : TabOk P T) {ops : Array Oper} {Q : SL → Prop} {Q' : Exit → Act → World → Prop} (hQ : ∀ s γ own a w, Q s → Conc E γ own s.of a w → Q' .normal a w) :
    ∀ (os : List Oper) (k : Nat), (∀ j, os[j]? = ops[k + j]?) → ∀ {s : SL} {γ own a w}, ROps P T ops E.n Q os s → Conc E γ own s.of a w → Go.wpOps P ops Q' (List.range' k os.length) a w
  | [], k, _, s, γ, own, a, w, h, hC => by
    cases h with | nil h => exact hQ s γ own a w h hC
  | o :: os, k, hk, s, γ, own, a, w, h, hC => by
    have h0 : ops[k]? = some o := by simpa using (hk 0).symm
    cases h with
    | cons hd hv hr =>
      rw [List.length_cons, List.range'_succ, wpOps_cons]
      unfold wpOp
      simp only [h0]
      refine hv.sound hT hC hd fun γ' own' a' w' _ hC' => ?_
      exact ROps.wpOps hT hQ os (k + 1) (fun j => by have := hk (j + 1); simpa [Nat.add_assoc, Nat.add_comm 1 j] using this) hr (by rw [SL.of_put, SL.of_eff]; exact hC')

end Go.PS

/-
  What the walk uses.
-/
import Derived.Test.YtojgjdcciojpeaaPure14
set_option linter.unusedSimpArgs false
set_option linter.unusedVariables false
namespace Go.PS
open Go Go.RowKit

/-- One operation, carried out. -/
def stepE (T : Nat → Option TI) (n : Nat) (o : Oper) (s : SL) : Option (Bool × SL) :=
  match evalOp T o.dst o.op s.look (lk none s.ob) (lk .never s.tk) with
  | some (c, v, e) => some (dstOk n o.dst && (Op.cutOk o.op && c), (s.eff e).put o.dst v)
  | none => none

def guardE (ops : Array Oper) (o : Oper) (s : SL) : Option Bool := guardOf ops (lk .any s.tm) o

section
variable {P : Program} {T : Nat → Option TI} {ops : Array Oper} {n : Nat} {m : Bool} {Q : SL → Prop} {o : Oper} {os : List Oper} {s s' : SL}

theorem rops_ev {c : Bool} (hg : guardE ops o s = some true) (he : stepE T n o s = some (c, s')) (hc : c = true) (hr : ROps P T ops n m Q os s') : ROps P T ops n m Q (o :: os) s := by
  unfold stepE at he
  split at he
  · rename_i c' v e h
    simp only [Option.some.injEq, Prod.mk.injEq] at he
    obtain ⟨h1, h2⟩ := he
    subst hc; subst h2
    simp only [Bool.and_eq_true] at h1
    obtain ⟨h1, h2, h3⟩ := h1
    subst h3
    exact .cons h1 (.ev hg h2 (by rw [SL.of_look]; exact h)) hr
  · cases he

theorem rops_skip (hg : guardE ops o s = some false) (hd : dstOk n o.dst = true) (hr : ROps P T ops n m Q os (s.put o.dst (.tup []))) : ROps P T ops n m Q (o :: os) s :=
  .cons hd (.skip hg) hr

/-- What a call is about: its function, its arguments, read. -/
def callE (o : Oper) (s : SL) : Option (FuncId × List D) :=
  match o.op with
  | .call { callee := .value f, args, .. } => match asFn (s.look f) with
    | some (g, first, caps) => match PV.toD.toDs (first ++ args.toList.map s.look ++ caps) with
      | some ds => some (g, ds)
      | none => none
    | _ => none
  | _ => none

theorem rops_call {g : FuncId} {ds ds' : List D} {r : D} (hg : guardE ops o s = some true) (he : callE o s = some (g, ds)) (hd : dstOk n o.dst = true) (hle : DLeL ds ds') (hcall : PCall P g ds' r)
    (hr : ROps P T ops n m Q os (s.put o.dst (PV.ofD r))) : ROps P T ops n m Q (o :: os) s := by
  unfold callE at he
  split at he
  · rename_i f args argTypes ho
    split at he
    · rename_i g' first caps hf
      split at he
      · rename_i ds0 hds
        simp only [Option.some.injEq, Prod.mk.injEq] at he
        obtain ⟨rfl, rfl⟩ := he
        exact .cons hd (.call hg ho (by rw [SL.of_look]; exact hf) (by rw [SL.of_look]; exact hds) hle hcall) hr
      · cases he
    · cases he
  · cases he

/-- What a call that is given objects is about. -/
def callF (o : Oper) (s : SL) : Option (FuncId × List PV) :=
  match o.op with
  | .call { callee := .value f, args, .. } => match asFn (s.look f) with
    | some (g, first, caps) => some (g, first ++ args.toList.map s.look ++ caps)
    | _ => none
  | _ => none

theorem rops_mcall (ids : List (Nat × Nat)) {g : FuncId} {pre post : List PO} {as : List MA} {args : List PV} {r : D} (hcall : MCall P g pre as r post) (hg : guardE ops o s = some true) (he : callF o s = some (g, args)) (ha : argsOk ids args as)
    (hids : ids.map (·.1) = pre.map (·.id)) (hnd : (ids.map (·.1)).Nodup) (hnd2 : (ids.map (·.2)).Nodup) (hpre : preOk (lk none s.ob) (idOf ids) pre) (hpp : post.map (fun q => (q.id, q.sz)) = pre.map (fun q => (q.id, q.sz)))
    (hel : ∀ q ∈ post, ∀ e ∈ q.elems, e.cells.length = q.sz) (hd : dstOk n o.dst = true) (hs : (s.objs (idOf ids) post).put o.dst (PV.ofD r) = s') (hr : ROps P T ops n true Q os s') : ROps P T ops n true Q (o :: os) s := by
  unfold callF at he
  split at he
  · rename_i f args0 argTypes ho
    split at he
    · rename_i g' first caps hf
      simp only [Option.some.injEq, Prod.mk.injEq] at he
      obtain ⟨rfl, rfl⟩ := he
      subst hs
      exact .mcons rfl hd (.mk hg ho (by rw [SL.of_look]; exact hf) (by rw [SL.of_look]; exact ha) hids hnd hnd2 hpre hpp hel hcall) hr
    · cases he
  · cases he

end

theorem dLeL_self (xs : List D) : DLeL xs xs ↔ True := ⟨fun _ => trivial, fun _ => DLeL.refl _⟩
theorem dLe_self (x : D) : DLe x x ↔ True := ⟨fun _ => trivial, fun _ => DLe.refl _⟩
theorem dLe_nil (a b : Nat) : DLe (.sl a []) (.sl b []) ↔ True := ⟨fun _ => trivial, fun _ => DLe.nil a b⟩
theorem objs_nil (f : Nat → Nat) (s : SL) : s.objs f [] = s := rfl
theorem objs_cons (f : Nat → Nat) (q : PO) (qs : List PO) (s : SL) : s.objs f (q :: qs) = ⟨s.tm, ins (s.objs f qs).ob (f q.id) (some q.ob), s.tk⟩ := rfl
theorem idOf_eq (ids : List (Nat × Nat)) (i : Nat) : idOf ids i = lk 0 ids i := rfl
theorem poOb_eq (id : Nat) (ty : TypeId) (sz : Nat) (l : List D) : PO.ob ⟨id, ty, sz, l⟩ = ⟨ty, sz, l.map PV.ofD.PV.ofD1⟩ := rfl

/-! ### Evaluation, by rewriting -/

theorem lk_nil {α : Type} (d : α) (j : Nat) : lk d [] j = d := rfl
theorem lk_cons {α : Type} (d : α) (i j : Nat) (v : α) (l : List (Nat × α)) : lk d ((i, v) :: l) j = if j = i then v else lk d l j := rfl
theorem ins_nil {α : Type} (j : Nat) (v : α) : ins [] j v = [(j, v)] := rfl
theorem ins_cons {α : Type} (i j : Nat) (u v : α) (l : List (Nat × α)) : ins ((i, u) :: l) j v = if j < i then (j, v) :: (i, u) :: l else if j = i then (j, v) :: l else (i, u) :: ins l j v := rfl
theorem look_tmp (s : SL) (t : Nat) : s.look (.tmp t) = lk .any s.tm t := rfl
theorem look_const (s : SL) (v : Value) : s.look (.const v) = ofConst v := rfl
theorem look_func (s : SL) (f : FuncId) : s.look (.func f) = .fn (.func f) [] [] := rfl
theorem put_some (s : SL) (d : Nat) (v : PV) : s.put (some d) v = ⟨ins s.tm d v, s.ob, s.tk⟩ := rfl
theorem put_none (s : SL) (v : PV) : s.put none v = s := rfl
theorem eff_none (s : SL) : s.eff .none = s := rfl
theorem eff_obj (s : SL) (id : Nat) (o : OB) : s.eff (.obj id o) = ⟨s.tm, ins s.ob id (some o), s.tk⟩ := rfl
theorem eff_tok0 (s : SL) (g : Nat) (e : TypeId) (size : Nat) : s.eff (.tok none g e size) = ⟨s.tm, s.ob, ins s.tk g (.live e size)⟩ := rfl
theorem eff_tok1 (s : SL) (k g : Nat) (e : TypeId) (size : Nat) : s.eff (.tok (some k) g e size) = ⟨s.tm, s.ob, ins (ins s.tk k .dead) g (.live e size)⟩ := rfl

theorem beqD (a b : Nat) : Nat.beq a b = decide (a = b) := by
  cases h : Nat.beq a b with
  | true => simp [Nat.eq_of_beq_eq_true h]
  | false => simp [Nat.ne_of_beq_eq_false h]
theorem bleD (a b : Nat) : Nat.ble a b = decide (a ≤ b) := by
  rw [Bool.eq_iff_iff]; simp
theorem bltD (a b : Nat) : Nat.blt a b = decide (a < b) := by
  rw [Bool.eq_iff_iff]; simp [Nat.blt, Nat.succ_le_iff]

attribute [go_sem] beqD bleD bltD stepE guardE guardOf callE asFn evalOp evalLoad evalStore evalAlloc evalFieldAddr evalField evalIndexAddr evalIndex evalSlice evalSliceH evalLookup mapElems findP eqKey keyOk evalMapUpdate evalMakeMap evalRange evalNext evalBuiltin evalBin evalUn evalInt evalStr evalBool evalConv bytesOf
  evalBuild evalBuildSlice evalAppend evalMakeSlice val subPV replSub setSub PV.ofD PV.ofD.PV.ofD1 PV.cells PV.cell D.cell D.cells TK.agg asSl boundI placesOf fillP elemsD eqFields eqField ofConst ofConst1 foldI
  callF argsOk argOk preOk postOk margsL MA.pv obsL dLeL_self dLe_self dLe_nil objs_nil objs_cons idOf_eq poOb_eq
  dstOk Op.cutOk argsL PV.toD PV.toD.toDs resOk resD
attribute [go_sem] Option.getD_some Option.getD_none Option.map_some Option.map_none Option.bind_some List.map_cons List.map_nil List.all_cons List.all_nil List.length_cons List.length_nil Bool.and_true Bool.true_and Bool.and_false Bool.false_and
  Bool.or_true Bool.true_or Bool.or_false Bool.false_or Bool.not_true Bool.not_false cond_true cond_false List.getElem?_cons_zero List.getElem?_cons_succ List.getD_cons_zero List.getD_cons_succ List.take_succ_cons List.take_zero List.take_nil List.drop_succ_cons List.drop_zero List.drop_nil
  List.set_cons_zero List.set_cons_succ List.cons_append List.nil_append List.append_nil decide_true decide_false List.headD_cons List.isEmpty_nil List.isEmpty_cons List.replicate_succ List.replicate_zero List.flatten_cons List.flatten_nil
attribute [go_sem] lk_nil lk_cons ins_nil ins_cons look_tmp look_const look_func put_some put_none eff_none eff_obj eff_tok0 eff_tok1

end Go.PS

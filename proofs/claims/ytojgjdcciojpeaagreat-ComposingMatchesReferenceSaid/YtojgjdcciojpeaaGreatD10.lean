/-
  A part of the walks of this seat: each theorem says what a function of the program gives. No condition beyond its own premises.
-/
import Derived.Test.YtojgjdcciojpeaaGreatChecked
import Derived.KernelRfl
import Derived.Test.YtojgjdcciojpeaaGreatD9
namespace Go.PS
open Go Go.RowKit
set_option linter.unusedVariables false
set_option linter.unusedSimpArgs false
set_option maxRecDepth 100000

/-- What is left to show: kept apart from the premises. -/
structure Lft (G : Prop) : Prop where
  out : G
/-- What a walk of a function leans on. -/
structure KS (P : Program) (T : Nat → Option TI) (E : Env) (fn : Func) (f : FuncId) (n : Nat) (ks : List Nat) (rs : List ResultVar) (post : List PO) (res : Option PO) : Prop where
  hrs : fn.results.toList = rs
  hT : TabOk P T
  hfn : P.funcs[f]? = some fn
  hn : E.n = n
  hp : E.post = post
  hr : E.res = res
  hpas : res ≠ none → ∀ i, E.pas i = none

section
variable {P : Program} {T : Nat → Option TI} {E : Env} {fn : Func} {f : FuncId} {r : List D} {k : List Item} {s s' : SL} {n : Nat} {ks : List Nat} {rs : List ResultVar} {post : List PO} {res : Option PO}
theorem run_reg (h : KS P T E fn f n ks rs post res) {id : Nat} {ops : Array Oper} {l : List Oper} (hl : ops.toList = l) (hr : ROps P T ops n true (fun s' => Run P E fn f r k (s'.keep ks).of) l s) : Run P E fn f r (.code (.region id ops false) :: k) s.of := by
  obtain ⟨_, hT, _, rfl, _⟩ := h
  exact run_region' ks hT hl hr
theorem run_regd (h : KS P T E fn f n ks rs post res) (hm : P.follows .mixedOrders = true) {id : Nat} {ops : Array Oper} {l : List Oper} (hl : ops.toList = l) (hB : lexFromS ops ops.size 0 (Array.replicate ops.size false) = true) (hds : dstsOk n l = true)
    (hr : ROps P T ops n false (fun s' => Run P E fn f r k (s'.keep ks).of) l s) : Run P E fn f r (.code (.region id ops true) :: k) s.of := by
  obtain ⟨_, hT, _, rfl, _⟩ := h
  exact run_region_draw' ks hT hm hl hB hds hr
theorem run_condT {c : Operand} {x y : Code} {st : St} (hc : st.look c = .d (.bool true)) (h : Run P E fn f r (.code x :: k) st) : Run P E fn f r (.code (.cond c x y) :: k) st := run_cond hc (fun _ => h) (fun h => by cases h)
theorem run_condF {c : Operand} {x y : Code} {st : St} (hc : st.look c = .d (.bool false)) (h : Run P E fn f r (.code y :: k) st) : Run P E fn f r (.code (.cond c x y) :: k) st := run_cond hc (fun h => by cases h) (fun _ => h)
theorem ret_run (h : KS P T E fn f n ks rs post none) {c : Bool} {ds : List D} (he : resE T s rs = some (c, ds)) (hc : c = true) (hle : dle.dleL ds r) (hp : postOk s post) : Run P E fn f r (.code .ret :: k) s.of :=
  run_ret h.hT h.hfn h.hrs he hc hle (h.hp ▸ hp) h.hr
theorem ret_run0 (h : KS P T E fn f n ks rs post none) {c : Bool} {ds : List D} (he : resE T s rs = some (c, ds)) (hc : c = true) (hle : dle.dleL ds r) (hp : postOk s post) : Run P E fn f r [] s.of :=
  run_ret0 h.hT h.hfn h.hrs he hc hle (h.hp ▸ hp) h.hr
theorem ret_runO {t id : Nat} {ty : TypeId} {sz : Nat} {xs : List D} (h : KS P T E fn f n ks [.tmp t] [] (some ⟨0, ty, sz, xs⟩)) (ht : lk .any s.tm t = .hrow id sz 0 xs.length xs.length) (ho : lk none s.ob id = some (⟨0, ty, sz, xs⟩ : PO).ob) : Run P E fn f r (.code .ret :: k) s.of :=
  (run_endO h.hT h.hfn rfl h.hrs h.hp h.hr (h.hpas (by simp)) ht ho).2 k
theorem ret_runO0 {t id : Nat} {ty : TypeId} {sz : Nat} {xs : List D} (h : KS P T E fn f n ks [.tmp t] [] (some ⟨0, ty, sz, xs⟩)) (ht : lk .any s.tm t = .hrow id sz 0 xs.length xs.length) (ho : lk none s.ob id = some (⟨0, ty, sz, xs⟩ : PO).ob) : Run P E fn f r [] s.of :=
  (run_endO h.hT h.hfn rfl h.hrs h.hp h.hr (h.hpas (by simp)) ht ho).1
theorem ret_runT {t m : Nat} {ty : TypeId} {sz : Nat} {xs : List D} (h : KS P T E fn f n ks [.tmp t] [] (some ⟨1, ty, sz, xs⟩)) (hsz : sz < 1000000) (ht : lk .any s.tm t = .own sz xs (.tok m)) (ho : lk .never s.tk m = .live ty sz) : Run P E fn f r (.code .ret :: k) s.of :=
  (run_endT h.hT h.hfn (q := ⟨1, ty, sz, xs⟩) rfl hsz h.hrs h.hp h.hr ht ho).2 k
theorem ret_runT0 {t m : Nat} {ty : TypeId} {sz : Nat} {xs : List D} (h : KS P T E fn f n ks [.tmp t] [] (some ⟨1, ty, sz, xs⟩)) (hsz : sz < 1000000) (ht : lk .any s.tm t = .own sz xs (.tok m)) (ho : lk .never s.tk m = .live ty sz) : Run P E fn f r [] s.of :=
  (run_endT h.hT h.hfn (q := ⟨1, ty, sz, xs⟩) rfl hsz h.hrs h.hp h.hr ht ho).1
/-- What is asked of a function's text. -/
def fnOk (fn : Func) (n k : Nat) : Bool := Nat.beq fn.ntmps n && Nat.ble n 3000 && Nat.ble k n && !(fn.name == "runtime.NumGoroutine")
theorem enterP (hT : TabOk P T) (hfn : P.funcs[f]? = some fn) (n : Nat) (ks : List Nat) (rs : List ResultVar) (hrs : fn.results.toList = rs) {c : Code} (hc : fn.body = some c) {ds : List D} (hok : fnOk fn n ds.length = true := by kernel_rfl)
    (h : ∀ E : Env, KS P T E fn f n ks rs [] none → Run P E fn f r [.code c] (SL.mk (argsL 0 ds) [] []).of) : PCall P f ds (resD r) := by
  simp only [fnOk, Bool.and_eq_true, Bool.not_eq_true'] at hok
  obtain ⟨⟨⟨h1, h2⟩, h3⟩, h4⟩ := hok
  have h1 := Nat.eq_of_beq_eq_true h1
  have h2 := Nat.le_of_ble_eq_true h2
  have h3 := Nat.le_of_ble_eq_true h3
  exact pcall_run hfn hc h4 (by omega) (by omega) fun E hE hP hR => h E ⟨hrs, hT, hfn, by omega, hP, hR, fun h => absurd rfl h⟩
theorem enterO (hT : TabOk P T) (hfn : P.funcs[f]? = some fn) (n : Nat) (ks : List Nat) (rs : List ResultVar) (hrs : fn.results.toList = rs) {c : Code} (hc : fn.body = some c) {ds : List D} {ty : TypeId} {sz : Nat} {xs : List D} (hok : fnOk fn n ds.length = true := by kernel_rfl)
    (h : ∀ E : Env, KS P T E fn f n ks rs [] (some ⟨0, ty, sz, xs⟩) → Run P E fn f r [.code c] (SL.mk (argsL 0 ds) [] []).of) : OCall P f ds ty sz xs := by
  simp only [fnOk, Bool.and_eq_true, Bool.not_eq_true'] at hok
  obtain ⟨⟨⟨h1, h2⟩, h3⟩, h4⟩ := hok
  have h1 := Nat.eq_of_beq_eq_true h1
  have h2 := Nat.le_of_ble_eq_true h2
  have h3 := Nat.le_of_ble_eq_true h3
  exact ocall_run (r := r) hfn hc h4 (by omega) (by omega) fun E hE hP hR hpas => h E ⟨hrs, hT, hfn, by omega, hP, hR, fun _ => hpas⟩
theorem enterT (hT : TabOk P T) (hfn : P.funcs[f]? = some fn) (n : Nat) (ks : List Nat) (rs : List ResultVar) (hrs : fn.results.toList = rs) {c : Code} (hc : fn.body = some c) {ds : List D} {ty : TypeId} {sz : Nat} {xs : List D} (hok : fnOk fn n ds.length = true := by kernel_rfl)
    (h : ∀ E : Env, KS P T E fn f n ks rs [] (some ⟨1, ty, sz, xs⟩) → Run P E fn f r [.code c] (SL.mk (argsL 0 ds) [] []).of) : TCall P f ds ty sz xs := by
  simp only [fnOk, Bool.and_eq_true, Bool.not_eq_true'] at hok
  obtain ⟨⟨⟨h1, h2⟩, h3⟩, h4⟩ := hok
  have h1 := Nat.eq_of_beq_eq_true h1
  have h2 := Nat.le_of_ble_eq_true h2
  have h3 := Nat.le_of_ble_eq_true h3
  exact tcall_run (r := r) hfn hc h4 (by omega) (by omega) fun E hE hP hR hpas => h E ⟨hrs, hT, hfn, by omega, hP, hR, fun _ => hpas⟩
theorem enterM (hT : TabOk P T) (hfn : P.funcs[f]? = some fn) (n : Nat) (ks : List Nat) (rs : List ResultVar) (hrs : fn.results.toList = rs) {c : Code} (hc : fn.body = some c) {pre : List PO} {ds : List MA} (hel : ∀ q ∈ pre, ∀ e ∈ q.elems, e.cells.length = q.sz) (hids : ∀ q ∈ pre, ∃ q' ∈ post, q'.id = q.id)
    (hok : fnOk fn n ds.length = true := by kernel_rfl) (h : ∀ E : Env, KS P T E fn f n ks rs post none → Run P E fn f r [.code c] (SL.mk (margsL 0 ds) (obsL pre) []).of) : MCall P f pre ds (resD r) post := by
  simp only [fnOk, Bool.and_eq_true, Bool.not_eq_true'] at hok
  obtain ⟨⟨⟨h1, h2⟩, h3⟩, h4⟩ := hok
  have h1 := Nat.eq_of_beq_eq_true h1
  have h2 := Nat.le_of_ble_eq_true h2
  have h3 := Nat.le_of_ble_eq_true h3
  exact mcall_run hfn hc h4 (by omega) (by omega) hel hids fun E hE hP hR => h E ⟨hrs, hT, hfn, by omega, hP, hR, fun h => absurd rfl h⟩
/-- Some slots, objects, tokens of a state put anew. -/
def insAll {α : Type} : List (Nat × α) → List (Nat × α) → List (Nat × α)
  | l, [] => l
  | l, (i, v) :: c => insAll (ins l i v) c
theorem insAll_nil {α : Type} (l : List (Nat × α)) : insAll l [] = l := rfl
theorem insAll_cons {α : Type} (l c : List (Nat × α)) (i : Nat) (v : α) : insAll l ((i, v) :: c) = insAll (ins l i v) c := rfl
/-- A loop whose head is told by what changes of the state before it. -/
theorem Run.loopC {c : Code} {ι : Type} (U : ι → List (Nat × PV)) (O : ι → List (Nat × Option OB)) (K : ι → List (Nat × TS)) (μ : ι → Nat) (i0 : ι) :
    leTm (insAll s.ob (O i0)) (insAll s.tk (K i0)) s.tm (insAll s.tm (U i0)) → leOb (insAll s.ob (O i0)) (insAll s.tk (K i0)) s.ob (insAll s.ob (O i0)) → leTk s.tk (insAll s.tk (K i0)) →
    (∀ i, (∀ (j : ι) (s' : SL), leTm (insAll s.ob (O j)) (insAll s.tk (K j)) s'.tm (insAll s.tm (U j)) → leOb (insAll s.ob (O j)) (insAll s.tk (K j)) s'.ob (insAll s.ob (O j)) → leTk s'.tk (insAll s.tk (K j)) → μ j < μ i → Run P E fn f r (.inLoop c :: k) s'.of) →
      Run P E fn f r (.code c :: .inLoop c :: k) (SL.mk (insAll s.tm (U i)) (insAll s.ob (O i)) (insAll s.tk (K i))).of) →
    Run P E fn f r (.code (.loop c) :: k) s.of :=
  fun h1 h2 h3 h4 => Run.loop (fun i => ⟨insAll s.tm (U i), insAll s.ob (O i), insAll s.tk (K i)⟩) μ i0 h1 h2 h3 h4
end
attribute [go_sem] insAll_nil insAll_cons List.countP_nil List.range_zero List.filter_nil List.map_nil List.take_zero List.foldl_nil List.length_append eq_self Int.reduceEq Int.reduceLT Int.reduceLE Int.reduceAdd Int.reduceSub Int.reduceNeg
/-- The value of an operation that leaves the objects aas they are. -/
def evalV (T : Nat → Option TI) (o : Oper) (s : SL) : Option (Bool × PV) :=
  match evalOp T o.dst o.op s.look (lk none s.ob) (lk .never s.tk) with
  | some (c, v, .none) => bif Op.cutOk o.op then some (c, v) else none
  | _ => none
section
variable {P : Program} {T : Nat → Option TI} {ops : Array Oper} {n : Nat} {m : Bool} {Q : SL → Prop} {o : Oper} {os : List Oper} {s s' : SL}
theorem rops_spec {g c : Bool} {v : PV} (hg : guardE ops o s = some g) (he : g = true → evalV T o s = some (c, v)) (hc : g = true → c = true) (hd : dstOk n o.dst = true) (hs : s.put o.dst (bif g then v else .tup []) = s') (hr : ROps P T ops n m Q os s') : ROps P T ops n m Q (o :: os) s := by
  subst hs
  cases g with
  | false => exact rops_skip hg hd hr
  | true =>
    have he := he rfl
    have hc := hc rfl
    subst hc
    unfold evalV at he
    split at he
    · rename_i c' v' heq
      cases hq : Op.cutOk o.op with
      | false => rw [hq] at he; cases he
      | true =>
        rw [hq] at he
        simp only [cond_true, Option.some.injEq, Prod.mk.injEq] at he
        obtain ⟨rfl, rfl⟩ := he
        refine rops_ev hg (c := true) (s' := s.put o.dst v') ?_ rfl hr
        simp only [stepE, heq, hd, hq, Bool.true_and, SL.eff, Option.map_some, cond_true]
    · cases he
theorem rops_scall {gd : Bool} {g : FuncId} {ds ds' : List D} {r : D} (hg : guardE ops o s = some gd) (hcall : PCall P g ds' r) (he : gd = true → callE o s = some (g, ds)) (hd : dstOk n o.dst = true) (hle : gd = true → DLeL ds ds')
    (hs : s.put o.dst (bif gd then PV.ofD r else .tup []) = s') (hr : ROps P T ops n m Q os s') : ROps P T ops n m Q (o :: os) s := by
  subst hs
  cases gd with
  | false => exact rops_skip hg hd hr
  | true => exact rops_call hg (he rfl) hd (hle rfl) hcall hr
theorem cond_then {α : Type} (t : Bool) (x y z : α) : (bif t then (bif t then x else y) else z) = bif t then x else z := by cases t <;> rfl
theorem cond_else {α : Type} (t : Bool) (x y z : α) : (bif t then x else (bif t then y else z)) = bif t then x else z := by cases t <;> rfl
theorem cond_elsen {α : Type} (t : Bool) (x y z : α) : (bif t then x else (bif !t then y else z)) = bif t then x else y := by cases t <;> rfl
theorem cond_and (t v : Bool) : (bif t then PV.d (.bool v) else PV.d (.bool false)) = PV.d (.bool (t && v)) := by cases t <;> rfl
theorem cond_or (t v : Bool) : (bif t then PV.d (.bool true) else PV.d (.bool v)) = PV.d (.bool (t || v)) := by cases t <;> rfl
end
attribute [go_sem] evalV cond_then cond_else cond_elsen cond_and cond_or
/-- Which objects a call is given. -/
structure IdsAre (ids : List (Nat × Nat)) : Prop
theorem rops_mcallI {P : Program} {T : Nat → Option TI} {ops : Array Oper} {n : Nat} {Q : SL → Prop} {o : Oper} {os : List Oper} {s s' : SL} {ids : List (Nat × Nat)} (_h : IdsAre ids) {g : FuncId} {pre post : List PO} {aas : List MA} {args : List PV} {r : D} (hcall : MCall P g pre aas r post) (hg : guardE ops o s = some true) (he : callF o s = some (g, args)) (ha : argsOk ids args aas)
    (hids : ids.map (·.1) = pre.map (·.id)) (hnd : (ids.map (·.1)).Nodup) (hnd2 : (ids.map (·.2)).Nodup) (hpre : preOk (lk none s.ob) (idOf ids) pre) (hpp : post.map (fun q => (q.id, q.sz)) = pre.map (fun q => (q.id, q.sz)))
    (hel : ∀ q ∈ post, ∀ e ∈ q.elems, e.cells.length = q.sz) (hd : dstOk n o.dst = true) (hs : (s.objs (idOf ids) post).put o.dst (PV.ofD r) = s') (hr : ROps P T ops n true Q os s') : ROps P T ops n true Q (o :: os) s :=
  rops_mcall ids hcall hg he ha hids hnd hnd2 hpre hpp hel hd hs hr
theorem rops_ocall {P : Program} {T : Nat → Option TI} {ops : Array Oper} {n : Nat} {Q : SL → Prop} {o : Oper} {os : List Oper} {s s' : SL} (id : Nat) {g : FuncId} {ds ds' : List D} {ty : TypeId} {sz : Nat} {xs : List D} (hcall : OCall P g ds' ty sz xs) (hg : guardE ops o s = some true) (he : callE o s = some (g, ds)) (hle : DLeL ds ds')
    (hid : lk none s.ob id = none) (hidn : id < 3000) (hel : ∀ e ∈ xs, e.cells.length = sz) (hd : dstOk n o.dst = true) (hs : (s.objs (fun _ => id) [⟨0, ty, sz, xs⟩]).put o.dst (.hrow id sz 0 xs.length xs.length) = s') (hr : ROps P T ops n true Q os s') : ROps P T ops n true Q (o :: os) s := by
  unfold callE at he
  split at he
  · rename_i f args argTypes ho
    split at he
    · rename_i g' first caps hf
      split at he
      · rename_i ds0 hds
        simp only [Option.some.injEq, Prod.mk.injEq] at he
        obtain ⟨rfl, rfl⟩ := he
        subst hs
        exact .mcons rfl hd (.own hg ho (by rw [SL.of_look]; exact hf) (by rw [SL.of_look]; exact hds) hle hid hidn hel hcall) hr
      · cases he
    · cases he
  · cases he
theorem rops_tcall {P : Program} {T : Nat → Option TI} {ops : Array Oper} {n : Nat} {Q : SL → Prop} {o : Oper} {os : List Oper} {s s' : SL} {d : Nat} {g : FuncId} {m : Bool} {ds ds' : List D} {ty : TypeId} {sz : Nat} {xs : List D} (hcall : TCall P g ds' ty sz xs) (hg : guardE ops o s = some true) (he : callE o s = some (g, ds)) (hle : DLeL ds ds')
    (hdst : o.dst = some d) (htk : lk .never s.tk d = .never) (hsz : sz < 1000000) (hd : dstOk n o.dst = true) (hs : (s.eff (.tok none d ty sz)).put o.dst (.own sz xs (.tok d)) = s') (hr : ROps P T ops n m Q os s') : ROps P T ops n m Q (o :: os) s := by
  unfold callE at he
  split at he
  · rename_i f args argTypes ho
    split at he
    · rename_i g' first caps hf
      split at he
      · rename_i ds0 hds
        simp only [Option.some.injEq, Prod.mk.injEq] at he
        obtain ⟨rfl, rfl⟩ := he
        subst hs
        exact .cons hd (.tcall hg ho (by rw [SL.of_look]; exact hf) (by rw [SL.of_look]; exact hds) hle hdst htk hsz hcall) hr
      · cases he
    · cases he
  · cases he
theorem run_eq {P : Program} {E : Env} {fn : Func} {f : FuncId} {r r' : List D} {k : List Item} {st st' : St} (hr : r = r') (hs : st = st') (h : Run P E fn f r' k st') : Run P E fn f r k st := by subst hr; subst hs; exact h

theorem wgo {G G' : Prop} (g : G') (h : Lft G' → G := by intro g; (repeat (first | apply run_seq | apply run_block | apply run_skip | apply run_inBlock | (apply run_exit; (case hk => rfl)) | (apply run_condT; (case hc => first | rfl | (simp only [go_sem]; rfl))) | (apply run_condF; (case hc => first | rfl | (simp only [go_sem]; rfl))) | (apply run_reg (hl := rfl); (case h => assumption)) | (apply run_regd (hl := rfl); (case h => assumption); (case hm => rfl); (case hB => kernel_rfl); (case hds => simp only [go_sem])) | (apply ROps.nil; simp only [go_sem]) | (apply rops_ev; (case hg => simp only [go_sem]); (case he => simp only [go_sem]; first | exact ⟨rfl, rfl⟩ | rfl); (case hc => (first | (simp only [go_sem, decide_eq_true_eq]; done) | (simp only [go_sem, inR_i64, inR_u8, inR_i32, Bool.and_eq_true, decide_eq_true_eq] <;> (first | omega | (simp only [decide_eq_true_eq]; omega)))))) | (apply rops_skip'; (case hg => simp only [go_sem]); (case hd => simp only [go_sem]); (case hs => simp only [go_sem]; rfl)) | (apply rops_spec; (case hg => simp only [go_sem]; rfl); (case he => intro hgd; (try simp only [Bool.and_eq_true, Bool.or_eq_true, Bool.not_eq_true', decide_eq_true_eq] at hgd); simp only [go_sem, hgd]; first | exact ⟨rfl, rfl⟩ | rfl); (case hc => intro hgd; (try simp only [Bool.and_eq_true, Bool.or_eq_true, Bool.not_eq_true', decide_eq_true_eq] at hgd); (first | (simp only [go_sem, decide_eq_true_eq]; done) | (simp only [go_sem, inR_i64, inR_u8, inR_i32, Bool.and_eq_true, decide_eq_true_eq] <;> (first | omega | (simp only [decide_eq_true_eq]; omega))))); (case hd => simp only [go_sem]); (case hs => simp only [go_sem]; rfl)))); exact g.out) : G := h ⟨g⟩
theorem wone {G G' : Prop} (g : G') (h : Lft G' → G := by intro g; (repeat (first | apply run_seq | apply run_block | apply run_skip | apply run_inBlock | (apply run_exit; (case hk => rfl)) | (apply run_condT; (case hc => first | rfl | (simp only [go_sem]; rfl))) | (apply run_condF; (case hc => first | rfl | (simp only [go_sem]; rfl))))); (first | (apply run_reg (hl := rfl); (case h => assumption)) | (apply run_regd (hl := rfl); (case h => assumption); (case hm => rfl); (case hB => kernel_rfl); (case hds => simp only [go_sem]))); (repeat (first | (apply rops_ev; (case hg => simp only [go_sem]); (case he => simp only [go_sem]; first | exact ⟨rfl, rfl⟩ | rfl); (case hc => (first | (simp only [go_sem, decide_eq_true_eq]; done) | (simp only [go_sem, inR_i64, inR_u8, inR_i32, Bool.and_eq_true, decide_eq_true_eq] <;> (first | omega | (simp only [decide_eq_true_eq]; omega)))))) | (apply rops_skip'; (case hg => simp only [go_sem]); (case hd => simp only [go_sem]); (case hs => simp only [go_sem]; rfl)))); (apply ROps.nil; simp only [go_sem]); exact g.out) : G := h ⟨g⟩
theorem wcall {A G G' : Prop} (c : A) (g : G') (h : A → Lft G' → G := by intro c g; (apply rops_call' (hcall := c); (case hg => simp only [go_sem]); (case he => simp only [go_sem]; first | exact ⟨rfl, rfl⟩ | rfl); (case hd => simp only [go_sem]); (case hle => first | exact DLeL.refl _ | (refine dleL_leL ?_; simp only [go_sem])); (case hs => simp only [go_sem]; rfl)); exact g.out) : G := h c ⟨g⟩
theorem wscall {A G G' : Prop} (c : A) (g : G') (h : A → Lft G' → G := by intro c g; (apply rops_scall (hcall := c); (case hg => simp only [go_sem]; rfl); (case he => intro hgd; (try simp only [Bool.and_eq_true, Bool.or_eq_true, Bool.not_eq_true', decide_eq_true_eq] at hgd); simp only [go_sem, hgd]; first | exact ⟨rfl, rfl⟩ | rfl); (case hd => simp only [go_sem]); (case hle => intro hgd; first | exact DLeL.refl _ | (refine dleL_leL ?_; simp only [go_sem])); (case hs => simp only [go_sem]; rfl)); exact g.out) : G := h c ⟨g⟩
theorem wmcall {A B G G' : Prop} (ids : List (Nat × Nat)) (hel : B) (c : A) (g : G') (h : IdsAre ids → B → A → Lft G' → G := by intro ids hel c g; (apply rops_mcallI ids (hcall := c); (case hg => simp only [go_sem]); (case he => simp only [go_sem]; first | exact ⟨rfl, rfl⟩ | rfl); (case ha => simp only [go_sem]; first | done | ((repeat' apply And.intro) <;> first | rfl | exact ⟨_, rfl, DLe.refl _⟩ | omega | (simp; done))); (case hids => rfl); (case hnd => decide); (case hnd2 => decide); (case hpre => exact ⟨⟨_, _, rfl, rfl, rfl, toDs_ofD1 _, DLeL.refl _⟩, trivial⟩); (case hpp => rfl); (case hel => exact hel); (case hd => simp only [go_sem]); (case hs => simp only [go_sem]; rfl)); exact g.out) : G := h ⟨⟩ hel c ⟨g⟩
theorem wocall {A B G G' : Prop} (id : Nat) (hel : B) (c : A) (g : G') (h : B → A → Lft G' → G := by intro hel c g; (apply rops_ocall id (hcall := c); (case hg => simp only [go_sem]); (case he => simp only [go_sem]; first | exact ⟨rfl, rfl⟩ | rfl); (case hle => first | exact DLeL.refl _ | (refine dleL_leL ?_; simp only [go_sem])); (case hid => simp only [go_sem]); (case hidn => decide); (case hel => exact hel); (case hd => simp only [go_sem]); (case hs => simp only [go_sem]; rfl)); exact g.out) : G := h hel c ⟨g⟩
theorem wreto {G : Prop} (h : G := by (first | apply ret_runO | apply ret_runO0); (case h => assumption); (case ht => simp only [go_sem]; rfl); (case ho => simp only [go_sem]; rfl)) : G := h 
theorem wret {G : Prop} (h : G := by (first | apply ret_run | apply ret_run0); (case h => assumption); (case he => simp only [go_sem, List.toList_toArray]; first | exact ⟨rfl, rfl⟩ | rfl); (case hc => (first | (simp only [go_sem, decide_eq_true_eq]; done) | (simp only [go_sem, inR_i64, inR_u8, inR_i32, Bool.and_eq_true, decide_eq_true_eq] <;> (first | omega | (simp only [decide_eq_true_eq]; omega))))); (case hp => first | exact trivial | exact ⟨⟨Nat.le_of_ble_eq_true rfl, _, _, rfl, rfl, toDs_ofD1 _, DLeL.refl _⟩, trivial⟩); (case hle => simp only [go_sem])) : G := h 
theorem wretq {G G' : Prop} (g : G') (h : Lft G' → G := by intro g; (first | apply ret_run | apply ret_run0); (case h => assumption); (case he => simp only [go_sem, List.toList_toArray]; first | exact ⟨rfl, rfl⟩ | rfl); (case hc => (first | (simp only [go_sem, decide_eq_true_eq]; done) | (simp only [go_sem, inR_i64, inR_u8, inR_i32, Bool.and_eq_true, decide_eq_true_eq] <;> (first | omega | (simp only [decide_eq_true_eq]; omega))))); (case hp => first | exact trivial | exact ⟨⟨Nat.le_of_ble_eq_true rfl, _, _, rfl, rfl, toDs_ofD1 _, DLeL.refl _⟩, trivial⟩); (case hle => simp only [go_sem]; exact g.out)) : G := h ⟨g⟩
theorem wlp {A B C D G : Prop} (l : A → B → C → D → G) (d : D) (ha : A := by (try (simp only [go_sem])); (try ((repeat' apply And.intro) <;> first | rfl | omega | skip))) (hb : B := by (try (simp only [go_sem])); (try ((repeat' apply And.intro) <;> first | rfl | omega | skip))) (hc : C := by (try (simp only [go_sem])); (try ((repeat' apply And.intro) <;> first | rfl | omega | skip))) : G := l ha hb hc d
theorem wnxt {A G : Prop} (ih : A) (h : A → G := by intro ih ; exact ih _ (by (try (simp only [go_sem])); (try ((repeat' apply And.intro) <;> first | rfl | omega | skip))) (by (try (simp only [go_sem])); (try ((repeat' apply And.intro) <;> first | rfl | omega | skip))) (by (try (simp only [go_sem])); (try ((repeat' apply And.intro) <;> first | rfl | omega | skip))) (by (try dsimp only); first | omega | (simp only [List.length_append, List.length_cons, List.length_nil]; omega))) : G := h ih 
theorem wgoF {G G' : Prop} {F : Prop} (f : F) (g : G') (h : F → Lft G' → G := by intro f g; (repeat (first | apply run_seq | apply run_block | apply run_skip | apply run_inBlock | (apply run_exit; (case hk => rfl)) | (apply run_condT; (case hc => first | rfl | (simp only [go_sem, f]; rfl))) | (apply run_condF; (case hc => first | rfl | (simp only [go_sem, f]; rfl))) | (apply run_reg (hl := rfl); (case h => assumption)) | (apply run_regd (hl := rfl); (case h => assumption); (case hm => rfl); (case hB => kernel_rfl); (case hds => simp only [go_sem, f])) | (apply ROps.nil; simp only [go_sem, f]) | (apply rops_ev; (case hg => simp only [go_sem, f]); (case he => simp only [go_sem, f]; first | exact ⟨rfl, rfl⟩ | rfl); (case hc => (first | (simp only [go_sem, f, decide_eq_true_eq]; done) | (simp only [go_sem, f, inR_i64, inR_u8, inR_i32, Bool.and_eq_true, decide_eq_true_eq] <;> (first | omega | (simp only [decide_eq_true_eq]; omega)))))) | (apply rops_skip'; (case hg => simp only [go_sem, f]); (case hd => simp only [go_sem, f]); (case hs => simp only [go_sem, f]; rfl)) | (apply rops_spec; (case hg => simp only [go_sem, f]; rfl); (case he => intro hgd; (try simp only [Bool.and_eq_true, Bool.or_eq_true, Bool.not_eq_true', decide_eq_true_eq] at hgd); simp only [go_sem, f, hgd]; first | exact ⟨rfl, rfl⟩ | rfl); (case hc => intro hgd; (try simp only [Bool.and_eq_true, Bool.or_eq_true, Bool.not_eq_true', decide_eq_true_eq] at hgd); (first | (simp only [go_sem, f, decide_eq_true_eq]; done) | (simp only [go_sem, f, inR_i64, inR_u8, inR_i32, Bool.and_eq_true, decide_eq_true_eq] <;> (first | omega | (simp only [decide_eq_true_eq]; omega))))); (case hd => simp only [go_sem, f]); (case hs => simp only [go_sem, f]; rfl)))); exact g.out) : G := h f ⟨g⟩
theorem woneF {G G' : Prop} {F : Prop} (f : F) (g : G') (h : F → Lft G' → G := by intro f g; (repeat (first | apply run_seq | apply run_block | apply run_skip | apply run_inBlock | (apply run_exit; (case hk => rfl)) | (apply run_condT; (case hc => first | rfl | (simp only [go_sem, f]; rfl))) | (apply run_condF; (case hc => first | rfl | (simp only [go_sem, f]; rfl))))); (first | (apply run_reg (hl := rfl); (case h => assumption)) | (apply run_regd (hl := rfl); (case h => assumption); (case hm => rfl); (case hB => kernel_rfl); (case hds => simp only [go_sem, f]))); (repeat (first | (apply rops_ev; (case hg => simp only [go_sem, f]); (case he => simp only [go_sem, f]; first | exact ⟨rfl, rfl⟩ | rfl); (case hc => (first | (simp only [go_sem, f, decide_eq_true_eq]; done) | (simp only [go_sem, f, inR_i64, inR_u8, inR_i32, Bool.and_eq_true, decide_eq_true_eq] <;> (first | omega | (simp only [decide_eq_true_eq]; omega)))))) | (apply rops_skip'; (case hg => simp only [go_sem, f]); (case hd => simp only [go_sem, f]); (case hs => simp only [go_sem, f]; rfl)))); (apply ROps.nil; simp only [go_sem, f]); exact g.out) : G := h f ⟨g⟩
theorem wcallF {A G G' : Prop} (c : A) {F : Prop} (f : F) (g : G') (h : A → F → Lft G' → G := by intro c f g; (apply rops_call' (hcall := c); (case hg => simp only [go_sem, f]); (case he => simp only [go_sem, f]; first | exact ⟨rfl, rfl⟩ | rfl); (case hd => simp only [go_sem, f]); (case hle => first | exact DLeL.refl _ | (refine dleL_leL ?_; simp only [go_sem, f])); (case hs => simp only [go_sem, f]; rfl)); exact g.out) : G := h c f ⟨g⟩
theorem wscallF {A G G' : Prop} (c : A) {F : Prop} (f : F) (g : G') (h : A → F → Lft G' → G := by intro c f g; (apply rops_scall (hcall := c); (case hg => simp only [go_sem, f]; rfl); (case he => intro hgd; (try simp only [Bool.and_eq_true, Bool.or_eq_true, Bool.not_eq_true', decide_eq_true_eq] at hgd); simp only [go_sem, f, hgd]; first | exact ⟨rfl, rfl⟩ | rfl); (case hd => simp only [go_sem, f]); (case hle => intro hgd; first | exact DLeL.refl _ | (refine dleL_leL ?_; simp only [go_sem, f])); (case hs => simp only [go_sem, f]; rfl)); exact g.out) : G := h c f ⟨g⟩
theorem wmcallF {A B G G' : Prop} (ids : List (Nat × Nat)) (hel : B) (c : A) {F : Prop} (f : F) (g : G') (h : IdsAre ids → B → A → F → Lft G' → G := by intro ids hel c f g; (apply rops_mcallI ids (hcall := c); (case hg => simp only [go_sem, f]); (case he => simp only [go_sem, f]; first | exact ⟨rfl, rfl⟩ | rfl); (case ha => simp only [go_sem, f]; first | done | ((repeat' apply And.intro) <;> first | rfl | exact ⟨_, rfl, DLe.refl _⟩ | omega | (simp; done))); (case hids => rfl); (case hnd => decide); (case hnd2 => decide); (case hpre => exact ⟨⟨_, _, rfl, rfl, rfl, toDs_ofD1 _, DLeL.refl _⟩, trivial⟩); (case hpp => rfl); (case hel => exact hel); (case hd => simp only [go_sem, f]); (case hs => simp only [go_sem, f]; rfl)); exact g.out) : G := h ⟨⟩ hel c f ⟨g⟩
theorem wocallF {A B G G' : Prop} (id : Nat) (hel : B) (c : A) {F : Prop} (f : F) (g : G') (h : B → A → F → Lft G' → G := by intro hel c f g; (apply rops_ocall id (hcall := c); (case hg => simp only [go_sem, f]); (case he => simp only [go_sem, f]; first | exact ⟨rfl, rfl⟩ | rfl); (case hle => first | exact DLeL.refl _ | (refine dleL_leL ?_; simp only [go_sem, f])); (case hid => simp only [go_sem, f]); (case hidn => decide); (case hel => exact hel); (case hd => simp only [go_sem, f]); (case hs => simp only [go_sem, f]; rfl)); exact g.out) : G := h hel c f ⟨g⟩
theorem wretoF {G : Prop} {F : Prop} (f : F) (h : F → G := by intro f; (first | apply ret_runO | apply ret_runO0); (case h => assumption); (case ht => simp only [go_sem, f]; rfl); (case ho => simp only [go_sem, f]; rfl)) : G := h f 
theorem wretF {G : Prop} {F : Prop} (f : F) (h : F → G := by intro f; (first | apply ret_run | apply ret_run0); (case h => assumption); (case he => simp only [go_sem, f, List.toList_toArray]; first | exact ⟨rfl, rfl⟩ | rfl); (case hc => (first | (simp only [go_sem, f, decide_eq_true_eq]; done) | (simp only [go_sem, f, inR_i64, inR_u8, inR_i32, Bool.and_eq_true, decide_eq_true_eq] <;> (first | omega | (simp only [decide_eq_true_eq]; omega))))); (case hp => first | exact trivial | exact ⟨⟨Nat.le_of_ble_eq_true rfl, _, _, rfl, rfl, toDs_ofD1 _, DLeL.refl _⟩, trivial⟩); (case hle => simp only [go_sem, f])) : G := h f 
theorem wretqF {G G' : Prop} {F : Prop} (f : F) (g : G') (h : F → Lft G' → G := by intro f g; (first | apply ret_run | apply ret_run0); (case h => assumption); (case he => simp only [go_sem, f, List.toList_toArray]; first | exact ⟨rfl, rfl⟩ | rfl); (case hc => (first | (simp only [go_sem, f, decide_eq_true_eq]; done) | (simp only [go_sem, f, inR_i64, inR_u8, inR_i32, Bool.and_eq_true, decide_eq_true_eq] <;> (first | omega | (simp only [decide_eq_true_eq]; omega))))); (case hp => first | exact trivial | exact ⟨⟨Nat.le_of_ble_eq_true rfl, _, _, rfl, rfl, toDs_ofD1 _, DLeL.refl _⟩, trivial⟩); (case hle => simp only [go_sem, f]; exact g.out)) : G := h f ⟨g⟩
theorem wlpF {A B C D G : Prop} (l : A → B → C → D → G) {F : Prop} (f : F) (d : D) (ha : F → A := by intro f; (try (simp only [go_sem, f])); (try ((repeat' apply And.intro) <;> first | rfl | omega | skip))) (hb : F → B := by intro f; (try (simp only [go_sem, f])); (try ((repeat' apply And.intro) <;> first | rfl | omega | skip))) (hc : F → C := by intro f; (try (simp only [go_sem, f])); (try ((repeat' apply And.intro) <;> first | rfl | omega | skip))) : G := l (ha f) (hb f) (hc f) d
theorem wnxtF {A G : Prop} (ih : A) {F : Prop} (f : F) (h : A → F → G := by intro ih f ; exact ih _ (by (try (simp only [go_sem, f])); (try ((repeat' apply And.intro) <;> first | rfl | omega | skip))) (by (try (simp only [go_sem, f])); (try ((repeat' apply And.intro) <;> first | rfl | omega | skip))) (by (try (simp only [go_sem, f])); (try ((repeat' apply And.intro) <;> first | rfl | omega | skip))) (by (try dsimp only); first | omega | (simp only [List.length_append, List.length_cons, List.length_nil]; omega))) : G := h ih f 
end Go.PS
namespace Go.Proofs.YtojgjdcciojpeaaGreat
open Go Go.PS
set_option maxRecDepth 100000
def tab : List (Nat × TI) := [
  (1, ⟨1, 8, .func, .nilFunc, false⟩),
  (2, ⟨1, 8, .int .i64, .int .i64 0, false⟩),
  (3, ⟨1, 8, .int .i64, .int .i64 0, false⟩),
  (4, ⟨1, 1, .bool, .bool false, false⟩),
  (5, ⟨1, 1, .int .u8, .int .u8 0, false⟩),
  (9, ⟨1, 16, .str, .string ⟨#[]⟩, false⟩),
  (12, ⟨1, 8, .int .u64, .int .u64 0, false⟩),
  (20, ⟨1, 16, .iface, .nilIface, false⟩),
  (21, ⟨1, 4, .int .i32, .int .i32 0, false⟩),
  (22, ⟨1, 24, .slice 119, .slice none 0 0, false⟩),
  (23, ⟨1, 24, .slice 43, .slice none 0 0, false⟩),
  (24, ⟨1, 24, .slice 70, .slice none 0 0, false⟩),
  (25, ⟨6, 80, .struct [(0, 3), (1, 9), (2, 24), (3, 9), (4, 3), (5, 3)], .agg #[.int .i64 0, .string ⟨#[]⟩, .slice none 0 0, .string ⟨#[]⟩, .int .i64 0, .int .i64 0], true⟩),
  (26, ⟨6, 80, .struct [(0, 3), (1, 9), (2, 24), (3, 9), (4, 3), (5, 3)], .agg #[.int .i64 0, .string ⟨#[]⟩, .slice none 0 0, .string ⟨#[]⟩, .int .i64 0, .int .i64 0], true⟩),
  (27, ⟨1, 8, .func, .nilFunc, false⟩),
  (28, ⟨1, 24, .slice 121, .slice none 0 0, false⟩),
  (29, ⟨1, 24, .slice 123, .slice none 0 0, false⟩),
  (30, ⟨1, 24, .slice 116, .slice none 0 0, false⟩),
  (31, ⟨3, 72, .struct [(0, 28), (1, 29), (2, 30)], .agg #[.slice none 0 0, .slice none 0 0, .slice none 0 0], true⟩),
  (32, ⟨3, 72, .struct [(0, 28), (1, 29), (2, 30)], .agg #[.slice none 0 0, .slice none 0 0, .slice none 0 0], true⟩),
  (33, ⟨1, 8, .func, .nilFunc, false⟩),
  (34, ⟨1, 24, .slice 125, .slice none 0 0, false⟩),
  (35, ⟨1, 8, .func, .nilFunc, false⟩),
  (36, ⟨1, 1, .int .i8, .int .i8 0, false⟩),
  (37, ⟨3, 3, .array 3 36, .agg #[.int .i8 0, .int .i8 0, .int .i8 0], false⟩),
  (38, ⟨1, 24, .slice 37, .slice none 0 0, false⟩),
  (39, ⟨1, 24, .slice 26, .slice none 0 0, false⟩),
  (40, ⟨1, 8, .func, .nilFunc, false⟩),
  (41, ⟨1, 24, .slice 5, .slice none 0 0, false⟩),
  (42, ⟨5, 64, .struct [(0, 5), (1, 41), (2, 22), (3, 5), (4, 5)], .agg #[.int .u8 0, .slice none 0 0, .slice none 0 0, .int .u8 0, .int .u8 0], true⟩),
  (43, ⟨5, 64, .struct [(0, 5), (1, 41), (2, 22), (3, 5), (4, 5)], .agg #[.int .u8 0, .slice none 0 0, .slice none 0 0, .int .u8 0, .int .u8 0], true⟩),
  (44, ⟨1, 24, .slice 64, .slice none 0 0, false⟩),
  (45, ⟨1, 8, .int .i64, .int .i64 0, false⟩),
  (47, ⟨1, 8, .func, .nilFunc, false⟩),
  (48, ⟨1, 8, .func, .nilFunc, false⟩),
  (49, ⟨3, 40, .struct [(0, 44), (1, 3), (2, 45)], .agg #[.slice none 0 0, .int .i64 0, .int .i64 0], true⟩),
  (50, ⟨3, 40, .struct [(0, 44), (1, 3), (2, 45)], .agg #[.slice none 0 0, .int .i64 0, .int .i64 0], true⟩),
  (51, ⟨1, 8, .func, .nilFunc, false⟩),
  (53, ⟨1, 8, .func, .nilFunc, false⟩),
  (54, ⟨1, 8, .func, .nilFunc, false⟩),
  (55, ⟨1, 8, .func, .nilFunc, false⟩),
  (56, ⟨1, 8, .func, .nilFunc, false⟩),
  (57, ⟨1, 8, .func, .nilFunc, false⟩),
  (58, ⟨1, 8, .func, .nilFunc, false⟩),
  (59, ⟨1, 8, .func, .nilFunc, false⟩),
  (60, ⟨1, 8, .func, .nilFunc, false⟩),
  (61, ⟨2, 16, .struct [(0, 5), (1, 3)], .agg #[.int .u8 0, .int .i64 0], true⟩),
  (62, ⟨2, 16, .struct [(0, 5), (1, 3)], .agg #[.int .u8 0, .int .i64 0], true⟩),
  (63, ⟨1, 24, .slice 62, .slice none 0 0, false⟩),
  (64, ⟨1, 24, .slice 62, .slice none 0 0, false⟩),
  (65, ⟨1, 8, .func, .nilFunc, false⟩),
  (66, ⟨1, 8, .func, .nilFunc, false⟩),
  (68, ⟨1, 8, .func, .nilFunc, false⟩),
  (69, ⟨2, 16, .struct [(0, 3), (1, 3)], .agg #[.int .i64 0, .int .i64 0], true⟩),
  (70, ⟨2, 16, .struct [(0, 3), (1, 3)], .agg #[.int .i64 0, .int .i64 0], true⟩),
  (71, ⟨1, 8, .func, .nilFunc, false⟩),
  (72, ⟨1, 8, .func, .nilFunc, false⟩),
  (73, ⟨1, 8, .func, .nilFunc, false⟩),
  (74, ⟨1, 24, .slice 78, .slice none 0 0, false⟩),
  (75, ⟨3, 72, .struct [(0, 22), (1, 38), (2, 74)], .agg #[.slice none 0 0, .slice none 0 0, .slice none 0 0], true⟩),
  (76, ⟨3, 72, .struct [(0, 22), (1, 38), (2, 74)], .agg #[.slice none 0 0, .slice none 0 0, .slice none 0 0], true⟩),
  (77, ⟨4, 4, .struct [(0, 5), (1, 5), (2, 5), (3, 5)], .agg #[.int .u8 0, .int .u8 0, .int .u8 0, .int .u8 0], true⟩),
  (78, ⟨4, 4, .struct [(0, 5), (1, 5), (2, 5), (3, 5)], .agg #[.int .u8 0, .int .u8 0, .int .u8 0, .int .u8 0], true⟩),
  (79, ⟨1, 24, .slice 101, .slice none 0 0, false⟩),
  (80, ⟨5, 88, .struct [(0, 39), (1, 44), (2, 3), (3, 79), (4, 3)], .agg #[.slice none 0 0, .slice none 0 0, .int .i64 0, .slice none 0 0, .int .i64 0], true⟩),
  (81, ⟨5, 88, .struct [(0, 39), (1, 44), (2, 3), (3, 79), (4, 3)], .agg #[.slice none 0 0, .slice none 0 0, .int .i64 0, .slice none 0 0, .int .i64 0], true⟩),
  (82, ⟨1, 8, .func, .nilFunc, false⟩),
  (83, ⟨4, 96, .struct [(0, 32), (3, 34)], .agg #[.slice none 0 0, .slice none 0 0, .slice none 0 0, .slice none 0 0], true⟩),
  (84, ⟨4, 96, .struct [(0, 32), (3, 34)], .agg #[.slice none 0 0, .slice none 0 0, .slice none 0 0, .slice none 0 0], true⟩),
  (85, ⟨1, 8, .func, .nilFunc, false⟩),
  (86, ⟨1, 8, .func, .nilFunc, false⟩),
  (88, ⟨1, 8, .func, .nilFunc, false⟩),
  (89, ⟨1, 8, .func, .nilFunc, false⟩),
  (90, ⟨1, 8, .func, .nilFunc, false⟩),
  (92, ⟨1, 8, .func, .nilFunc, false⟩),
  (93, ⟨1, 8, .func, .nilFunc, false⟩),
  (94, ⟨1, 8, .func, .nilFunc, false⟩),
  (95, ⟨1, 8, .func, .nilFunc, false⟩),
  (96, ⟨1, 8, .func, .nilFunc, false⟩),
  (97, ⟨1, 8, .func, .nilFunc, false⟩),
  (98, ⟨1, 8, .func, .nilFunc, false⟩),
  (99, ⟨1, 8, .func, .nilFunc, false⟩),
  (100, ⟨3, 24, .struct [(0, 3), (1, 3), (2, 3)], .agg #[.int .i64 0, .int .i64 0, .int .i64 0], true⟩),
  (101, ⟨3, 24, .struct [(0, 3), (1, 3), (2, 3)], .agg #[.int .i64 0, .int .i64 0, .int .i64 0], true⟩),
  (102, ⟨1, 8, .func, .nilFunc, false⟩),
  (103, ⟨1, 8, .func, .nilFunc, false⟩),
  (104, ⟨1, 8, .func, .nilFunc, false⟩),
  (105, ⟨1, 8, .func, .nilFunc, false⟩),
  (106, ⟨1, 8, .func, .nilFunc, false⟩),
  (107, ⟨1, 8, .func, .nilFunc, false⟩),
  (108, ⟨1, 8, .func, .nilFunc, false⟩),
  (109, ⟨1, 8, .func, .nilFunc, false⟩),
  (110, ⟨1, 8, .func, .nilFunc, false⟩),
  (111, ⟨1, 8, .func, .nilFunc, false⟩),
  (112, ⟨1, 8, .func, .nilFunc, false⟩),
  (114, ⟨1, 8, .func, .nilFunc, false⟩),
  (115, ⟨2, 24, .struct [(0, 9), (1, 5)], .agg #[.string ⟨#[]⟩, .int .u8 0], true⟩),
  (116, ⟨2, 24, .struct [(0, 9), (1, 5)], .agg #[.string ⟨#[]⟩, .int .u8 0], true⟩),
  (117, ⟨1, 8, .func, .nilFunc, false⟩),
  (118, ⟨1, 8, .func, .nilFunc, false⟩),
  (119, ⟨2, 2, .array 2 5, .agg #[.int .u8 0, .int .u8 0], false⟩),
  (120, ⟨5, 40, .struct [(0, 5), (1, 3), (2, 3), (3, 3), (4, 3)], .agg #[.int .u8 0, .int .i64 0, .int .i64 0, .int .i64 0, .int .i64 0], true⟩),
  (121, ⟨5, 40, .struct [(0, 5), (1, 3), (2, 3), (3, 3), (4, 3)], .agg #[.int .u8 0, .int .i64 0, .int .i64 0, .int .i64 0, .int .i64 0], true⟩),
  (122, ⟨2, 32, .struct [(0, 5), (1, 24)], .agg #[.int .u8 0, .slice none 0 0], true⟩),
  (123, ⟨2, 32, .struct [(0, 5), (1, 24)], .agg #[.int .u8 0, .slice none 0 0], true⟩),
  (124, ⟨4, 32, .struct [(0, 5), (1, 3), (2, 3), (3, 3)], .agg #[.int .u8 0, .int .i64 0, .int .i64 0, .int .i64 0], true⟩),
  (125, ⟨4, 32, .struct [(0, 5), (1, 3), (2, 3), (3, 3)], .agg #[.int .u8 0, .int .i64 0, .int .i64 0, .int .i64 0], true⟩),
  (126, ⟨1, 8, .func, .nilFunc, false⟩),
  (127, ⟨1, 24, .slice 9, .slice none 0 0, false⟩),
  (128, ⟨1, 8, .func, .nilFunc, false⟩),
  (129, ⟨13, 104, .array 13 128, .agg #[.nilFunc, .nilFunc, .nilFunc, .nilFunc, .nilFunc, .nilFunc, .nilFunc, .nilFunc, .nilFunc, .nilFunc, .nilFunc, .nilFunc, .nilFunc], false⟩),
  (130, ⟨1, 8, .func, .nilFunc, false⟩),
  (131, ⟨1, 8, .func, .nilFunc, false⟩),
  (132, ⟨1, 8, .func, .nilFunc, false⟩),
  (133, ⟨1, 8, .func, .nilFunc, false⟩),
  (134, ⟨1, 8, .func, .nilFunc, false⟩),
  (135, ⟨1, 8, .func, .nilFunc, false⟩),
  (136, ⟨1, 24, .slice 3, .slice none 0 0, false⟩),
  (137, ⟨1, 8, .func, .nilFunc, false⟩),
  (138, ⟨1, 8, .func, .nilFunc, false⟩),
  (139, ⟨1, 8, .func, .nilFunc, false⟩),
  (140, ⟨1, 8, .func, .nilFunc, false⟩),
  (142, ⟨1, 8, .map 3 140, .map none, false⟩),
  (143, ⟨1, 8, .func, .nilFunc, false⟩),
  (144, ⟨15, 264, .struct [(0, 81), (5, 32), (8, 34), (9, 26)], .agg #[.slice none 0 0, .slice none 0 0, .int .i64 0, .slice none 0 0, .int .i64 0, .slice none 0 0, .slice none 0 0, .slice none 0 0, .slice none 0 0, .int .i64 0, .string ⟨#[]⟩, .slice none 0 0, .string ⟨#[]⟩, .int .i64 0, .int .i64 0], true⟩),
  (145, ⟨15, 264, .struct [(0, 81), (5, 32), (8, 34), (9, 26)], .agg #[.slice none 0 0, .slice none 0 0, .int .i64 0, .slice none 0 0, .int .i64 0, .slice none 0 0, .slice none 0 0, .slice none 0 0, .slice none 0 0, .int .i64 0, .string ⟨#[]⟩, .slice none 0 0, .string ⟨#[]⟩, .int .i64 0, .int .i64 0], true⟩),
  (146, ⟨1, 8, .func, .nilFunc, false⟩),
  (147, ⟨1, 8, .func, .nilFunc, false⟩),
  (148, ⟨1, 8, .func, .nilFunc, false⟩),
  (149, ⟨1, 8, .func, .nilFunc, false⟩),
  (150, ⟨1, 8, .func, .nilFunc, false⟩),
  (151, ⟨1, 8, .func, .nilFunc, false⟩),
  (152, ⟨1, 8, .func, .nilFunc, false⟩),
  (153, ⟨1, 8, .func, .nilFunc, false⟩),
  (154, ⟨1, 8, .func, .nilFunc, false⟩),
  (155, ⟨1, 8, .func, .nilFunc, false⟩),
  (156, ⟨1, 8, .func, .nilFunc, false⟩),
  (157, ⟨1, 8, .func, .nilFunc, false⟩),
  (158, ⟨1, 8, .func, .nilFunc, false⟩),
  (159, ⟨1, 8, .func, .nilFunc, false⟩),
  (161, ⟨1, 8, .func, .nilFunc, false⟩),
  (162, ⟨1, 8, .func, .nilFunc, false⟩),
  (163, ⟨1, 8, .func, .nilFunc, false⟩),
  (164, ⟨1, 24, .slice 136, .slice none 0 0, false⟩),
  (165, ⟨1, 8, .func, .nilFunc, false⟩),
  (166, ⟨1, 8, .func, .nilFunc, false⟩),
  (167, ⟨1, 8, .func, .nilFunc, false⟩),
  (168, ⟨1, 8, .func, .nilFunc, false⟩),
  (169, ⟨1, 8, .func, .nilFunc, false⟩),
  (170, ⟨1, 8, .func, .nilFunc, false⟩),
  (171, ⟨1, 8, .func, .nilFunc, false⟩),
  (172, ⟨1, 8, .func, .nilFunc, false⟩),
  (173, ⟨1, 8, .func, .nilFunc, false⟩),
  (174, ⟨1, 8, .func, .nilFunc, false⟩),
  (175, ⟨1, 8, .map 5 3, .map none, false⟩),
  (176, ⟨1, 8, .func, .nilFunc, false⟩),
  (177, ⟨1, 8, .func, .nilFunc, false⟩),
  (178, ⟨1, 8, .func, .nilFunc, false⟩),
  (179, ⟨1, 8, .func, .nilFunc, false⟩),
  (180, ⟨1, 8, .func, .nilFunc, false⟩),
  (181, ⟨1, 8, .func, .nilFunc, false⟩),
  (182, ⟨1, 8, .func, .nilFunc, false⟩),
  (183, ⟨1, 8, .func, .nilFunc, false⟩),
  (184, ⟨1, 8, .func, .nilFunc, false⟩),
  (185, ⟨1, 8, .func, .nilFunc, false⟩),
  (186, ⟨1, 8, .func, .nilFunc, false⟩),
  (187, ⟨1, 8, .func, .nilFunc, false⟩),
  (188, ⟨1, 24, .slice 172, .slice none 0 0, false⟩),
  (189, ⟨1, 8, .func, .nilFunc, false⟩),
  (190, ⟨1, 8, .func, .nilFunc, false⟩),
  (191, ⟨1, 8, .func, .nilFunc, false⟩),
  (192, ⟨1, 8, .func, .nilFunc, false⟩),
  (193, ⟨1, 8, .func, .nilFunc, false⟩),
  (194, ⟨1, 8, .int .u64, .int .u64 0, false⟩),
  (195, ⟨1, 24, .slice 185, .slice none 0 0, false⟩),
  (196, ⟨1, 8, .func, .nilFunc, false⟩),
  (197, ⟨1, 8, .func, .nilFunc, false⟩),
  (198, ⟨1, 8, .func, .nilFunc, false⟩),
  (199, ⟨1, 8, .func, .nilFunc, false⟩),
  (200, ⟨1, 8, .func, .nilFunc, false⟩),
  (201, ⟨1, 8, .int .i64, .int .i64 0, false⟩),
  (203, ⟨1, 8, .func, .nilFunc, false⟩),
  (204, ⟨1, 8, .func, .nilFunc, false⟩),
  (205, ⟨1, 8, .func, .nilFunc, false⟩),
  (206, ⟨1, 8, .func, .nilFunc, false⟩),
  (207, ⟨1, 8, .func, .nilFunc, false⟩),
  (208, ⟨1, 4, .int .u32, .int .u32 0, false⟩),
  (209, ⟨1, 8, .func, .nilFunc, false⟩),
  (210, ⟨1, 8, .int .u64, .int .u64 0, false⟩),
  (211, ⟨1, 8, .func, .nilFunc, false⟩),
  (212, ⟨1, 8, .func, .nilFunc, false⟩),
  (213, ⟨1, 8, .func, .nilFunc, false⟩),
  (214, ⟨1, 8, .func, .nilFunc, false⟩),
  (215, ⟨1, 8, .func, .nilFunc, false⟩),
  (216, ⟨1, 8, .func, .nilFunc, false⟩),
  (217, ⟨1, 8, .func, .nilFunc, false⟩),
  (218, ⟨1, 8, .int .u64, .int .u64 0, false⟩),
  (219, ⟨1, 8, .func, .nilFunc, false⟩),
  (220, ⟨1, 8, .func, .nilFunc, false⟩),
  (221, ⟨1, 8, .func, .nilFunc, false⟩),
  (222, ⟨1, 8, .ptr 3, .pointer none, false⟩),
  (223, ⟨1, 8, .func, .nilFunc, false⟩),
  (224, ⟨1, 8, .func, .nilFunc, false⟩),
  (225, ⟨1, 8, .func, .nilFunc, false⟩),
  (226, ⟨1, 8, .ptr 218, .pointer none, false⟩),
  (228, ⟨1, 8, .func, .nilFunc, false⟩),
  (229, ⟨1, 8, .func, .nilFunc, false⟩),
  (230, ⟨1, 8, .func, .nilFunc, false⟩),
  (236, ⟨1, 8, .func, .nilFunc, false⟩),
  (240, ⟨1, 8, .ptr 5, .pointer none, false⟩)]
def T (t : Nat) : Option TI := lk none (tab.map fun x => (x.1, some x.2)) t
theorem tab_eq : tab.map (fun x => tabOf Tryz.prog x.1) = tab.map (fun x => some x.2) := by kernel_rfl
@[go_sem] theorem T1 : T 1 = some ⟨1, 8, .func, .nilFunc, false⟩ := rfl
@[go_sem] theorem T2 : T 2 = some ⟨1, 8, .int .i64, .int .i64 0, false⟩ := rfl
@[go_sem] theorem T3 : T 3 = some ⟨1, 8, .int .i64, .int .i64 0, false⟩ := rfl
@[go_sem] theorem T4 : T 4 = some ⟨1, 1, .bool, .bool false, false⟩ := rfl
@[go_sem] theorem T5 : T 5 = some ⟨1, 1, .int .u8, .int .u8 0, false⟩ := rfl
@[go_sem] theorem T9 : T 9 = some ⟨1, 16, .str, .string ⟨#[]⟩, false⟩ := rfl
@[go_sem] theorem T12 : T 12 = some ⟨1, 8, .int .u64, .int .u64 0, false⟩ := rfl
@[go_sem] theorem T20 : T 20 = some ⟨1, 16, .iface, .nilIface, false⟩ := rfl
@[go_sem] theorem T21 : T 21 = some ⟨1, 4, .int .i32, .int .i32 0, false⟩ := rfl
@[go_sem] theorem T22 : T 22 = some ⟨1, 24, .slice 119, .slice none 0 0, false⟩ := rfl
@[go_sem] theorem T23 : T 23 = some ⟨1, 24, .slice 43, .slice none 0 0, false⟩ := rfl
@[go_sem] theorem T24 : T 24 = some ⟨1, 24, .slice 70, .slice none 0 0, false⟩ := rfl
@[go_sem] theorem T25 : T 25 = some ⟨6, 80, .struct [(0, 3), (1, 9), (2, 24), (3, 9), (4, 3), (5, 3)], .agg #[.int .i64 0, .string ⟨#[]⟩, .slice none 0 0, .string ⟨#[]⟩, .int .i64 0, .int .i64 0], true⟩ := rfl
@[go_sem] theorem T26 : T 26 = some ⟨6, 80, .struct [(0, 3), (1, 9), (2, 24), (3, 9), (4, 3), (5, 3)], .agg #[.int .i64 0, .string ⟨#[]⟩, .slice none 0 0, .string ⟨#[]⟩, .int .i64 0, .int .i64 0], true⟩ := rfl
@[go_sem] theorem T27 : T 27 = some ⟨1, 8, .func, .nilFunc, false⟩ := rfl
@[go_sem] theorem T28 : T 28 = some ⟨1, 24, .slice 121, .slice none 0 0, false⟩ := rfl
@[go_sem] theorem T29 : T 29 = some ⟨1, 24, .slice 123, .slice none 0 0, false⟩ := rfl
@[go_sem] theorem T30 : T 30 = some ⟨1, 24, .slice 116, .slice none 0 0, false⟩ := rfl
@[go_sem] theorem T31 : T 31 = some ⟨3, 72, .struct [(0, 28), (1, 29), (2, 30)], .agg #[.slice none 0 0, .slice none 0 0, .slice none 0 0], true⟩ := rfl
@[go_sem] theorem T32 : T 32 = some ⟨3, 72, .struct [(0, 28), (1, 29), (2, 30)], .agg #[.slice none 0 0, .slice none 0 0, .slice none 0 0], true⟩ := rfl
@[go_sem] theorem T33 : T 33 = some ⟨1, 8, .func, .nilFunc, false⟩ := rfl
@[go_sem] theorem T34 : T 34 = some ⟨1, 24, .slice 125, .slice none 0 0, false⟩ := rfl
@[go_sem] theorem T35 : T 35 = some ⟨1, 8, .func, .nilFunc, false⟩ := rfl
@[go_sem] theorem T36 : T 36 = some ⟨1, 1, .int .i8, .int .i8 0, false⟩ := rfl
@[go_sem] theorem T37 : T 37 = some ⟨3, 3, .array 3 36, .agg #[.int .i8 0, .int .i8 0, .int .i8 0], false⟩ := rfl
@[go_sem] theorem T38 : T 38 = some ⟨1, 24, .slice 37, .slice none 0 0, false⟩ := rfl
@[go_sem] theorem T39 : T 39 = some ⟨1, 24, .slice 26, .slice none 0 0, false⟩ := rfl
@[go_sem] theorem T40 : T 40 = some ⟨1, 8, .func, .nilFunc, false⟩ := rfl
@[go_sem] theorem T41 : T 41 = some ⟨1, 24, .slice 5, .slice none 0 0, false⟩ := rfl
@[go_sem] theorem T42 : T 42 = some ⟨5, 64, .struct [(0, 5), (1, 41), (2, 22), (3, 5), (4, 5)], .agg #[.int .u8 0, .slice none 0 0, .slice none 0 0, .int .u8 0, .int .u8 0], true⟩ := rfl
@[go_sem] theorem T43 : T 43 = some ⟨5, 64, .struct [(0, 5), (1, 41), (2, 22), (3, 5), (4, 5)], .agg #[.int .u8 0, .slice none 0 0, .slice none 0 0, .int .u8 0, .int .u8 0], true⟩ := rfl
@[go_sem] theorem T44 : T 44 = some ⟨1, 24, .slice 64, .slice none 0 0, false⟩ := rfl
@[go_sem] theorem T45 : T 45 = some ⟨1, 8, .int .i64, .int .i64 0, false⟩ := rfl
@[go_sem] theorem T47 : T 47 = some ⟨1, 8, .func, .nilFunc, false⟩ := rfl
@[go_sem] theorem T48 : T 48 = some ⟨1, 8, .func, .nilFunc, false⟩ := rfl
@[go_sem] theorem T49 : T 49 = some ⟨3, 40, .struct [(0, 44), (1, 3), (2, 45)], .agg #[.slice none 0 0, .int .i64 0, .int .i64 0], true⟩ := rfl
@[go_sem] theorem T50 : T 50 = some ⟨3, 40, .struct [(0, 44), (1, 3), (2, 45)], .agg #[.slice none 0 0, .int .i64 0, .int .i64 0], true⟩ := rfl
@[go_sem] theorem T51 : T 51 = some ⟨1, 8, .func, .nilFunc, false⟩ := rfl
@[go_sem] theorem T53 : T 53 = some ⟨1, 8, .func, .nilFunc, false⟩ := rfl
@[go_sem] theorem T54 : T 54 = some ⟨1, 8, .func, .nilFunc, false⟩ := rfl
@[go_sem] theorem T55 : T 55 = some ⟨1, 8, .func, .nilFunc, false⟩ := rfl
@[go_sem] theorem T56 : T 56 = some ⟨1, 8, .func, .nilFunc, false⟩ := rfl
@[go_sem] theorem T57 : T 57 = some ⟨1, 8, .func, .nilFunc, false⟩ := rfl
@[go_sem] theorem T58 : T 58 = some ⟨1, 8, .func, .nilFunc, false⟩ := rfl
@[go_sem] theorem T59 : T 59 = some ⟨1, 8, .func, .nilFunc, false⟩ := rfl
@[go_sem] theorem T60 : T 60 = some ⟨1, 8, .func, .nilFunc, false⟩ := rfl
@[go_sem] theorem T61 : T 61 = some ⟨2, 16, .struct [(0, 5), (1, 3)], .agg #[.int .u8 0, .int .i64 0], true⟩ := rfl
@[go_sem] theorem T62 : T 62 = some ⟨2, 16, .struct [(0, 5), (1, 3)], .agg #[.int .u8 0, .int .i64 0], true⟩ := rfl
@[go_sem] theorem T63 : T 63 = some ⟨1, 24, .slice 62, .slice none 0 0, false⟩ := rfl
@[go_sem] theorem T64 : T 64 = some ⟨1, 24, .slice 62, .slice none 0 0, false⟩ := rfl
@[go_sem] theorem T65 : T 65 = some ⟨1, 8, .func, .nilFunc, false⟩ := rfl
@[go_sem] theorem T66 : T 66 = some ⟨1, 8, .func, .nilFunc, false⟩ := rfl
@[go_sem] theorem T68 : T 68 = some ⟨1, 8, .func, .nilFunc, false⟩ := rfl
@[go_sem] theorem T69 : T 69 = some ⟨2, 16, .struct [(0, 3), (1, 3)], .agg #[.int .i64 0, .int .i64 0], true⟩ := rfl
@[go_sem] theorem T70 : T 70 = some ⟨2, 16, .struct [(0, 3), (1, 3)], .agg #[.int .i64 0, .int .i64 0], true⟩ := rfl
@[go_sem] theorem T71 : T 71 = some ⟨1, 8, .func, .nilFunc, false⟩ := rfl
@[go_sem] theorem T72 : T 72 = some ⟨1, 8, .func, .nilFunc, false⟩ := rfl
@[go_sem] theorem T73 : T 73 = some ⟨1, 8, .func, .nilFunc, false⟩ := rfl
@[go_sem] theorem T74 : T 74 = some ⟨1, 24, .slice 78, .slice none 0 0, false⟩ := rfl
@[go_sem] theorem T75 : T 75 = some ⟨3, 72, .struct [(0, 22), (1, 38), (2, 74)], .agg #[.slice none 0 0, .slice none 0 0, .slice none 0 0], true⟩ := rfl
@[go_sem] theorem T76 : T 76 = some ⟨3, 72, .struct [(0, 22), (1, 38), (2, 74)], .agg #[.slice none 0 0, .slice none 0 0, .slice none 0 0], true⟩ := rfl
@[go_sem] theorem T77 : T 77 = some ⟨4, 4, .struct [(0, 5), (1, 5), (2, 5), (3, 5)], .agg #[.int .u8 0, .int .u8 0, .int .u8 0, .int .u8 0], true⟩ := rfl
@[go_sem] theorem T78 : T 78 = some ⟨4, 4, .struct [(0, 5), (1, 5), (2, 5), (3, 5)], .agg #[.int .u8 0, .int .u8 0, .int .u8 0, .int .u8 0], true⟩ := rfl
@[go_sem] theorem T79 : T 79 = some ⟨1, 24, .slice 101, .slice none 0 0, false⟩ := rfl
@[go_sem] theorem T80 : T 80 = some ⟨5, 88, .struct [(0, 39), (1, 44), (2, 3), (3, 79), (4, 3)], .agg #[.slice none 0 0, .slice none 0 0, .int .i64 0, .slice none 0 0, .int .i64 0], true⟩ := rfl
@[go_sem] theorem T81 : T 81 = some ⟨5, 88, .struct [(0, 39), (1, 44), (2, 3), (3, 79), (4, 3)], .agg #[.slice none 0 0, .slice none 0 0, .int .i64 0, .slice none 0 0, .int .i64 0], true⟩ := rfl
@[go_sem] theorem T82 : T 82 = some ⟨1, 8, .func, .nilFunc, false⟩ := rfl
@[go_sem] theorem T83 : T 83 = some ⟨4, 96, .struct [(0, 32), (3, 34)], .agg #[.slice none 0 0, .slice none 0 0, .slice none 0 0, .slice none 0 0], true⟩ := rfl
@[go_sem] theorem T84 : T 84 = some ⟨4, 96, .struct [(0, 32), (3, 34)], .agg #[.slice none 0 0, .slice none 0 0, .slice none 0 0, .slice none 0 0], true⟩ := rfl
@[go_sem] theorem T85 : T 85 = some ⟨1, 8, .func, .nilFunc, false⟩ := rfl
@[go_sem] theorem T86 : T 86 = some ⟨1, 8, .func, .nilFunc, false⟩ := rfl
@[go_sem] theorem T88 : T 88 = some ⟨1, 8, .func, .nilFunc, false⟩ := rfl
@[go_sem] theorem T89 : T 89 = some ⟨1, 8, .func, .nilFunc, false⟩ := rfl
@[go_sem] theorem T90 : T 90 = some ⟨1, 8, .func, .nilFunc, false⟩ := rfl
@[go_sem] theorem T92 : T 92 = some ⟨1, 8, .func, .nilFunc, false⟩ := rfl
@[go_sem] theorem T93 : T 93 = some ⟨1, 8, .func, .nilFunc, false⟩ := rfl
@[go_sem] theorem T94 : T 94 = some ⟨1, 8, .func, .nilFunc, false⟩ := rfl
@[go_sem] theorem T95 : T 95 = some ⟨1, 8, .func, .nilFunc, false⟩ := rfl
@[go_sem] theorem T96 : T 96 = some ⟨1, 8, .func, .nilFunc, false⟩ := rfl
@[go_sem] theorem T97 : T 97 = some ⟨1, 8, .func, .nilFunc, false⟩ := rfl
@[go_sem] theorem T98 : T 98 = some ⟨1, 8, .func, .nilFunc, false⟩ := rfl
@[go_sem] theorem T99 : T 99 = some ⟨1, 8, .func, .nilFunc, false⟩ := rfl
@[go_sem] theorem T100 : T 100 = some ⟨3, 24, .struct [(0, 3), (1, 3), (2, 3)], .agg #[.int .i64 0, .int .i64 0, .int .i64 0], true⟩ := rfl
@[go_sem] theorem T101 : T 101 = some ⟨3, 24, .struct [(0, 3), (1, 3), (2, 3)], .agg #[.int .i64 0, .int .i64 0, .int .i64 0], true⟩ := rfl
@[go_sem] theorem T102 : T 102 = some ⟨1, 8, .func, .nilFunc, false⟩ := rfl
@[go_sem] theorem T103 : T 103 = some ⟨1, 8, .func, .nilFunc, false⟩ := rfl
@[go_sem] theorem T104 : T 104 = some ⟨1, 8, .func, .nilFunc, false⟩ := rfl
@[go_sem] theorem T105 : T 105 = some ⟨1, 8, .func, .nilFunc, false⟩ := rfl
@[go_sem] theorem T106 : T 106 = some ⟨1, 8, .func, .nilFunc, false⟩ := rfl
@[go_sem] theorem T107 : T 107 = some ⟨1, 8, .func, .nilFunc, false⟩ := rfl
@[go_sem] theorem T108 : T 108 = some ⟨1, 8, .func, .nilFunc, false⟩ := rfl
@[go_sem] theorem T109 : T 109 = some ⟨1, 8, .func, .nilFunc, false⟩ := rfl
@[go_sem] theorem T110 : T 110 = some ⟨1, 8, .func, .nilFunc, false⟩ := rfl
@[go_sem] theorem T111 : T 111 = some ⟨1, 8, .func, .nilFunc, false⟩ := rfl
@[go_sem] theorem T112 : T 112 = some ⟨1, 8, .func, .nilFunc, false⟩ := rfl
@[go_sem] theorem T114 : T 114 = some ⟨1, 8, .func, .nilFunc, false⟩ := rfl
@[go_sem] theorem T115 : T 115 = some ⟨2, 24, .struct [(0, 9), (1, 5)], .agg #[.string ⟨#[]⟩, .int .u8 0], true⟩ := rfl
@[go_sem] theorem T116 : T 116 = some ⟨2, 24, .struct [(0, 9), (1, 5)], .agg #[.string ⟨#[]⟩, .int .u8 0], true⟩ := rfl
@[go_sem] theorem T117 : T 117 = some ⟨1, 8, .func, .nilFunc, false⟩ := rfl
@[go_sem] theorem T118 : T 118 = some ⟨1, 8, .func, .nilFunc, false⟩ := rfl
@[go_sem] theorem T119 : T 119 = some ⟨2, 2, .array 2 5, .agg #[.int .u8 0, .int .u8 0], false⟩ := rfl
@[go_sem] theorem T120 : T 120 = some ⟨5, 40, .struct [(0, 5), (1, 3), (2, 3), (3, 3), (4, 3)], .agg #[.int .u8 0, .int .i64 0, .int .i64 0, .int .i64 0, .int .i64 0], true⟩ := rfl
@[go_sem] theorem T121 : T 121 = some ⟨5, 40, .struct [(0, 5), (1, 3), (2, 3), (3, 3), (4, 3)], .agg #[.int .u8 0, .int .i64 0, .int .i64 0, .int .i64 0, .int .i64 0], true⟩ := rfl
@[go_sem] theorem T122 : T 122 = some ⟨2, 32, .struct [(0, 5), (1, 24)], .agg #[.int .u8 0, .slice none 0 0], true⟩ := rfl
@[go_sem] theorem T123 : T 123 = some ⟨2, 32, .struct [(0, 5), (1, 24)], .agg #[.int .u8 0, .slice none 0 0], true⟩ := rfl
@[go_sem] theorem T124 : T 124 = some ⟨4, 32, .struct [(0, 5), (1, 3), (2, 3), (3, 3)], .agg #[.int .u8 0, .int .i64 0, .int .i64 0, .int .i64 0], true⟩ := rfl
@[go_sem] theorem T125 : T 125 = some ⟨4, 32, .struct [(0, 5), (1, 3), (2, 3), (3, 3)], .agg #[.int .u8 0, .int .i64 0, .int .i64 0, .int .i64 0], true⟩ := rfl
@[go_sem] theorem T126 : T 126 = some ⟨1, 8, .func, .nilFunc, false⟩ := rfl
@[go_sem] theorem T127 : T 127 = some ⟨1, 24, .slice 9, .slice none 0 0, false⟩ := rfl
@[go_sem] theorem T128 : T 128 = some ⟨1, 8, .func, .nilFunc, false⟩ := rfl
@[go_sem] theorem T129 : T 129 = some ⟨13, 104, .array 13 128, .agg #[.nilFunc, .nilFunc, .nilFunc, .nilFunc, .nilFunc, .nilFunc, .nilFunc, .nilFunc, .nilFunc, .nilFunc, .nilFunc, .nilFunc, .nilFunc], false⟩ := rfl
@[go_sem] theorem T130 : T 130 = some ⟨1, 8, .func, .nilFunc, false⟩ := rfl
@[go_sem] theorem T131 : T 131 = some ⟨1, 8, .func, .nilFunc, false⟩ := rfl
@[go_sem] theorem T132 : T 132 = some ⟨1, 8, .func, .nilFunc, false⟩ := rfl
@[go_sem] theorem T133 : T 133 = some ⟨1, 8, .func, .nilFunc, false⟩ := rfl
@[go_sem] theorem T134 : T 134 = some ⟨1, 8, .func, .nilFunc, false⟩ := rfl
@[go_sem] theorem T135 : T 135 = some ⟨1, 8, .func, .nilFunc, false⟩ := rfl
@[go_sem] theorem T136 : T 136 = some ⟨1, 24, .slice 3, .slice none 0 0, false⟩ := rfl
@[go_sem] theorem T137 : T 137 = some ⟨1, 8, .func, .nilFunc, false⟩ := rfl
@[go_sem] theorem T138 : T 138 = some ⟨1, 8, .func, .nilFunc, false⟩ := rfl
@[go_sem] theorem T139 : T 139 = some ⟨1, 8, .func, .nilFunc, false⟩ := rfl
@[go_sem] theorem T140 : T 140 = some ⟨1, 8, .func, .nilFunc, false⟩ := rfl
@[go_sem] theorem T142 : T 142 = some ⟨1, 8, .map 3 140, .map none, false⟩ := rfl
@[go_sem] theorem T143 : T 143 = some ⟨1, 8, .func, .nilFunc, false⟩ := rfl
@[go_sem] theorem T144 : T 144 = some ⟨15, 264, .struct [(0, 81), (5, 32), (8, 34), (9, 26)], .agg #[.slice none 0 0, .slice none 0 0, .int .i64 0, .slice none 0 0, .int .i64 0, .slice none 0 0, .slice none 0 0, .slice none 0 0, .slice none 0 0, .int .i64 0, .string ⟨#[]⟩, .slice none 0 0, .string ⟨#[]⟩, .int .i64 0, .int .i64 0], true⟩ := rfl
@[go_sem] theorem T145 : T 145 = some ⟨15, 264, .struct [(0, 81), (5, 32), (8, 34), (9, 26)], .agg #[.slice none 0 0, .slice none 0 0, .int .i64 0, .slice none 0 0, .int .i64 0, .slice none 0 0, .slice none 0 0, .slice none 0 0, .slice none 0 0, .int .i64 0, .string ⟨#[]⟩, .slice none 0 0, .string ⟨#[]⟩, .int .i64 0, .int .i64 0], true⟩ := rfl
@[go_sem] theorem T146 : T 146 = some ⟨1, 8, .func, .nilFunc, false⟩ := rfl
@[go_sem] theorem T147 : T 147 = some ⟨1, 8, .func, .nilFunc, false⟩ := rfl
@[go_sem] theorem T148 : T 148 = some ⟨1, 8, .func, .nilFunc, false⟩ := rfl
@[go_sem] theorem T149 : T 149 = some ⟨1, 8, .func, .nilFunc, false⟩ := rfl
@[go_sem] theorem T150 : T 150 = some ⟨1, 8, .func, .nilFunc, false⟩ := rfl
@[go_sem] theorem T151 : T 151 = some ⟨1, 8, .func, .nilFunc, false⟩ := rfl
@[go_sem] theorem T152 : T 152 = some ⟨1, 8, .func, .nilFunc, false⟩ := rfl
@[go_sem] theorem T153 : T 153 = some ⟨1, 8, .func, .nilFunc, false⟩ := rfl
@[go_sem] theorem T154 : T 154 = some ⟨1, 8, .func, .nilFunc, false⟩ := rfl
@[go_sem] theorem T155 : T 155 = some ⟨1, 8, .func, .nilFunc, false⟩ := rfl
@[go_sem] theorem T156 : T 156 = some ⟨1, 8, .func, .nilFunc, false⟩ := rfl
@[go_sem] theorem T157 : T 157 = some ⟨1, 8, .func, .nilFunc, false⟩ := rfl
@[go_sem] theorem T158 : T 158 = some ⟨1, 8, .func, .nilFunc, false⟩ := rfl
@[go_sem] theorem T159 : T 159 = some ⟨1, 8, .func, .nilFunc, false⟩ := rfl
@[go_sem] theorem T161 : T 161 = some ⟨1, 8, .func, .nilFunc, false⟩ := rfl
@[go_sem] theorem T162 : T 162 = some ⟨1, 8, .func, .nilFunc, false⟩ := rfl
@[go_sem] theorem T163 : T 163 = some ⟨1, 8, .func, .nilFunc, false⟩ := rfl
@[go_sem] theorem T164 : T 164 = some ⟨1, 24, .slice 136, .slice none 0 0, false⟩ := rfl
@[go_sem] theorem T165 : T 165 = some ⟨1, 8, .func, .nilFunc, false⟩ := rfl
@[go_sem] theorem T166 : T 166 = some ⟨1, 8, .func, .nilFunc, false⟩ := rfl
@[go_sem] theorem T167 : T 167 = some ⟨1, 8, .func, .nilFunc, false⟩ := rfl
@[go_sem] theorem T168 : T 168 = some ⟨1, 8, .func, .nilFunc, false⟩ := rfl
@[go_sem] theorem T169 : T 169 = some ⟨1, 8, .func, .nilFunc, false⟩ := rfl
@[go_sem] theorem T170 : T 170 = some ⟨1, 8, .func, .nilFunc, false⟩ := rfl
@[go_sem] theorem T171 : T 171 = some ⟨1, 8, .func, .nilFunc, false⟩ := rfl
@[go_sem] theorem T172 : T 172 = some ⟨1, 8, .func, .nilFunc, false⟩ := rfl
@[go_sem] theorem T173 : T 173 = some ⟨1, 8, .func, .nilFunc, false⟩ := rfl
@[go_sem] theorem T174 : T 174 = some ⟨1, 8, .func, .nilFunc, false⟩ := rfl
@[go_sem] theorem T175 : T 175 = some ⟨1, 8, .map 5 3, .map none, false⟩ := rfl
@[go_sem] theorem T176 : T 176 = some ⟨1, 8, .func, .nilFunc, false⟩ := rfl
@[go_sem] theorem T177 : T 177 = some ⟨1, 8, .func, .nilFunc, false⟩ := rfl
@[go_sem] theorem T178 : T 178 = some ⟨1, 8, .func, .nilFunc, false⟩ := rfl
@[go_sem] theorem T179 : T 179 = some ⟨1, 8, .func, .nilFunc, false⟩ := rfl
@[go_sem] theorem T180 : T 180 = some ⟨1, 8, .func, .nilFunc, false⟩ := rfl
@[go_sem] theorem T181 : T 181 = some ⟨1, 8, .func, .nilFunc, false⟩ := rfl
@[go_sem] theorem T182 : T 182 = some ⟨1, 8, .func, .nilFunc, false⟩ := rfl
@[go_sem] theorem T183 : T 183 = some ⟨1, 8, .func, .nilFunc, false⟩ := rfl
@[go_sem] theorem T184 : T 184 = some ⟨1, 8, .func, .nilFunc, false⟩ := rfl
@[go_sem] theorem T185 : T 185 = some ⟨1, 8, .func, .nilFunc, false⟩ := rfl
@[go_sem] theorem T186 : T 186 = some ⟨1, 8, .func, .nilFunc, false⟩ := rfl
@[go_sem] theorem T187 : T 187 = some ⟨1, 8, .func, .nilFunc, false⟩ := rfl
@[go_sem] theorem T188 : T 188 = some ⟨1, 24, .slice 172, .slice none 0 0, false⟩ := rfl
@[go_sem] theorem T189 : T 189 = some ⟨1, 8, .func, .nilFunc, false⟩ := rfl
@[go_sem] theorem T190 : T 190 = some ⟨1, 8, .func, .nilFunc, false⟩ := rfl
@[go_sem] theorem T191 : T 191 = some ⟨1, 8, .func, .nilFunc, false⟩ := rfl
@[go_sem] theorem T192 : T 192 = some ⟨1, 8, .func, .nilFunc, false⟩ := rfl
@[go_sem] theorem T193 : T 193 = some ⟨1, 8, .func, .nilFunc, false⟩ := rfl
@[go_sem] theorem T194 : T 194 = some ⟨1, 8, .int .u64, .int .u64 0, false⟩ := rfl
@[go_sem] theorem T195 : T 195 = some ⟨1, 24, .slice 185, .slice none 0 0, false⟩ := rfl
@[go_sem] theorem T196 : T 196 = some ⟨1, 8, .func, .nilFunc, false⟩ := rfl
@[go_sem] theorem T197 : T 197 = some ⟨1, 8, .func, .nilFunc, false⟩ := rfl
@[go_sem] theorem T198 : T 198 = some ⟨1, 8, .func, .nilFunc, false⟩ := rfl
@[go_sem] theorem T199 : T 199 = some ⟨1, 8, .func, .nilFunc, false⟩ := rfl
@[go_sem] theorem T200 : T 200 = some ⟨1, 8, .func, .nilFunc, false⟩ := rfl
@[go_sem] theorem T201 : T 201 = some ⟨1, 8, .int .i64, .int .i64 0, false⟩ := rfl
@[go_sem] theorem T203 : T 203 = some ⟨1, 8, .func, .nilFunc, false⟩ := rfl
@[go_sem] theorem T204 : T 204 = some ⟨1, 8, .func, .nilFunc, false⟩ := rfl
@[go_sem] theorem T205 : T 205 = some ⟨1, 8, .func, .nilFunc, false⟩ := rfl
@[go_sem] theorem T206 : T 206 = some ⟨1, 8, .func, .nilFunc, false⟩ := rfl
@[go_sem] theorem T207 : T 207 = some ⟨1, 8, .func, .nilFunc, false⟩ := rfl
@[go_sem] theorem T208 : T 208 = some ⟨1, 4, .int .u32, .int .u32 0, false⟩ := rfl
@[go_sem] theorem T209 : T 209 = some ⟨1, 8, .func, .nilFunc, false⟩ := rfl
@[go_sem] theorem T210 : T 210 = some ⟨1, 8, .int .u64, .int .u64 0, false⟩ := rfl
@[go_sem] theorem T211 : T 211 = some ⟨1, 8, .func, .nilFunc, false⟩ := rfl
@[go_sem] theorem T212 : T 212 = some ⟨1, 8, .func, .nilFunc, false⟩ := rfl
@[go_sem] theorem T213 : T 213 = some ⟨1, 8, .func, .nilFunc, false⟩ := rfl
@[go_sem] theorem T214 : T 214 = some ⟨1, 8, .func, .nilFunc, false⟩ := rfl
@[go_sem] theorem T215 : T 215 = some ⟨1, 8, .func, .nilFunc, false⟩ := rfl
@[go_sem] theorem T216 : T 216 = some ⟨1, 8, .func, .nilFunc, false⟩ := rfl
@[go_sem] theorem T217 : T 217 = some ⟨1, 8, .func, .nilFunc, false⟩ := rfl
@[go_sem] theorem T218 : T 218 = some ⟨1, 8, .int .u64, .int .u64 0, false⟩ := rfl
@[go_sem] theorem T219 : T 219 = some ⟨1, 8, .func, .nilFunc, false⟩ := rfl
@[go_sem] theorem T220 : T 220 = some ⟨1, 8, .func, .nilFunc, false⟩ := rfl
@[go_sem] theorem T221 : T 221 = some ⟨1, 8, .func, .nilFunc, false⟩ := rfl
@[go_sem] theorem T222 : T 222 = some ⟨1, 8, .ptr 3, .pointer none, false⟩ := rfl
@[go_sem] theorem T223 : T 223 = some ⟨1, 8, .func, .nilFunc, false⟩ := rfl
@[go_sem] theorem T224 : T 224 = some ⟨1, 8, .func, .nilFunc, false⟩ := rfl
@[go_sem] theorem T225 : T 225 = some ⟨1, 8, .func, .nilFunc, false⟩ := rfl
@[go_sem] theorem T226 : T 226 = some ⟨1, 8, .ptr 218, .pointer none, false⟩ := rfl
@[go_sem] theorem T228 : T 228 = some ⟨1, 8, .func, .nilFunc, false⟩ := rfl
@[go_sem] theorem T229 : T 229 = some ⟨1, 8, .func, .nilFunc, false⟩ := rfl
@[go_sem] theorem T230 : T 230 = some ⟨1, 8, .func, .nilFunc, false⟩ := rfl
@[go_sem] theorem T236 : T 236 = some ⟨1, 8, .func, .nilFunc, false⟩ := rfl
@[go_sem] theorem T240 : T 240 = some ⟨1, 8, .ptr 5, .pointer none, false⟩ := rfl
theorem tabOk : TabOk Tryz.prog T := by
  intro t ti hT
  have key : ∀ l : List (Nat × TI), lk none (l.map fun x => (x.1, some x.2)) t = some ti → (t, ti) ∈ l := by
    intro l
    induction l with
    | nil => intro h; cases h
    | cons x l ih =>
      intro h
      simp only [List.map_cons, lk] at h
      split at h
      · rename_i e; cases h; subst e; exact List.mem_cons_self
      · exact List.mem_cons_of_mem _ (ih h)
  exact List.map_inj_left.1 tab_eq _ (key tab hT)
end Go.Proofs.YtojgjdcciojpeaaGreat
set_option linter.unusedSimpArgs false
set_option linter.unusedVariables false
namespace Go.Proofs.YtojgjdcciojpeaaGreat
open Go Go.PS
set_option maxRecDepth 100000
set_option maxHeartbeats 4000000
/-! Texts: letters. -/
def letB (c : UInt8) : Bool := decide (97 ≤ c.toNat) && decide (c.toNat ≤ 122)
def lets (l : List UInt8) : Bool := l.all letB
/-- Where a walk over a text stands. -/
def itO (l : List UInt8) (i : Nat) : OB := ⟨4000000001, 2, [.agg [.d (.str l), .d (.int .i64 i)]]⟩
theorem get_arr (l : List UInt8) (i : Nat) (h : i < (⟨l.toArray⟩ : ByteArray).size) : (⟨l.toArray⟩ : ByteArray)[i] = l[i]'(by simpa [ByteArray.size] using h) := by
  show l.toArray[i] = _
  simp
theorem runeAt_low {l : List UInt8} {i : Nat} (h : i < l.length) (ha : (l.getD i 0).toNat < 128) : runeAt l i = ((l.getD i 0).toNat, 1) := by
  have hs : i < (⟨l.toArray⟩ : ByteArray).size := by simpa [ByteArray.size] using h
  have e : l.getD i 0 = l[i] := by simp [h]
  unfold runeAt
  rw [decode_ascii _ _ hs (by rw [get_arr]; rw [e] at ha; exact ha), get_arr, e]
theorem runeAt_high {l : List UInt8} {i : Nat} (h : i < l.length) (ha : ¬ (l.getD i 0).toNat < 128) : 128 ≤ (runeAt l i).1 := by
  have hs : i < (⟨l.toArray⟩ : ByteArray).size := by simpa [ByteArray.size] using h
  have e : l.getD i 0 = l[i] := by simp [h]
  exact (decode_high _ _ hs (by rw [get_arr]; rw [e] at ha; omega)).1
theorem lets_step {l : List UInt8} {i : Nat} (h : i < l.length) : lets (l.take (i + 1)) = (lets (l.take i) && letB (l.getD i 0)) := by
  have e : l.getD i 0 = l[i] := by simp [h]
  rw [List.take_succ_eq_append_getElem h, lets, List.all_append, e]
  simp [lets]
theorem lets_false {l : List UInt8} {i : Nat} (h : i < l.length) (hb : letB (l.getD i 0) = false) : lets l = false := by
  have e : l.getD i 0 = l[i] := by simp [h]
  rw [Bool.eq_false_iff]
  intro ht
  have := List.all_eq_true.1 ht l[i] (List.getElem_mem h)
  rw [e] at hb; rw [hb] at this; cases this
theorem letB_iff {c : UInt8} : letB c = true ↔ 97 ≤ c.toNat ∧ c.toNat ≤ 122 := by simp [letB]
theorem letters83 (l : List UInt8) : PCall Tryz.prog 83 [.str l] (.bool (lets l)) := by
  refine enterP tabOk Tryz.func83 16 [0, 2, 4, 6, 7, 8, 15] [.tmp 2] rfl (r := [_]) rfl (h := ?_); intro E hK; simp only [go_sem]
  refine wgo ?_
  refine wlpF (Run.loopC (ι := { i : Nat // i ≤ l.length ∧ lets (l.take i) = true }) (U := fun i => []) (O := fun i => [(6, some (itO l i.1))]) (K := fun _ => []) (μ := fun i => l.length - i.1) (i0 := ⟨0, by omega, rfl⟩)) (@itO.eq_1) ?_
  rintro ⟨i, hi, hp⟩ ih
  by_cases hlt : i < l.length
  · have h1 : (i : Int) < l.length := by omega
    have hst := lets_step hlt
    by_cases ha : (l.getD i 0).toNat < 128
    · have hr := runeAt_low hlt ha
      cases hb : letB (l.getD i 0) with
      | true =>
        obtain ⟨b1, b2⟩ := letB_iff.1 hb
        have c1 : ¬ ((l.getD i 0).toNat : Int) < 97 := by omega
        have c2 : ¬ 122 < ((l.getD i 0).toNat : Int) := by omega
        simp only [go_sem, itO]
        refine wgoF (And.intro (@h1) (And.intro (@hr) (And.intro (@c1) (@c2)))) ?_
        exact wnxtF (ih ⟨i + 1, by omega, by rw [hst, hp, hb]; rfl⟩) (@itO.eq_1)
      | false =>
        have hf := lets_false hlt hb
        have c1 : (decide (((l.getD i 0).toNat : Int) < 97) || decide (122 < ((l.getD i 0).toNat : Int))) = true := by
          have : ¬ (97 ≤ (l.getD i 0).toNat ∧ (l.getD i 0).toNat ≤ 122) := fun h => by rw [letB_iff.2 h] at hb; cases hb
          simp only [Bool.or_eq_true, decide_eq_true_eq]; omega
        simp only [go_sem, itO]
        refine wgoF (And.intro (@h1) (And.intro (@hr) (@c1))) ?_
        exact wretF (@hf)
    · have hr := runeAt_high hlt ha
      have hb : letB (l.getD i 0) = false := by
        rw [Bool.eq_false_iff]; intro h; have := letB_iff.1 h; omega
      have hf := lets_false hlt hb
      have c1 : (decide (((runeAt l i).1 : Int) < 97) || decide (122 < ((runeAt l i).1 : Int))) = true := by
        simp only [Bool.or_eq_true, decide_eq_true_eq]; omega
      simp only [go_sem, itO]
      refine wgoF (And.intro (@h1) (@c1)) ?_
      exact wretF (@hf)
  · have h1 : ¬ (i : Int) < l.length := by omega
    have e : l.take i = l := List.take_of_length_le (by omega)
    rw [e] at hp
    simp only [go_sem, itO]
    refine wgoF (@h1) ?_
    exact wretF (@hp)
end Go.Proofs.YtojgjdcciojpeaaGreat

/-
  The walk's steps as lemmas: what each leaves to show is shown by the tactic that its premise names. No condition beyond the premises.
-/
import Derived.Test.YtojgjdcciojpeaaPure23
import Derived.Test.YtojgjdcciojpeaaPure22
import Derived.Test.YtojgjdcciojpeaaPure19
namespace Go.PS
open Go Go.RowKit
set_option linter.unusedVariables false
set_option linter.unusedSimpArgs false
set_option maxRecDepth 100000

/-- What is left to show: kept apart from the premises. -/
structure Lft (G : Prop) : Prop where
  out : G
/-- What a walk of a function leans on. -/
structure KS (P : Program) (T : Nat → Option TI) (E : Env) (fn : Func) (f : FuncId) (n : Nat) (ks : List Nat) (rs : List ResultVar) (post : List PO) : Prop where
  hrs : fn.results.toList = rs
  hT : TabOk P T
  hfn : P.funcs[f]? = some fn
  hn : E.n = n
  hp : E.post = post

section
variable {P : Program} {T : Nat → Option TI} {E : Env} {fn : Func} {f : FuncId} {r : List D} {k : List Item} {s s' : SL} {n : Nat} {ks : List Nat} {rs : List ResultVar} {post : List PO}
theorem run_reg (h : KS P T E fn f n ks rs post) {id : Nat} {ops : Array Oper} {l : List Oper} (hl : ops.toList = l) (hr : ROps P T ops n true (fun s' => Run P E fn f r k (s'.keep ks).of) l s) : Run P E fn f r (.code (.region id ops false) :: k) s.of := by
  obtain ⟨_, hT, _, rfl, _⟩ := h
  exact run_region' ks hT hl hr
theorem run_regd (h : KS P T E fn f n ks rs post) (hm : P.follows .mixedOrders = true) {id : Nat} {ops : Array Oper} {l : List Oper} (hl : ops.toList = l) (hB : lexFromS ops ops.size 0 (Array.replicate ops.size false) = true) (hds : dstsOk n l = true)
    (hr : ROps P T ops n false (fun s' => Run P E fn f r k (s'.keep ks).of) l s) : Run P E fn f r (.code (.region id ops true) :: k) s.of := by
  obtain ⟨_, hT, _, rfl, _⟩ := h
  exact run_region_draw' ks hT hm hl hB hds hr
theorem run_condT {c : Operand} {x y : Code} {st : St} (hc : st.look c = .d (.bool true)) (h : Run P E fn f r (.code x :: k) st) : Run P E fn f r (.code (.cond c x y) :: k) st := run_cond hc (fun _ => h) (fun h => by cases h)
theorem run_condF {c : Operand} {x y : Code} {st : St} (hc : st.look c = .d (.bool false)) (h : Run P E fn f r (.code y :: k) st) : Run P E fn f r (.code (.cond c x y) :: k) st := run_cond hc (fun h => by cases h) (fun _ => h)
theorem ret_run (h : KS P T E fn f n ks rs post) {c : Bool} {ds : List D} (he : resE T s rs = some (c, ds)) (hc : c = true) (hle : dle.dleL ds r) (hp : postOk s post) : Run P E fn f r (.code .ret :: k) s.of :=
  run_ret h.hT h.hfn h.hrs he hc hle (h.hp ▸ hp)
theorem ret_run0 (h : KS P T E fn f n ks rs post) {c : Bool} {ds : List D} (he : resE T s rs = some (c, ds)) (hc : c = true) (hle : dle.dleL ds r) (hp : postOk s post) : Run P E fn f r [] s.of :=
  run_ret0 h.hT h.hfn h.hrs he hc hle (h.hp ▸ hp)
/-- What is asked of a function's text. -/
def fnOk (fn : Func) (n k : Nat) : Bool := Nat.beq fn.ntmps n && Nat.ble n 3000 && Nat.ble k n && !(fn.name == "runtime.NumGoroutine")
theorem enterP (hT : TabOk P T) (hfn : P.funcs[f]? = some fn) (n : Nat) (ks : List Nat) (rs : List ResultVar) (hrs : fn.results.toList = rs) {c : Code} (hc : fn.body = some c) {ds : List D} (hok : fnOk fn n ds.length = true := by kernel_rfl)
    (h : ∀ E : Env, KS P T E fn f n ks rs [] → Run P E fn f r [.code c] (SL.mk (argsL 0 ds) [] []).of) : PCall P f ds (resD r) := by
  simp only [fnOk, Bool.and_eq_true, Bool.not_eq_true'] at hok
  obtain ⟨⟨⟨h1, h2⟩, h3⟩, h4⟩ := hok
  have h1 := Nat.eq_of_beq_eq_true h1
  have h2 := Nat.le_of_ble_eq_true h2
  have h3 := Nat.le_of_ble_eq_true h3
  exact pcall_run hfn hc h4 (by omega) (by omega) fun E hE hP => h E ⟨hrs, hT, hfn, by omega, hP⟩
theorem enterM (hT : TabOk P T) (hfn : P.funcs[f]? = some fn) (n : Nat) (ks : List Nat) (rs : List ResultVar) (hrs : fn.results.toList = rs) {c : Code} (hc : fn.body = some c) {pre : List PO} {ds : List MA} (hel : ∀ q ∈ pre, ∀ e ∈ q.elems, e.cells.length = q.sz) (hids : ∀ q ∈ pre, ∃ q' ∈ post, q'.id = q.id)
    (hok : fnOk fn n ds.length = true := by kernel_rfl) (h : ∀ E : Env, KS P T E fn f n ks rs post → Run P E fn f r [.code c] (SL.mk (margsL 0 ds) (obsL pre) []).of) : MCall P f pre ds (resD r) post := by
  simp only [fnOk, Bool.and_eq_true, Bool.not_eq_true'] at hok
  obtain ⟨⟨⟨h1, h2⟩, h3⟩, h4⟩ := hok
  have h1 := Nat.eq_of_beq_eq_true h1
  have h2 := Nat.le_of_ble_eq_true h2
  have h3 := Nat.le_of_ble_eq_true h3
  exact mcall_run hfn hc h4 (by omega) (by omega) hel hids fun E hE hP => h E ⟨hrs, hT, hfn, by omega, hP⟩
/-- Some slots, objects, tokens of a state put anew. -/
def insAll {α : Type} : List (Nat × α) → List (Nat × α) → List (Nat × α)
  | l, [] => l
  | l, (i, v) :: c => insAll (ins l i v) c
theorem insAll_nil {α : Type} (l : List (Nat × α)) : insAll l [] = l := rfl
theorem insAll_cons {α : Type} (l c : List (Nat × α)) (i : Nat) (v : α) : insAll l ((i, v) :: c) = insAll (ins l i v) c := rfl
/-- A loop whose head is told by what changes of the state before it. -/
theorem Run.loopC {c : Code} {ι : Type} (U : ι → List (Nat × PV)) (O : ι → List (Nat × Option OB)) (K : ι → List (Nat × TS)) (μ : ι → Nat) (i0 : ι) :
    leTm (insAll s.ob (O i0)) (insAll s.tk (K i0)) s.tm (insAll s.tm (U i0)) → leOb (insAll s.ob (O i0)) (insAll s.tk (K i0)) s.ob (insAll s.ob (O i0)) → leTk s.tk (insAll s.tk (K i0)) →
    (∀ i, (∀ (j : ι) (s' : SL), leTm (insAll s.ob (O j)) (insAll s.tk (K j)) s'.tm (insAll s.tm (U j)) → leOb (insAll s.ob (O j)) (insAll s.tk (K j)) s'.ob (insAll s.ob (O j)) → leTk s'.tk (insAll s.tk (K j)) → μ j < μ i → Run P E fn f r (.inLoop c :: k) s'.of) →
      Run P E fn f r (.code c :: .inLoop c :: k) (SL.mk (insAll s.tm (U i)) (insAll s.ob (O i)) (insAll s.tk (K i))).of) →
    Run P E fn f r (.code (.loop c) :: k) s.of :=
  fun h1 h2 h3 h4 => Run.loop (fun i => ⟨insAll s.tm (U i), insAll s.ob (O i), insAll s.tk (K i)⟩) μ i0 h1 h2 h3 h4
end
attribute [go_sem] insAll_nil insAll_cons List.countP_nil List.range_zero List.filter_nil List.map_nil List.take_zero List.foldl_nil List.length_append eq_self Int.reduceEq Int.reduceLT Int.reduceLE Int.reduceAdd Int.reduceSub Int.reduceNeg
/-- The value of an operation that leaves the objects as they are. -/
def evalV (T : Nat → Option TI) (o : Oper) (s : SL) : Option (Bool × PV) :=
  match evalOp T o.dst o.op s.look (lk none s.ob) (lk .never s.tk) with
  | some (c, v, .none) => bif Op.cutOk o.op then some (c, v) else none
  | _ => none
section
variable {P : Program} {T : Nat → Option TI} {ops : Array Oper} {n : Nat} {m : Bool} {Q : SL → Prop} {o : Oper} {os : List Oper} {s s' : SL}
theorem rops_spec {g c : Bool} {v : PV} (hg : guardE ops o s = some g) (he : g = true → evalV T o s = some (c, v)) (hc : g = true → c = true) (hd : dstOk n o.dst = true) (hs : s.put o.dst (bif g then v else .tup []) = s') (hr : ROps P T ops n m Q os s') : ROps P T ops n m Q (o :: os) s := by
  subst hs
  cases g with
  | false => exact rops_skip hg hd hr
  | true =>
    have he := he rfl
    have hc := hc rfl
    subst hc
    unfold evalV at he
    split at he
    · rename_i c' v' heq
      cases hq : Op.cutOk o.op with
      | false => rw [hq] at he; cases he
      | true =>
        rw [hq] at he
        simp only [cond_true, Option.some.injEq, Prod.mk.injEq] at he
        obtain ⟨rfl, rfl⟩ := he
        refine rops_ev hg (c := true) (s' := s.put o.dst v') ?_ rfl hr
        simp only [stepE, heq, hd, hq, Bool.true_and, SL.eff, Option.map_some, cond_true]
    · cases he
theorem rops_scall {gd : Bool} {g : FuncId} {ds ds' : List D} {r : D} (hg : guardE ops o s = some gd) (hcall : PCall P g ds' r) (he : gd = true → callE o s = some (g, ds)) (hd : dstOk n o.dst = true) (hle : gd = true → DLeL ds ds')
    (hs : s.put o.dst (bif gd then PV.ofD r else .tup []) = s') (hr : ROps P T ops n m Q os s') : ROps P T ops n m Q (o :: os) s := by
  subst hs
  cases gd with
  | false => exact rops_skip hg hd hr
  | true => exact rops_call hg (he rfl) hd (hle rfl) hcall hr
theorem cond_then {α : Type} (t : Bool) (x y z : α) : (bif t then (bif t then x else y) else z) = bif t then x else z := by cases t <;> rfl
theorem cond_else {α : Type} (t : Bool) (x y z : α) : (bif t then x else (bif t then y else z)) = bif t then x else z := by cases t <;> rfl
theorem cond_elsen {α : Type} (t : Bool) (x y z : α) : (bif t then x else (bif !t then y else z)) = bif t then x else y := by cases t <;> rfl
theorem cond_and (t v : Bool) : (bif t then PV.d (.bool v) else PV.d (.bool false)) = PV.d (.bool (t && v)) := by cases t <;> rfl
theorem cond_or (t v : Bool) : (bif t then PV.d (.bool true) else PV.d (.bool v)) = PV.d (.bool (t || v)) := by cases t <;> rfl
end
attribute [go_sem] evalV cond_then cond_else cond_elsen cond_and cond_or
/-- Which objects a call is given. -/
structure IdsAre (ids : List (Nat × Nat)) : Prop
theorem rops_mcallI {P : Program} {T : Nat → Option TI} {ops : Array Oper} {n : Nat} {Q : SL → Prop} {o : Oper} {os : List Oper} {s s' : SL} {ids : List (Nat × Nat)} (_h : IdsAre ids) {g : FuncId} {pre post : List PO} {as : List MA} {args : List PV} {r : D} (hcall : MCall P g pre as r post) (hg : guardE ops o s = some true) (he : callF o s = some (g, args)) (ha : argsOk ids args as)
    (hids : ids.map (·.1) = pre.map (·.id)) (hnd : (ids.map (·.1)).Nodup) (hnd2 : (ids.map (·.2)).Nodup) (hpre : preOk (lk none s.ob) (idOf ids) pre) (hpp : post.map (fun q => (q.id, q.sz)) = pre.map (fun q => (q.id, q.sz)))
    (hel : ∀ q ∈ post, ∀ e ∈ q.elems, e.cells.length = q.sz) (hd : dstOk n o.dst = true) (hs : (s.objs (idOf ids) post).put o.dst (PV.ofD r) = s') (hr : ROps P T ops n true Q os s') : ROps P T ops n true Q (o :: os) s :=
  rops_mcall ids hcall hg he ha hids hnd hnd2 hpre hpp hel hd hs hr
theorem run_eq {P : Program} {E : Env} {fn : Func} {f : FuncId} {r r' : List D} {k : List Item} {st st' : St} (hr : r = r') (hs : st = st') (h : Run P E fn f r' k st') : Run P E fn f r k st := by subst hr; subst hs; exact h

theorem wgo {G G' : Prop} (g : G') (h : Lft G' → G := by intro g; (repeat (first | apply run_seq | apply run_block | apply run_skip | apply run_inBlock | (apply run_exit; (case hk => rfl)) | (apply run_condT; (case hc => first | rfl | (simp only [go_sem]; rfl))) | (apply run_condF; (case hc => first | rfl | (simp only [go_sem]; rfl))) | (apply run_reg (hl := rfl); (case h => assumption)) | (apply run_regd (hl := rfl); (case h => assumption); (case hm => rfl); (case hB => kernel_rfl); (case hds => simp only [go_sem])) | (apply ROps.nil; simp only [go_sem]) | (apply rops_ev; (case hg => simp only [go_sem]); (case he => simp only [go_sem]; first | exact ⟨rfl, rfl⟩ | rfl); (case hc => (first | (simp only [go_sem, decide_eq_true_eq]; done) | (simp only [go_sem, inR_i64, inR_u8, inR_i32, Bool.and_eq_true, decide_eq_true_eq] <;> (first | omega | (simp only [decide_eq_true_eq]; omega)))))) | (apply rops_skip'; (case hg => simp only [go_sem]); (case hd => simp only [go_sem]); (case hs => simp only [go_sem]; rfl)) | (apply rops_spec; (case hg => simp only [go_sem]; rfl); (case he => intro hgd; (try simp only [Bool.and_eq_true, Bool.or_eq_true, Bool.not_eq_true', decide_eq_true_eq] at hgd); simp only [go_sem, hgd]; first | exact ⟨rfl, rfl⟩ | rfl); (case hc => intro hgd; (try simp only [Bool.and_eq_true, Bool.or_eq_true, Bool.not_eq_true', decide_eq_true_eq] at hgd); (first | (simp only [go_sem, decide_eq_true_eq]; done) | (simp only [go_sem, inR_i64, inR_u8, inR_i32, Bool.and_eq_true, decide_eq_true_eq] <;> (first | omega | (simp only [decide_eq_true_eq]; omega))))); (case hd => simp only [go_sem]); (case hs => simp only [go_sem]; rfl)))); exact g.out) : G := h ⟨g⟩
theorem wone {G G' : Prop} (g : G') (h : Lft G' → G := by intro g; (repeat (first | apply run_seq | apply run_block | apply run_skip | apply run_inBlock | (apply run_exit; (case hk => rfl)) | (apply run_condT; (case hc => first | rfl | (simp only [go_sem]; rfl))) | (apply run_condF; (case hc => first | rfl | (simp only [go_sem]; rfl))))); (first | (apply run_reg (hl := rfl); (case h => assumption)) | (apply run_regd (hl := rfl); (case h => assumption); (case hm => rfl); (case hB => kernel_rfl); (case hds => simp only [go_sem]))); (repeat (first | (apply rops_ev; (case hg => simp only [go_sem]); (case he => simp only [go_sem]; first | exact ⟨rfl, rfl⟩ | rfl); (case hc => (first | (simp only [go_sem, decide_eq_true_eq]; done) | (simp only [go_sem, inR_i64, inR_u8, inR_i32, Bool.and_eq_true, decide_eq_true_eq] <;> (first | omega | (simp only [decide_eq_true_eq]; omega)))))) | (apply rops_skip'; (case hg => simp only [go_sem]); (case hd => simp only [go_sem]); (case hs => simp only [go_sem]; rfl)))); (apply ROps.nil; simp only [go_sem]); exact g.out) : G := h ⟨g⟩
theorem wcall {A G G' : Prop} (c : A) (g : G') (h : A → Lft G' → G := by intro c g; (apply rops_call' (hcall := c); (case hg => simp only [go_sem]); (case he => simp only [go_sem]; first | exact ⟨rfl, rfl⟩ | rfl); (case hd => simp only [go_sem]); (case hle => first | exact DLeL.refl _ | (refine dleL_leL ?_; simp only [go_sem])); (case hs => simp only [go_sem]; rfl)); exact g.out) : G := h c ⟨g⟩
theorem wscall {A G G' : Prop} (c : A) (g : G') (h : A → Lft G' → G := by intro c g; (apply rops_scall (hcall := c); (case hg => simp only [go_sem]; rfl); (case he => intro hgd; (try simp only [Bool.and_eq_true, Bool.or_eq_true, Bool.not_eq_true', decide_eq_true_eq] at hgd); simp only [go_sem, hgd]; first | exact ⟨rfl, rfl⟩ | rfl); (case hd => simp only [go_sem]); (case hle => intro hgd; first | exact DLeL.refl _ | (refine dleL_leL ?_; simp only [go_sem])); (case hs => simp only [go_sem]; rfl)); exact g.out) : G := h c ⟨g⟩
theorem wmcall {A B G G' : Prop} (ids : List (Nat × Nat)) (hel : B) (c : A) (g : G') (h : IdsAre ids → B → A → Lft G' → G := by intro ids hel c g; (apply rops_mcallI ids (hcall := c); (case hg => simp only [go_sem]); (case he => simp only [go_sem]; first | exact ⟨rfl, rfl⟩ | rfl); (case ha => simp only [go_sem]; first | done | ((repeat' apply And.intro) <;> first | rfl | exact ⟨_, rfl, DLe.refl _⟩ | omega | (simp; done))); (case hids => rfl); (case hnd => decide); (case hnd2 => decide); (case hpre => exact ⟨⟨_, _, rfl, rfl, rfl, toDs_ofD1 _, DLeL.refl _⟩, trivial⟩); (case hpp => rfl); (case hel => exact hel); (case hd => simp only [go_sem]); (case hs => simp only [go_sem]; rfl)); exact g.out) : G := h ⟨⟩ hel c ⟨g⟩
theorem wret {G : Prop} (h : G := by (first | apply ret_run | apply ret_run0); (case h => assumption); (case he => simp only [go_sem, List.toList_toArray]; first | exact ⟨rfl, rfl⟩ | rfl); (case hc => (first | (simp only [go_sem, decide_eq_true_eq]; done) | (simp only [go_sem, inR_i64, inR_u8, inR_i32, Bool.and_eq_true, decide_eq_true_eq] <;> (first | omega | (simp only [decide_eq_true_eq]; omega))))); (case hp => first | exact trivial | exact ⟨⟨Nat.le_of_ble_eq_true rfl, _, _, rfl, rfl, toDs_ofD1 _, DLeL.refl _⟩, trivial⟩); (case hle => simp only [go_sem])) : G := h 
theorem wretq {G G' : Prop} (g : G') (h : Lft G' → G := by intro g; (first | apply ret_run | apply ret_run0); (case h => assumption); (case he => simp only [go_sem, List.toList_toArray]; first | exact ⟨rfl, rfl⟩ | rfl); (case hc => (first | (simp only [go_sem, decide_eq_true_eq]; done) | (simp only [go_sem, inR_i64, inR_u8, inR_i32, Bool.and_eq_true, decide_eq_true_eq] <;> (first | omega | (simp only [decide_eq_true_eq]; omega))))); (case hp => first | exact trivial | exact ⟨⟨Nat.le_of_ble_eq_true rfl, _, _, rfl, rfl, toDs_ofD1 _, DLeL.refl _⟩, trivial⟩); (case hle => simp only [go_sem]; exact g.out)) : G := h ⟨g⟩
theorem wlp {A B C D G : Prop} (l : A → B → C → D → G) (d : D) (ha : A := by (try (simp only [go_sem])); (try ((repeat' apply And.intro) <;> first | rfl | omega | skip))) (hb : B := by (try (simp only [go_sem])); (try ((repeat' apply And.intro) <;> first | rfl | omega | skip))) (hc : C := by (try (simp only [go_sem])); (try ((repeat' apply And.intro) <;> first | rfl | omega | skip))) : G := l ha hb hc d
theorem wnxt {A G : Prop} (ih : A) (h : A → G := by intro ih ; exact ih _ (by (try (simp only [go_sem])); (try ((repeat' apply And.intro) <;> first | rfl | omega | skip))) (by (try (simp only [go_sem])); (try ((repeat' apply And.intro) <;> first | rfl | omega | skip))) (by (try (simp only [go_sem])); (try ((repeat' apply And.intro) <;> first | rfl | omega | skip))) (by (try dsimp only); first | omega | (simp only [List.length_append, List.length_cons, List.length_nil]; omega))) : G := h ih 
theorem wgoF {G G' : Prop} {F : Prop} (f : F) (g : G') (h : F → Lft G' → G := by intro f g; (repeat (first | apply run_seq | apply run_block | apply run_skip | apply run_inBlock | (apply run_exit; (case hk => rfl)) | (apply run_condT; (case hc => first | rfl | (simp only [go_sem, f]; rfl))) | (apply run_condF; (case hc => first | rfl | (simp only [go_sem, f]; rfl))) | (apply run_reg (hl := rfl); (case h => assumption)) | (apply run_regd (hl := rfl); (case h => assumption); (case hm => rfl); (case hB => kernel_rfl); (case hds => simp only [go_sem, f])) | (apply ROps.nil; simp only [go_sem, f]) | (apply rops_ev; (case hg => simp only [go_sem, f]); (case he => simp only [go_sem, f]; first | exact ⟨rfl, rfl⟩ | rfl); (case hc => (first | (simp only [go_sem, f, decide_eq_true_eq]; done) | (simp only [go_sem, f, inR_i64, inR_u8, inR_i32, Bool.and_eq_true, decide_eq_true_eq] <;> (first | omega | (simp only [decide_eq_true_eq]; omega)))))) | (apply rops_skip'; (case hg => simp only [go_sem, f]); (case hd => simp only [go_sem, f]); (case hs => simp only [go_sem, f]; rfl)) | (apply rops_spec; (case hg => simp only [go_sem, f]; rfl); (case he => intro hgd; (try simp only [Bool.and_eq_true, Bool.or_eq_true, Bool.not_eq_true', decide_eq_true_eq] at hgd); simp only [go_sem, f, hgd]; first | exact ⟨rfl, rfl⟩ | rfl); (case hc => intro hgd; (try simp only [Bool.and_eq_true, Bool.or_eq_true, Bool.not_eq_true', decide_eq_true_eq] at hgd); (first | (simp only [go_sem, f, decide_eq_true_eq]; done) | (simp only [go_sem, f, inR_i64, inR_u8, inR_i32, Bool.and_eq_true, decide_eq_true_eq] <;> (first | omega | (simp only [decide_eq_true_eq]; omega))))); (case hd => simp only [go_sem, f]); (case hs => simp only [go_sem, f]; rfl)))); exact g.out) : G := h f ⟨g⟩
theorem woneF {G G' : Prop} {F : Prop} (f : F) (g : G') (h : F → Lft G' → G := by intro f g; (repeat (first | apply run_seq | apply run_block | apply run_skip | apply run_inBlock | (apply run_exit; (case hk => rfl)) | (apply run_condT; (case hc => first | rfl | (simp only [go_sem, f]; rfl))) | (apply run_condF; (case hc => first | rfl | (simp only [go_sem, f]; rfl))))); (first | (apply run_reg (hl := rfl); (case h => assumption)) | (apply run_regd (hl := rfl); (case h => assumption); (case hm => rfl); (case hB => kernel_rfl); (case hds => simp only [go_sem, f]))); (repeat (first | (apply rops_ev; (case hg => simp only [go_sem, f]); (case he => simp only [go_sem, f]; first | exact ⟨rfl, rfl⟩ | rfl); (case hc => (first | (simp only [go_sem, f, decide_eq_true_eq]; done) | (simp only [go_sem, f, inR_i64, inR_u8, inR_i32, Bool.and_eq_true, decide_eq_true_eq] <;> (first | omega | (simp only [decide_eq_true_eq]; omega)))))) | (apply rops_skip'; (case hg => simp only [go_sem, f]); (case hd => simp only [go_sem, f]); (case hs => simp only [go_sem, f]; rfl)))); (apply ROps.nil; simp only [go_sem, f]); exact g.out) : G := h f ⟨g⟩
theorem wcallF {A G G' : Prop} (c : A) {F : Prop} (f : F) (g : G') (h : A → F → Lft G' → G := by intro c f g; (apply rops_call' (hcall := c); (case hg => simp only [go_sem, f]); (case he => simp only [go_sem, f]; first | exact ⟨rfl, rfl⟩ | rfl); (case hd => simp only [go_sem, f]); (case hle => first | exact DLeL.refl _ | (refine dleL_leL ?_; simp only [go_sem, f])); (case hs => simp only [go_sem, f]; rfl)); exact g.out) : G := h c f ⟨g⟩
theorem wscallF {A G G' : Prop} (c : A) {F : Prop} (f : F) (g : G') (h : A → F → Lft G' → G := by intro c f g; (apply rops_scall (hcall := c); (case hg => simp only [go_sem, f]; rfl); (case he => intro hgd; (try simp only [Bool.and_eq_true, Bool.or_eq_true, Bool.not_eq_true', decide_eq_true_eq] at hgd); simp only [go_sem, f, hgd]; first | exact ⟨rfl, rfl⟩ | rfl); (case hd => simp only [go_sem, f]); (case hle => intro hgd; first | exact DLeL.refl _ | (refine dleL_leL ?_; simp only [go_sem, f])); (case hs => simp only [go_sem, f]; rfl)); exact g.out) : G := h c f ⟨g⟩
theorem wmcallF {A B G G' : Prop} (ids : List (Nat × Nat)) (hel : B) (c : A) {F : Prop} (f : F) (g : G') (h : IdsAre ids → B → A → F → Lft G' → G := by intro ids hel c f g; (apply rops_mcallI ids (hcall := c); (case hg => simp only [go_sem, f]); (case he => simp only [go_sem, f]; first | exact ⟨rfl, rfl⟩ | rfl); (case ha => simp only [go_sem, f]; first | done | ((repeat' apply And.intro) <;> first | rfl | exact ⟨_, rfl, DLe.refl _⟩ | omega | (simp; done))); (case hids => rfl); (case hnd => decide); (case hnd2 => decide); (case hpre => exact ⟨⟨_, _, rfl, rfl, rfl, toDs_ofD1 _, DLeL.refl _⟩, trivial⟩); (case hpp => rfl); (case hel => exact hel); (case hd => simp only [go_sem, f]); (case hs => simp only [go_sem, f]; rfl)); exact g.out) : G := h ⟨⟩ hel c f ⟨g⟩
theorem wretF {G : Prop} {F : Prop} (f : F) (h : F → G := by intro f; (first | apply ret_run | apply ret_run0); (case h => assumption); (case he => simp only [go_sem, f, List.toList_toArray]; first | exact ⟨rfl, rfl⟩ | rfl); (case hc => (first | (simp only [go_sem, f, decide_eq_true_eq]; done) | (simp only [go_sem, f, inR_i64, inR_u8, inR_i32, Bool.and_eq_true, decide_eq_true_eq] <;> (first | omega | (simp only [decide_eq_true_eq]; omega))))); (case hp => first | exact trivial | exact ⟨⟨Nat.le_of_ble_eq_true rfl, _, _, rfl, rfl, toDs_ofD1 _, DLeL.refl _⟩, trivial⟩); (case hle => simp only [go_sem, f])) : G := h f 
theorem wretqF {G G' : Prop} {F : Prop} (f : F) (g : G') (h : F → Lft G' → G := by intro f g; (first | apply ret_run | apply ret_run0); (case h => assumption); (case he => simp only [go_sem, f, List.toList_toArray]; first | exact ⟨rfl, rfl⟩ | rfl); (case hc => (first | (simp only [go_sem, f, decide_eq_true_eq]; done) | (simp only [go_sem, f, inR_i64, inR_u8, inR_i32, Bool.and_eq_true, decide_eq_true_eq] <;> (first | omega | (simp only [decide_eq_true_eq]; omega))))); (case hp => first | exact trivial | exact ⟨⟨Nat.le_of_ble_eq_true rfl, _, _, rfl, rfl, toDs_ofD1 _, DLeL.refl _⟩, trivial⟩); (case hle => simp only [go_sem, f]; exact g.out)) : G := h f ⟨g⟩
theorem wlpF {A B C D G : Prop} (l : A → B → C → D → G) {F : Prop} (f : F) (d : D) (ha : F → A := by intro f; (try (simp only [go_sem, f])); (try ((repeat' apply And.intro) <;> first | rfl | omega | skip))) (hb : F → B := by intro f; (try (simp only [go_sem, f])); (try ((repeat' apply And.intro) <;> first | rfl | omega | skip))) (hc : F → C := by intro f; (try (simp only [go_sem, f])); (try ((repeat' apply And.intro) <;> first | rfl | omega | skip))) : G := l (ha f) (hb f) (hc f) d
theorem wnxtF {A G : Prop} (ih : A) {F : Prop} (f : F) (h : A → F → G := by intro ih f ; exact ih _ (by (try (simp only [go_sem, f])); (try ((repeat' apply And.intro) <;> first | rfl | omega | skip))) (by (try (simp only [go_sem, f])); (try ((repeat' apply And.intro) <;> first | rfl | omega | skip))) (by (try (simp only [go_sem, f])); (try ((repeat' apply And.intro) <;> first | rfl | omega | skip))) (by (try dsimp only); first | omega | (simp only [List.length_append, List.length_cons, List.length_nil]; omega))) : G := h ih f 
end Go.PS

/-
  A part of the walks of this seat: each theorem says what a function of the program gives. No condition beyond its own premises.
-/
import Derived.Test.YtojgjdcciojpeaaGreatD6
set_option linter.unusedSimpArgs false
set_option linter.unusedVariables false
namespace Go.PS
open Go Go.RowKit

variable {P : Program} {T : Nat → Option TI}
variable {E : Env} {γ : Gh} {own : Nat → Option Nat} {st : St} {a : Act} {w : World}

/-- What stands at the end of a function: its results, read as data. -/
def resOk (T : Nat → Option TI) (s : SL) : List ResultVar → List D → Prop
  | [], [] => True
  | .tmp t :: rs, d :: ds => (∃ x, (lk .any s.tm t).toD = some x ∧ DLe x d) ∧ resOk T s rs ds
  | .cell c t :: rs, d :: ds => (∃ v x, evalLoad T t (lk .any s.tm c) (lk none s.ob) = some (true, v) ∧ v.toD = some x ∧ DLe x d) ∧ resOk T s rs ds
  | _, _ => False

def resD : List D → D
  | [d] => d
  | ds => .tup ds

/-- The objects that the call was given, at its end. -/
def postOk (s : SL) : List PO → Prop
  | [] => True
  | q :: qs => (3000 ≤ q.id ∧ ∃ o ds, lk none s.ob q.id = some o ∧ o.ty = q.ty ∧ PV.toD.toDs (flat o.elems) = some ds ∧ DLeL ds (q.elems.flatMap D.cells)) ∧ postOk s qs

/-- What is said of the world at the function's end. -/
structure EndOk (E : Env) (K' : Nat → Nat → Option Value) (w' : World) : Prop where
  k0 : KLe E.K0 K'
  ksub : KSub K' w'
  below : BelowM E.B E.M E.w0 w'
  knew : ∀ b o, K' b o ≠ E.K0 b o → E.mine b
  post : ∀ q ∈ E.post, ∃ blk cs spare, E.pas q.id = some blk ∧ w'.heap[blk]? = some (objOf q.ty cs spare) ∧ RepDL K' (q.elems.flatMap D.cells) cs.toList ∧ (∀ u ∈ cs.toList, u.oneCell' = true) ∧ ∀ off, K' blk off = none

/-- What is said of a row of the function's own that it gives back. -/
def finOk (E : Env) (v : Value) (K' : Nat → Nat → Option Value) (w' : World) : Prop :=
  ∀ q, E.res = some q → (q.id = 0 → ∃ blk cap cs spare, v = .slice (some ⟨blk, 0, none⟩) q.elems.length cap ∧ q.elems.length ≤ cap ∧ E.mine blk ∧ w'.heap[blk]? = some (objOf q.ty cs spare) ∧ RepDL K' (q.elems.flatMap D.cells) cs.toList ∧ (∀ u ∈ cs.toList, u.oneCell' = true) ∧ ∀ off, K' blk off = none) ∧ (q.id = 1 → RepD K' (.sl q.sz q.elems) v ∧ SpareOk E.mine K' w' q.ty q.sz v)

theorem endOk_of {s : SL} (hC : Conc E γ own s.of a w) : ∀ {l : List PO}, postOk s l → ∀ q ∈ l, ∃ blk cs spare, E.pas q.id = some blk ∧ w.heap[blk]? = some (objOf q.ty cs spare) ∧ RepDL γ.K (q.elems.flatMap D.cells) cs.toList ∧ (∀ u ∈ cs.toList, u.oneCell' = true) ∧ ∀ off, γ.K blk off = none
  | q :: l, h, q', hq => by
    rcases List.mem_cons.1 hq with rfl | hq
    · obtain ⟨h3, o, ds, ho, hty, hds, hle⟩ := h.1
      obtain ⟨blk, cs, hm, hok⟩ := hC.world.obj _ o ho
      obtain ⟨spare, hheap⟩ := hok.heap
      exact ⟨blk, cs, spare, hC.world.pas _ _ _ h3 hm, by rw [← hty]; exact hheap, hle _ _ (RepL.toDs hok.rep hds), hok.one, hok.free⟩
    · exact endOk_of hC h.2 q' hq

/-- From here on the function's body comes to its end, with these results. -/
def Run (P : Program) (E : Env) (fn : Func) (f : FuncId) (r : List D) (todo : List Item) (st : St) : Prop :=
  ∀ (γ : Gh) (own : Nat → Option Nat) (a : Act) (w : World), Conc E γ own st a w → ∀ (b : Frame) (cs : List Frame), b.fn = f → b.kind = .normal →
    ∃ (e : Ending) (w' : World) (fr : Frame), (∃ v K', e = .returned v ∧ (E.res = none → RepD K' (resD r) v) ∧ EndOk E K' w' ∧ finOk E v K' w') ∧
      Comes P (lone (b.at a todo) cs w) (lone fr cs w') e ∧ fr.fn = f ∧ fr.leaving P w' e

section
variable {fn : Func} {f : FuncId} {r : List D} {k : List Item} {s : SL}

theorem Run.of_step {todo todo' : List Item} {st : St} (h : Run P E fn f r todo' st) (hs : ∀ (b : Frame) (a : Act) (cs : List Frame) (w : World) γ own, Conc E γ own st a w → Steps P (lone (b.at a todo) cs w) (lone (b.at a todo') cs w)) : Run P E fn f r todo st :=
  fun γ own a w hC b cs hb hk => let ⟨e, w', fr, h1, h2, h3⟩ := h γ own a w hC b cs hb hk; ⟨e, w', fr, h1, Comes.of_steps (hs b a cs w γ own hC) h2, h3⟩

theorem run_seq {x y : Code} (h : Run P E fn f r (.code x :: .code y :: k) st) : Run P E fn f r (.code (.seq x y) :: k) st := h.of_step fun _ _ _ _ _ _ _ => .one step_seq
theorem run_skip (h : Run P E fn f r k st) : Run P E fn f r (.code .skip :: k) st := h.of_step fun _ _ _ _ _ _ _ => .one step_skip
theorem run_label {l : Nat} (h : Run P E fn f r k st) : Run P E fn f r (.code (.label l) :: k) st := h.of_step fun _ _ _ _ _ _ _ => .one step_label
theorem run_block {id : Nat} {c : Code} (h : Run P E fn f r (.code c :: .inBlock id :: k) st) : Run P E fn f r (.code (.block id c) :: k) st := h.of_step fun _ _ _ _ _ _ _ => .one step_block
theorem run_inBlock {id : Nat} (h : Run P E fn f r k st) : Run P E fn f r (.inBlock id :: k) st := h.of_step fun _ _ _ _ _ _ _ => .one step_inBlock
theorem run_exit {id : Nat} {k' : List Item} (hk : exitTo id k = some k') (h : Run P E fn f r k' st) : Run P E fn f r (.code (.exit id) :: k) st := h.of_step fun _ _ _ _ _ _ _ => .one (step_exit hk)
theorem run_loop {c : Code} (h : Run P E fn f r (.code c :: .inLoop c :: k) st) : Run P E fn f r (.code (.loop c) :: k) st := h.of_step fun _ _ _ _ _ _ _ => .one step_loop

theorem run_cond {c : Operand} {x y : Code} {t : Bool} (hc : st.look c = .d (.bool t)) (h1 : t = true → Run P E fn f r (.code x :: k) st) (h0 : t = false → Run P E fn f r (.code y :: k) st) : Run P E fn f r (.code (.cond c x y) :: k) st := by
  have h : Run P E fn f r (.code (if t then x else y) :: k) st := by
    cases t
    · exact h0 rfl
    · exact h1 rfl
  refine h.of_step fun b a cs w γ own hC => .one (step_cond ?_)
  have := hC.look c
  rw [hc] at this
  exact rep_bool this

theorem run_weak {st st' : St} (hle : ∀ γ own a w, Conc E γ own st a w → ∃ γ' own', Conc E γ' own' st' a w) (h : Run P E fn f r k st') : Run P E fn f r k st :=
  fun γ own a w hC => let ⟨γ', own', hC'⟩ := hle γ own a w hC; h γ' own' a w hC'

/-- A loop: H i is the state at the head of a round, the measure goes down. -/
theorem run_rounds {ι : Type} {c : Code} (H : ι → St) (μ : ι → Nat)
    (h : ∀ i, (∀ j, μ j < μ i → Run P E fn f r (.inLoop c :: k) (H j)) → Run P E fn f r (.code c :: .inLoop c :: k) (H i)) : ∀ i, Run P E fn f r (.code (.loop c) :: k) (H i) := by
  have key : ∀ n i, μ i = n → Run P E fn f r (.inLoop c :: k) (H i) := by
    intro n
    induction n using Nat.strongRecOn with
    | _ n ih =>
      intro i hi
      exact (h i fun j hj => ih (μ j) (hi ▸ hj) j rfl).of_step fun _ _ _ _ _ _ _ => .one step_inLoop
  exact fun i => run_loop (h i fun j _ => key _ j rfl)

theorem run_region (hT : TabOk P T) {id : Nat} {ops : Array Oper} {l : List Oper} (hl : ops.toList = l) {K : SL → Prop} (hK : ∀ s', K s' → Run P E fn f r k s'.of) {m : Bool} (h : ROps P T ops E.n m K l s) : Run P E fn f r (.code (.region id ops false) :: k) s.of := by
  intro γ own a w hC b cs hb hk
  subst hl
  have hw := h.wpOps hT (Q' := fun e a' w' => e = .normal ∧ ∃ s' γ' own', K s' ∧ Conc E γ' own' s'.of a' w') (fun s' γ' own' a' w' hk hC' => ⟨rfl, s', γ', own', hk, hC'⟩) ops.toList 0 (by simp) hC
  have hr : List.range' 0 ops.toList.length = List.range ops.size := by rw [Array.length_toList, List.range_eq_range']
  rw [hr] at hw
  obtain ⟨e, a', w', ⟨rfl, s', γ', own', hk', hC'⟩, harr⟩ := wp_region (id := id) hw b k cs
  obtain ⟨e2, w2, fr, h1, h2, h3⟩ := hK s' hk' γ' own' a' w' hC' b cs hb hk
  exact ⟨e2, w2, fr, h1, Comes.of_steps harr h2, h3⟩

theorem run_region_draw (hT : TabOk P T) (hm : P.follows .mixedOrders = true) {id : Nat} {ops : Array Oper} {l : List Oper} (hl : ops.toList = l) (hB : lexFromS ops ops.size 0 (Array.replicate ops.size false) = true) (hds : dstsOk E.n l = true)
    {K : SL → Prop} (hK : ∀ s', K s' → Run P E fn f r k s'.of) (h : ROps P T ops E.n false K l s) : Run P E fn f r (.code (.region id ops true) :: k) s.of := by
  intro γ own a w hC b cs hb hk
  subst hl
  have hany := sAny_lex (P := P) (T := T) (n := E.n) hT (List.all_eq_true.1 hds) ops.toList 0 (Array.replicate ops.size false) s (by simp) (by simpa using hB) h ⟨γ, own, a, w, hC⟩ (ClosedB.start _)
  have hw := sAny_wp (P := P) hT (List.all_eq_true.1 hds) (Q' := fun e a' w' => e = .normal ∧ ∃ s' γ' own', K s' ∧ Conc E γ' own' s'.of a' w')
    (fun st γ' own' a' w' ⟨s', hk, e⟩ hC' => by subst e; exact ⟨rfl, s', γ', own', hk, hC'⟩) ops.toList.length (Array.replicate ops.size false) s.of γ own a w.drew hC.drew hany
  rw [Array.length_toList] at hw
  obtain ⟨e, a', w', ⟨rfl, s', γ', own', hk', hC'⟩, harr⟩ := wp_region_any (id := id) hm hw b k cs
  obtain ⟨e2, w2, fr, h1, h2, h3⟩ := hK s' hk' γ' own' a' w' hC' b cs hb hk
  exact ⟨e2, w2, fr, h1, Comes.of_steps harr h2, h3⟩

/-- The results, read. -/
theorem results_run (hT : TabOk P T) (hC : Conc E γ own s.of a w) : ∀ (rs : List ResultVar) (ds : List D), resOk T s rs ds →
    ∃ vs, (rs.mapM (fun x : ResultVar => match x with
      | .tmp t => (pure (a.tmps.getD t undef) : Sem Value)
      | .cell c t => do loadVar t (← asAddr (a.tmps.getD c undef)))).run P w = .ok vs w ∧ RepDL γ.K ds vs
  | [], [], _ => ⟨[], rfl, .nil⟩
  | .tmp t :: rs, d :: ds, h => by
    obtain ⟨⟨x, hx, hle⟩, h2⟩ := h
    obtain ⟨vs, hvs, hr⟩ := results_run hT hC rs ds h2
    exact ⟨a.tmps.getD t undef :: vs, by simp only [List.mapM_cons, Sem.run_bind, Sem.run_pure, Result.andThen_ok, hvs], .cons (hle _ _ (Rep.toD (hC.tm t) hx)) hr⟩
  | .cell c t :: rs, d :: ds, h => by
    obtain ⟨⟨v, x, hl, hx, hle⟩, h2⟩ := h
    obtain ⟨vs, hvs, hr⟩ := results_run hT hC rs ds h2
    obtain ⟨u, hu, hur⟩ := evalLoad_sound (P := P) hT hC.world (hC.tm c) hl
    refine ⟨u :: vs, ?_, .cons (hle _ _ (Rep.toD hur hx)) hr⟩
    have hadr : ∃ ad, a.tmps.getD c undef = .pointer (some ad) := by
      have htc := hC.tm c
      change Rep γ (lk .any s.tm c) _ at htc
      unfold evalLoad at hl
      split at hl
      · cases hl
      · split at hl
        · rename_i heq; rw [heq] at htc; obtain ⟨_, _, _, h⟩ := rep_hp htc; exact ⟨_, h⟩
        · rename_i heq; rw [heq] at htc; obtain ⟨_, _, _, h, _⟩ := rep_ref htc; exact ⟨_, h⟩
        · cases hl
    obtain ⟨ad, had⟩ := hadr
    rw [had] at hu
    simp only [Instr.loadAt, Instr.sureAddr, Sem.run_bind, Sem.run_pure, Result.andThen_ok] at hu
    have h1 : (asAddr (a.tmps.getD c undef)).run P w = .ok ad w := by rw [had]; rfl
    simp only [List.mapM_cons, Sem.run_bind, Sem.run_pure, Result.andThen_ok, h1, hu, hvs]
  | [], _ :: _, h => by simp [resOk] at h
  | .tmp _ :: _, [], h => by simp [resOk] at h
  | .cell _ _ :: _, [], h => by simp [resOk] at h

theorem results_eq (tmps : Array Value) (w : World) {vs : List Value} (h : (fn.results.toList.mapM (fun x : ResultVar => match x with
      | .tmp t => (pure (tmps.getD t undef) : Sem Value)
      | .cell c t => do loadVar t (← asAddr (tmps.getD c undef)))).run P w = .ok vs w) :
    (results fn tmps).run P w = .ok (match vs with | [v] => v | vs => .tuple vs.toArray) w := by
  have hA : (fn.results.mapM (fun x : ResultVar => match x with
      | .tmp t => (pure (tmps.getD t undef) : Sem Value)
      | .cell c t => do loadVar t (← asAddr (tmps.getD c undef)))).run P w = .ok vs.toArray w := by
    rw [Array.mapM_eq_mapM_toList, Sem.run_map, h]; rfl
  have hB : (results fn tmps).run P w = ((fn.results.mapM (fun x : ResultVar => match x with
      | .tmp t => (pure (tmps.getD t undef) : Sem Value)
      | .cell c t => do loadVar t (← asAddr (tmps.getD c undef)))).run P w).andThen fun vs w' => .ok (if h : vs.size = 1 then vs[0] else .tuple vs) w' := Sem.run_bind P w _ _
  rw [hB, hA]
  simp only [Result.andThen_ok]
  match vs with
  | [] => rfl
  | [v] => rfl
  | _ :: _ :: _ => rfl

theorem run_end (hT : TabOk P T) (hfn : P.funcs[f]? = some fn) (h : resOk T s fn.results.toList r) (hp : postOk s E.post) (hres : E.res = none) : Run P E fn f r [] s.of ∧ ∀ k, Run P E fn f r (.code .ret :: k) s.of := by
  have key : ∀ (γ : Gh) (own : Nat → Option Nat) (a : Act) (w : World), Conc E γ own s.of a w → ∀ (b : Frame) (todo : List Item), b.fn = f → b.kind = .normal →
      ∃ v K', (({ b.at a todo with mode := .returning } : Frame)).leaving P w (.returned v) ∧ (E.res = none → RepD K' (resD r) v) ∧ EndOk E K' w ∧ finOk E v K' w := by
    intro γ own a w hC b todo hb hk
    obtain ⟨vs, hvs, hr⟩ := results_run (P := P) hT hC fn.results.toList r h
    have hre := results_eq (fn := fn) a.tmps w hvs
    refine ⟨_, γ.K, ⟨rfl, hC.defers, hk, fn, by simpa [Frame.at, hb] using hfn, hre⟩, fun _ => ?_, ⟨hC.world.k0, hC.world.ksub, hC.world.below, hC.world.knew, endOk_of hC hp⟩, fun q hq => by rw [hres] at hq; cases hq⟩
    match r, vs, hr with
    | [], [], _ => exact RepD.tup_iff.2 ⟨[], rfl, .nil⟩
    | [d], [v], hr => exact (hr.2 0 d v rfl rfl)
    | d :: d' :: ds, v :: v' :: vs, hr => exact RepD.tup_iff.2 ⟨_, rfl, hr⟩
    | [], _ :: _, hr => have := hr.1; simp at this
    | [_], [], hr => have := hr.1; simp at this
    | [_], _ :: _ :: _, hr => have := hr.1; simp at this
    | _ :: _ :: _, [], hr => have := hr.1; simp at this
    | _ :: _ :: _, [_], hr => have := hr.1; simp at this
  constructor
  · intro γ own a w hC b cs hb hk
    obtain ⟨v, K', h1, h2⟩ := key γ own a w hC b [] hb hk
    exact ⟨.returned v, w, _, ⟨v, K', rfl, h2⟩, .one step_end, hb, h1⟩
  · intro k γ own a w hC b cs hb hk
    obtain ⟨v, K', h1, h2⟩ := key γ own a w hC b (.code .ret :: k) hb hk
    exact ⟨.returned v, w, _, ⟨v, K', rfl, h2⟩, .one step_ret, hb, h1⟩

/-- The arguments, in the first slots. -/
def argsL : Nat → List D → List (Nat × PV)
  | _, [] => []
  | i, d :: ds => (i, PV.ofD d) :: argsL (i + 1) ds

theorem lk_argsL : ∀ (ds : List D) (i j : Nat), lk .any (argsL i ds) j = if i ≤ j then ((ds[j - i]?).map PV.ofD).getD .any else .any
  | [], i, j => by simp [argsL, lk]
  | d :: ds, i, j => by
    simp only [argsL, lk]
    by_cases h : j = i
    · subst h; simp
    · rw [if_neg h, lk_argsL ds (i + 1) j]
      by_cases h1 : i ≤ j
      · rw [if_pos (by omega), if_pos h1, show j - i = (j - (i + 1)) + 1 by omega]; simp
      · rw [if_neg (by omega), if_neg h1]

/-- A function by its body. -/
theorem pcall_run (hfn : P.funcs[f]? = some fn) {c : Code} (hc : fn.body = some c) (hname : (fn.name == "runtime.NumGoroutine") = false) (hsm : fn.ntmps ≤ 3000) {ds : List D} (hn : ds.length ≤ fn.ntmps)
    (h : ∀ E : Env, E.n = fn.ntmps → E.post = [] → E.res = none → Run P E fn f r [.code c] (SL.mk (argsL 0 ds) [] []).of) : PCall P f ds (resD r) := by
  refine ⟨⟨fn, hfn, by simp [hc], hname⟩, fun K w vs hK hvs => ?_⟩
  intro cs
  let E : Env := ⟨fn.ntmps, hsm, w, K, hK, fun _ => none, (fun _ _ h => by cases h), [], none⟩
  let b : Frame := { (default : Frame) with fn := f, kind := .normal }
  have henter : Frame.enter P f vs.toArray .normal = b.at { tmps := vs.toArray ++ Array.replicate (fn.ntmps - vs.toArray.size) undef, defers := [] } [.code c] := by
    simp [Frame.enter, Frame.at, hfn, hc, b]
  have hlen : vs.length = ds.length := hvs.1.symm
  have hC : Conc E ⟨K, fun _ => none, fun _ => none⟩ (fun _ => none) (SL.mk (argsL 0 ds) [] []).of { tmps := vs.toArray ++ Array.replicate (fn.ntmps - vs.toArray.size) undef, defers := [] } w := by
    refine ⟨rfl, by simp [E]; omega, fun i => ?_, ⟨KLe.refl _, (fun b o h => absurd rfl h), hK, BelowM.refl _ _ _, (fun id o h => (by cases h)), (fun _ _ => rfl), (fun i j b s t h => (by cases h)), (fun t e sz h => (by cases h)), (fun t t' e e' s s' g h => (by cases h)), (fun _ _ => rfl), (fun id b s _ h => by cases h), (fun t e sz v _ h => by cases h)⟩⟩
    change Rep _ (lk .any (argsL 0 ds) i) _
    rw [lk_argsL, if_pos (Nat.zero_le _), Nat.sub_zero]
    cases hd : ds[i]? with
    | none => exact .any _
    | some d =>
      have hi : i < vs.length := by rw [hlen]; exact (List.getElem?_eq_some_iff.1 hd).1
      have hv := hvs.2 i d vs[i] hd (List.getElem?_eq_getElem hi)
      have : (vs.toArray ++ Array.replicate (fn.ntmps - vs.toArray.size) undef).getD i undef = vs[i] := by
        simp [Array.getElem?_append, hi]
      rw [this]
      exact Rep.ofD hv
  obtain ⟨e, w', fr, ⟨v, K', he, hr, hend, _⟩, h2, h3, h4⟩ := h E rfl rfl rfl _ _ _ w hC b cs rfl rfl
  rw [← henter] at h2
  refine ⟨e, w', fr, ⟨v, K', he, hr rfl, hend.k0, hend.ksub, hend.below.below (fun k hk => by obtain ⟨id, h⟩ := hk; cases h), fun b o hk => ?_⟩, h2, h3, h4⟩
  rcases hend.knew b o hk with h | ⟨id, h⟩
  · exact h
  · cases h

/-- The arguments of a call that is given objects. -/
def margsL : Nat → List MA → List (Nat × PV)
  | _, [] => []
  | i, d :: ds => (i, d.pv) :: margsL (i + 1) ds
theorem lk_margsL : ∀ (ds : List MA) (i j : Nat), lk .any (margsL i ds) j = if i ≤ j then ((ds[j - i]?).map MA.pv).getD .any else .any
  | [], i, j => by simp [margsL, lk]
  | d :: ds, i, j => by
    simp only [margsL, lk]
    by_cases h : j = i
    · subst h; simp
    · rw [if_neg h, lk_margsL ds (i + 1) j]
      by_cases h1 : i ≤ j
      · rw [if_pos (by omega), if_pos h1, show j - i = (j - (i + 1)) + 1 by omega]; simp
      · rw [if_neg (by omega), if_neg h1]
def obsL : List PO → List (Nat × Option OB)
  | [] => []
  | q :: qs => (q.id, some q.ob) :: obsL qs
theorem lk_obsL : ∀ (l : List PO) (id : Nat) (o : OB), lk none (obsL l) id = some o → ∃ q ∈ l, q.id = id ∧ o = q.ob
  | q :: l, id, o, h => by
    simp only [obsL, lk] at h
    split at h
    · rename_i e; cases h; exact ⟨q, by simp, e.symm, rfl⟩
    · obtain ⟨q', h1, h2⟩ := lk_obsL l id o h; exact ⟨q', by simp [h1], h2⟩
theorem lk_obsL_none : ∀ (l : List PO) (id : Nat), lk none (obsL l) id = none → ∀ q ∈ l, q.id ≠ id
  | q :: l, id, h, q', hq => by
    simp only [obsL, lk] at h
    split at h
    · cases h
    · rename_i hne
      rcases List.mem_cons.1 hq with rfl | hq
      · exact Ne.symm hne
      · exact lk_obsL_none l id h q' hq

/-- A function that is given objects, by its body. -/
theorem mcall_run (hfn : P.funcs[f]? = some fn) {c : Code} (hc : fn.body = some c) (hname : (fn.name == "runtime.NumGoroutine") = false) (hsm : fn.ntmps ≤ 3000) {pre post : List PO} {ds : List MA} (hn : ds.length ≤ fn.ntmps)
    (hel : ∀ q ∈ pre, ∀ e ∈ q.elems, e.cells.length = q.sz) (hids : ∀ q ∈ pre, ∃ q' ∈ post, q'.id = q.id)
    (h : ∀ E : Env, E.n = fn.ntmps → E.post = post → E.res = none → Run P E fn f r [.code c] (SL.mk (margsL 0 ds) (obsL pre) []).of) : MCall P f pre ds (resD r) post := by
  refine ⟨⟨fn, hfn, by simp [hc], hname⟩, fun K m w vs hK hsup hat hinj hvs => ?_⟩
  intro cs
  let E : Env := ⟨fn.ntmps, hsm, w, K, hK, fun id => (m id).map (·.1), (fun id b hb o => by
    simp only [Option.map_eq_some_iff] at hb
    obtain ⟨⟨b', s⟩, hb, rfl⟩ := hb
    have hq : ∃ q ∈ pre, q.id = id := by
      refine Classical.byContradiction fun hno => ?_
      rw [hsup id (fun q hq e => hno ⟨q, hq, e⟩)] at hb; cases hb
    obtain ⟨q, hq, rfl⟩ := hq
    obtain ⟨⟨blk, s', cs, spare, hm, _, _, _, hfree⟩, _⟩ := hat q hq
    rw [hb] at hm; cases hm
    exact hfree o), post, none⟩
  let b : Frame := { (default : Frame) with fn := f, kind := .normal }
  have henter : Frame.enter P f vs.toArray .normal = b.at { tmps := vs.toArray ++ Array.replicate (fn.ntmps - vs.toArray.size) undef, defers := [] } [.code c] := by
    simp [Frame.enter, Frame.at, hfn, hc, b]
  have hlen : vs.length = ds.length := by simpa using hvs.1.symm
  have hmine : ∀ id b s, m id = some (b, s) → E.mine b := fun id b s h => .inr ⟨id, by simp [E, h]⟩
  have hC : Conc E ⟨K, m, fun _ => none⟩ (fun _ => none) (SL.mk (margsL 0 ds) (obsL pre) []).of { tmps := vs.toArray ++ Array.replicate (fn.ntmps - vs.toArray.size) undef, defers := [] } w := by
    refine ⟨rfl, by simp [E]; omega, fun i => ?_, ⟨KLe.refl _, (fun b o h => absurd rfl h), hK, BelowM.refl _ _ _, (fun id o ho => ?_), (fun id ho => ?_), hinj, (fun t e sz h => (by cases h)), (fun t t' e e' s s' g h => (by cases h)), (fun _ _ => rfl), (fun id b s _ h => by simp [E, show m id = some (b, s) from h]), (fun t e sz v _ h => by cases h)⟩⟩
    · change Rep _ (lk .any (margsL 0 ds) i) _
      rw [lk_margsL, if_pos (Nat.zero_le _), Nat.sub_zero]
      cases hd : ds[i]? with
      | none => exact .any _
      | some d =>
        have hi : i < vs.length := by rw [hlen]; exact (List.getElem?_eq_some_iff.1 hd).1
        have hv := hvs.2 i d.pv vs[i] (by simp [hd]) (List.getElem?_eq_getElem hi)
        have : (vs.toArray ++ Array.replicate (fn.ntmps - vs.toArray.size) undef).getD i undef = vs[i] := by
          simp [Array.getElem?_append, hi]
        rw [this]
        exact hv
    · obtain ⟨q, hq, rfl, rfl⟩ := lk_obsL pre id o ho
      obtain ⟨⟨blk, s, cs', spare, hm, hheap, hrep, h1, hfree⟩, blk', hm'⟩ := hat q hq
      rw [hm] at hm'; cases hm'
      refine ⟨blk, cs', hm, hmine _ _ _ hm, ⟨spare, hheap⟩, ?_, h1, ?_, hfree⟩
      · show RepL _ (flat (q.elems.map PV.ofD.PV.ofD1)) _
        rw [flat_ofD1]
        exact RepDL.toRep (γ := ⟨K, m, fun _ => none⟩) hrep
      · intro e he
        obtain ⟨d, hd, rfl⟩ := List.mem_map.1 he
        have : (PV.ofD.PV.ofD1 d).cells.length = d.cells.length := by cases d <;> simp [PV.ofD.PV.ofD1, PV.cells, D.cells]
        rw [this]; exact hel q hq d hd
    · exact hsup id (lk_obsL_none pre id ho)
  obtain ⟨e, w', fr, ⟨v, K', he, hr, hend, _⟩, h2, h3, h4⟩ := h E rfl rfl rfl _ _ _ w hC b cs rfl rfl
  rw [← henter] at h2
  have hM : ∀ k, (∃ id s, m id = some (k, s)) → E.M k := fun k ⟨id, s, h⟩ => ⟨id, by simp [E, h]⟩
  refine ⟨e, w', fr, ⟨v, K', he, hr rfl, hend.k0, hend.ksub, ⟨hend.below.os, hend.below.tape, hend.below.output, hend.below.size, fun k hk hno => hend.below.block k hk fun ⟨id, h⟩ => ?_⟩, fun b o hk => ?_, fun q hq => ?_⟩, h2, h3, h4⟩
  · simp only [E, Option.map_eq_some_iff] at h
    obtain ⟨⟨b', s⟩, h, rfl⟩ := h
    exact hno ⟨id, s, h⟩
  · rcases hend.knew b o hk with h | ⟨id, h⟩
    · exact h
    · refine absurd (Eq.trans ?_ (E.free id b h o).symm) hk
      have hb := h
      simp only [E, Option.map_eq_some_iff] at hb
      obtain ⟨⟨b', s⟩, hb, rfl⟩ := hb
      have hq : ∃ q ∈ pre, q.id = id := by
        refine Classical.byContradiction fun hno => ?_
        rw [hsup id (fun q hq e => hno ⟨q, hq, e⟩)] at hb; cases hb
      obtain ⟨q, hq, rfl⟩ := hq
      obtain ⟨q', hq', e'⟩ := hids q hq
      obtain ⟨blk, cs', spare, hp, _, _, _, hfree⟩ := hend.post q' hq'
      rw [e', h] at hp
      cases hp
      exact hfree o
  · obtain ⟨blk, cs', spare, hp, h5⟩ := hend.post q hq
    simp only [E, Option.map_eq_some_iff] at hp
    obtain ⟨⟨b', s⟩, hp, rfl⟩ := hp
    exact ⟨b', s, cs', spare, hp, h5⟩

/-- The end of a function that gives back a row of its own. -/
theorem run_endO (hT : TabOk P T) (hfn : P.funcs[f]? = some fn) {t id : Nat} {q : PO} (hq0 : q.id = 0) (hrs : fn.results.toList = [.tmp t]) (hp : E.post = []) (hres : E.res = some q) (hpas : ∀ i, E.pas i = none)
    (ht : lk .any s.tm t = .hrow id q.sz 0 q.elems.length q.elems.length) (ho : lk none s.ob id = some q.ob) : Run P E fn f r [] s.of ∧ ∀ k, Run P E fn f r (.code .ret :: k) s.of := by
  have key : ∀ (γ : Gh) (own : Nat → Option Nat) (a : Act) (w : World), Conc E γ own s.of a w → ∀ (b : Frame) (todo : List Item), b.fn = f → b.kind = .normal →
      ∃ v K', (({ b.at a todo with mode := .returning } : Frame)).leaving P w (.returned v) ∧ (E.res = none → RepD K' (resD r) v) ∧ EndOk E K' w ∧ finOk E v K' w := by
    intro γ own a w hC b todo hb hk
    have hv : (fn.results.toList.mapM (fun x : ResultVar => match x with
      | .tmp t => (pure (a.tmps.getD t undef) : Sem Value)
      | .cell c t => do loadVar t (← asAddr (a.tmps.getD c undef)))).run P w = .ok [a.tmps.getD t undef] w := by
      rw [hrs]; rfl
    have hre := results_eq (fn := fn) a.tmps w hv
    have htm := hC.tm t
    change Rep γ (lk .any s.tm t) _ at htm
    rw [ht] at htm
    obtain ⟨blk, cs, hm, hok⟩ := hC.world.obj id q.ob ho
    obtain ⟨spare, hheap⟩ := hok.heap
    refine ⟨a.tmps.getD t undef, γ.K, ⟨rfl, hC.defers, hk, fn, by simpa [Frame.at, hb] using hfn, hre⟩, (fun h => by rw [hres] at h; cases h), ⟨hC.world.k0, hC.world.ksub, hC.world.below, hC.world.knew, (by rw [hp]; intro q hq; cases hq)⟩, fun q' hq' => ?_⟩
    rw [hres] at hq'
    cases hq'
    refine ⟨fun _ => ?_, fun h1 => by rw [hq0] at h1; cases h1⟩
    generalize a.tmps.getD t undef = v at htm
    cases htm with
    | hrow hg hc hl =>
      rename_i cap blk'
      have e : γ.m id = some (blk, q.sz) := hm
      rw [e] at hg
      cases hg
      refine ⟨blk, cap, cs, spare, by rw [Nat.zero_mul], hl, hok.base, hheap, ?_, hok.one, hok.free⟩
      have h3 := hok.rep
      change RepL γ (flat (q.elems.map PV.ofD.PV.ofD1)) _ at h3
      rw [flat_ofD1] at h3
      exact RepL.toDs h3 (by
        generalize q.elems.flatMap D.cells = l
        induction l with
        | nil => rfl
        | cons x l ih => simp only [List.map_cons, PV.toD.toDs, ih]; rfl)
  constructor
  · intro γ own a w hC b cs hb hk
    obtain ⟨v, K', h1, h2⟩ := key γ own a w hC b [] hb hk
    exact ⟨.returned v, w, _, ⟨v, K', rfl, h2⟩, .one step_end, hb, h1⟩
  · intro k γ own a w hC b cs hb hk
    obtain ⟨v, K', h1, h2⟩ := key γ own a w hC b (.code .ret :: k) hb hk
    exact ⟨.returned v, w, _, ⟨v, K', rfl, h2⟩, .one step_ret, hb, h1⟩
/-- Such a function by its body. -/
theorem ocall_run (hfn : P.funcs[f]? = some fn) {c : Code} (hc : fn.body = some c) (hname : (fn.name == "runtime.NumGoroutine") = false) (hsm : fn.ntmps ≤ 3000) {ds : List D} (hn : ds.length ≤ fn.ntmps) {ty : TypeId} {sz : Nat} {xs : List D}
    (h : ∀ E : Env, E.n = fn.ntmps → E.post = [] → E.res = some ⟨0, ty, sz, xs⟩ → (∀ i, E.pas i = none) → Run P E fn f r [.code c] (SL.mk (argsL 0 ds) [] []).of) : OCall P f ds ty sz xs := by
  refine ⟨⟨fn, hfn, by simp [hc], hname⟩, fun K w vs hK hvs => ?_⟩
  intro cs
  let E : Env := ⟨fn.ntmps, hsm, w, K, hK, fun _ => none, (fun _ _ h => by cases h), [], some ⟨0, ty, sz, xs⟩⟩
  let b : Frame := { (default : Frame) with fn := f, kind := .normal }
  have henter : Frame.enter P f vs.toArray .normal = b.at { tmps := vs.toArray ++ Array.replicate (fn.ntmps - vs.toArray.size) undef, defers := [] } [.code c] := by
    simp [Frame.enter, Frame.at, hfn, hc, b]
  have hlen : vs.length = ds.length := hvs.1.symm
  have hC : Conc E ⟨K, fun _ => none, fun _ => none⟩ (fun _ => none) (SL.mk (argsL 0 ds) [] []).of { tmps := vs.toArray ++ Array.replicate (fn.ntmps - vs.toArray.size) undef, defers := [] } w := by
    refine ⟨rfl, by simp [E]; omega, fun i => ?_, ⟨KLe.refl _, (fun b o h => absurd rfl h), hK, BelowM.refl _ _ _, (fun id o h => (by cases h)), (fun _ _ => rfl), (fun i j b s t h => (by cases h)), (fun t e sz h => (by cases h)), (fun t t' e e' s s' g h => (by cases h)), (fun _ _ => rfl), (fun id b s _ h => by cases h), (fun t e sz v _ h => by cases h)⟩⟩
    change Rep _ (lk .any (argsL 0 ds) i) _
    rw [lk_argsL, if_pos (Nat.zero_le _), Nat.sub_zero]
    cases hd : ds[i]? with
    | none => exact .any _
    | some d =>
      have hi : i < vs.length := by rw [hlen]; exact (List.getElem?_eq_some_iff.1 hd).1
      have hv := hvs.2 i d vs[i] hd (List.getElem?_eq_getElem hi)
      have : (vs.toArray ++ Array.replicate (fn.ntmps - vs.toArray.size) undef).getD i undef = vs[i] := by
        simp [Array.getElem?_append, hi]
      rw [this]
      exact Rep.ofD hv
  obtain ⟨e, w', fr, ⟨v, K', he, _, hend, hfin⟩, h2, h3, h4⟩ := h E rfl rfl rfl (fun _ => rfl) _ _ _ w hC b cs rfl rfl
  rw [← henter] at h2
  refine ⟨e, w', fr, ⟨v, K', he, hend.k0, hend.ksub, hend.below.below (fun k hk => by obtain ⟨id, h⟩ := hk; cases h), fun b o hk => ?_, ?_⟩, h2, h3, h4⟩
  · rcases hend.knew b o hk with h | ⟨id, h⟩
    · exact h
    · cases h
  · obtain ⟨blk, cap, cs', spare, g1, g2, g3, g4, g5, g6, g7⟩ := (hfin _ rfl).1 rfl
    refine ⟨blk, cap, cs', spare, g1, g2, ?_, g4, g5, g6, g7⟩
    rcases g3 with h | ⟨id, h⟩
    · exact h
    · cases h

/-- The end of a function that gives back a row that was grown. -/
theorem run_endT (hT : TabOk P T) (hfn : P.funcs[f]? = some fn) {t n : Nat} {q : PO} (hq0 : q.id = 1) (hsz : q.sz < 1000000) (hrs : fn.results.toList = [.tmp t]) (hp : E.post = []) (hres : E.res = some q)
    (ht : lk .any s.tm t = .own q.sz q.elems (.tok n)) (hk : lk .never s.tk n = .live q.ty q.sz) : Run P E fn f r [] s.of ∧ ∀ k, Run P E fn f r (.code .ret :: k) s.of := by
  have key : ∀ (γ : Gh) (own : Nat → Option Nat) (a : Act) (w : World), Conc E γ own s.of a w → ∀ (b : Frame) (todo : List Item), b.fn = f → b.kind = .normal →
      ∃ v K', (({ b.at a todo with mode := .returning } : Frame)).leaving P w (.returned v) ∧ (E.res = none → RepD K' (resD r) v) ∧ EndOk E K' w ∧ finOk E v K' w := by
    intro γ own a w hC b todo hb hk'
    have hv : (fn.results.toList.mapM (fun x : ResultVar => match x with
      | .tmp t => (pure (a.tmps.getD t undef) : Sem Value)
      | .cell c t => do loadVar t (← asAddr (a.tmps.getD c undef)))).run P w = .ok [a.tmps.getD t undef] w := by
      rw [hrs]; rfl
    have hre := results_eq (fn := fn) a.tmps w hv
    have htm := hC.tm t
    change Rep γ (lk .any s.tm t) _ at htm
    rw [ht] at htm
    have htok := hC.world.tok n q.ty q.sz hk
    refine ⟨a.tmps.getD t undef, γ.K, ⟨rfl, hC.defers, hk', fn, by simpa [Frame.at, hb] using hfn, hre⟩, (fun h => by rw [hres] at h; cases h), ⟨hC.world.k0, hC.world.ksub, hC.world.below, hC.world.knew, (by rw [hp]; intro q hq; cases hq)⟩, fun q' hq' => ?_⟩
    rw [hres] at hq'
    cases hq'
    refine ⟨(fun h1 => by rw [hq0] at h1; cases h1), fun _ => ?_⟩
    generalize a.tmps.getD t undef = v at htm
    cases htm with
    | own hr hτ =>
      obtain ⟨v', hv', hok⟩ := htok
      have hτ : γ.τ n = some v := hτ
      rw [hτ] at hv'
      cases hv'
      refine ⟨hr, ?_⟩
      cases ho : own n with
      | none => rw [ho] at hok; exact .inl hok
      | some g =>
        rw [ho] at hok
        obtain ⟨m, cap, cur, hok⟩ := hok
        have h1 := hok.size
        have h2 := hok.free
        rw [rsz_lt hsz] at h1 h2
        exact .inr ⟨g, m, cap, cur, hok.val, hok.base, hok.heap, hok.le, hok.max, h1, h2⟩
  constructor
  · intro γ own a w hC b cs hb hk
    obtain ⟨v, K', h1, h2⟩ := key γ own a w hC b [] hb hk
    exact ⟨.returned v, w, _, ⟨v, K', rfl, h2⟩, .one step_end, hb, h1⟩
  · intro k γ own a w hC b cs hb hk
    obtain ⟨v, K', h1, h2⟩ := key γ own a w hC b (.code .ret :: k) hb hk
    exact ⟨.returned v, w, _, ⟨v, K', rfl, h2⟩, .one step_ret, hb, h1⟩
/-- Such a function by its body. -/
theorem tcall_run (hfn : P.funcs[f]? = some fn) {c : Code} (hc : fn.body = some c) (hname : (fn.name == "runtime.NumGoroutine") = false) (hsm : fn.ntmps ≤ 3000) {ds : List D} (hn : ds.length ≤ fn.ntmps) {ty : TypeId} {sz : Nat} {xs : List D}
    (h : ∀ E : Env, E.n = fn.ntmps → E.post = [] → E.res = some ⟨1, ty, sz, xs⟩ → (∀ i, E.pas i = none) → Run P E fn f r [.code c] (SL.mk (argsL 0 ds) [] []).of) : TCall P f ds ty sz xs := by
  refine ⟨⟨fn, hfn, by simp [hc], hname⟩, fun K w vs hK hvs => ?_⟩
  intro cs
  let E : Env := ⟨fn.ntmps, hsm, w, K, hK, fun _ => none, (fun _ _ h => by cases h), [], some ⟨1, ty, sz, xs⟩⟩
  let b : Frame := { (default : Frame) with fn := f, kind := .normal }
  have henter : Frame.enter P f vs.toArray .normal = b.at { tmps := vs.toArray ++ Array.replicate (fn.ntmps - vs.toArray.size) undef, defers := [] } [.code c] := by
    simp [Frame.enter, Frame.at, hfn, hc, b]
  have hlen : vs.length = ds.length := hvs.1.symm
  have hC : Conc E ⟨K, fun _ => none, fun _ => none⟩ (fun _ => none) (SL.mk (argsL 0 ds) [] []).of { tmps := vs.toArray ++ Array.replicate (fn.ntmps - vs.toArray.size) undef, defers := [] } w := by
    refine ⟨rfl, by simp [E]; omega, fun i => ?_, ⟨KLe.refl _, (fun b o h => absurd rfl h), hK, BelowM.refl _ _ _, (fun id o h => (by cases h)), (fun _ _ => rfl), (fun i j b s t h => (by cases h)), (fun t e sz h => (by cases h)), (fun t t' e e' s s' g h => (by cases h)), (fun _ _ => rfl), (fun id b s _ h => by cases h), (fun t e sz v _ h => by cases h)⟩⟩
    change Rep _ (lk .any (argsL 0 ds) i) _
    rw [lk_argsL, if_pos (Nat.zero_le _), Nat.sub_zero]
    cases hd : ds[i]? with
    | none => exact .any _
    | some d =>
      have hi : i < vs.length := by rw [hlen]; exact (List.getElem?_eq_some_iff.1 hd).1
      have hv := hvs.2 i d vs[i] hd (List.getElem?_eq_getElem hi)
      have : (vs.toArray ++ Array.replicate (fn.ntmps - vs.toArray.size) undef).getD i undef = vs[i] := by
        simp [Array.getElem?_append, hi]
      rw [this]
      exact Rep.ofD hv
  obtain ⟨e, w', fr, ⟨v, K', he, _, hend, hfin⟩, h2, h3, h4⟩ := h E rfl rfl rfl (fun _ => rfl) _ _ _ w hC b cs rfl rfl
  rw [← henter] at h2
  obtain ⟨hr, hsp⟩ := (hfin _ rfl).2 rfl
  refine ⟨e, w', fr, ⟨v, K', he, hr, hend.k0, hend.ksub, hend.below.below (fun k hk => by obtain ⟨id, h⟩ := hk; cases h), fun b o hk => ?_, ?_⟩, h2, h3, h4⟩
  · rcases hend.knew b o hk with h | ⟨id, h⟩
    · exact h
    · cases h
  · rcases hsp with h | ⟨g, m, cap, cur, g1, g2, g3⟩
    · exact .inl h
    · refine .inr ⟨g, m, cap, cur, g1, ?_, g3⟩
      rcases g2 with h | ⟨id, h⟩
      · exact h
      · cases h

end
end Go.PS
set_option linter.unusedSimpArgs false
set_option linter.unusedVariables false
namespace Go.PS
open Go Go.RowKit

/-- One operation, carried out. -/
def stepE (T : Nat → Option TI) (n : Nat) (o : Oper) (s : SL) : Option (Bool × SL) :=
  match evalOp T o.dst o.op s.look (lk none s.ob) (lk .never s.tk) with
  | some (c, v, e) => some (dstOk n o.dst && (Op.cutOk o.op && c), (s.eff e).put o.dst v)
  | none => none

def guardE (ops : Array Oper) (o : Oper) (s : SL) : Option Bool := guardOf ops (lk .any s.tm) o

section
variable {P : Program} {T : Nat → Option TI} {ops : Array Oper} {n : Nat} {m : Bool} {Q : SL → Prop} {o : Oper} {os : List Oper} {s s' : SL}

theorem rops_ev {c : Bool} (hg : guardE ops o s = some true) (he : stepE T n o s = some (c, s')) (hc : c = true) (hr : ROps P T ops n m Q os s') : ROps P T ops n m Q (o :: os) s := by
  unfold stepE at he
  split at he
  · rename_i c' v e h
    simp only [Option.some.injEq, Prod.mk.injEq] at he
    obtain ⟨h1, h2⟩ := he
    subst hc; subst h2
    simp only [Bool.and_eq_true] at h1
    obtain ⟨h1, h2, h3⟩ := h1
    subst h3
    exact .cons h1 (.ev hg h2 (by rw [SL.of_look]; exact h)) hr
  · cases he

theorem rops_skip (hg : guardE ops o s = some false) (hd : dstOk n o.dst = true) (hr : ROps P T ops n m Q os (s.put o.dst (.tup []))) : ROps P T ops n m Q (o :: os) s :=
  .cons hd (.skip hg) hr

/-- What a call is about: its function, its arguments, read. -/
def callE (o : Oper) (s : SL) : Option (FuncId × List D) :=
  match o.op with
  | .call { callee := .value f, args, .. } => match asFn (s.look f) with
    | some (g, first, caps) => match PV.toD.toDs (first ++ args.toList.map s.look ++ caps) with
      | some ds => some (g, ds)
      | none => none
    | _ => none
  | _ => none

theorem rops_call {g : FuncId} {ds ds' : List D} {r : D} (hg : guardE ops o s = some true) (he : callE o s = some (g, ds)) (hd : dstOk n o.dst = true) (hle : DLeL ds ds') (hcall : PCall P g ds' r)
    (hr : ROps P T ops n m Q os (s.put o.dst (PV.ofD r))) : ROps P T ops n m Q (o :: os) s := by
  unfold callE at he
  split at he
  · rename_i f args argTypes ho
    split at he
    · rename_i g' first caps hf
      split at he
      · rename_i ds0 hds
        simp only [Option.some.injEq, Prod.mk.injEq] at he
        obtain ⟨rfl, rfl⟩ := he
        exact .cons hd (.call hg ho (by rw [SL.of_look]; exact hf) (by rw [SL.of_look]; exact hds) hle hcall) hr
      · cases he
    · cases he
  · cases he

/-- What a call that is given objects is about. -/
def callF (o : Oper) (s : SL) : Option (FuncId × List PV) :=
  match o.op with
  | .call { callee := .value f, args, .. } => match asFn (s.look f) with
    | some (g, first, caps) => some (g, first ++ args.toList.map s.look ++ caps)
    | _ => none
  | _ => none

theorem rops_mcall (ids : List (Nat × Nat)) {g : FuncId} {pre post : List PO} {as : List MA} {args : List PV} {r : D} (hcall : MCall P g pre as r post) (hg : guardE ops o s = some true) (he : callF o s = some (g, args)) (ha : argsOk ids args as)
    (hids : ids.map (·.1) = pre.map (·.id)) (hnd : (ids.map (·.1)).Nodup) (hnd2 : (ids.map (·.2)).Nodup) (hpre : preOk (lk none s.ob) (idOf ids) pre) (hpp : post.map (fun q => (q.id, q.sz)) = pre.map (fun q => (q.id, q.sz)))
    (hel : ∀ q ∈ post, ∀ e ∈ q.elems, e.cells.length = q.sz) (hd : dstOk n o.dst = true) (hs : (s.objs (idOf ids) post).put o.dst (PV.ofD r) = s') (hr : ROps P T ops n true Q os s') : ROps P T ops n true Q (o :: os) s := by
  unfold callF at he
  split at he
  · rename_i f args0 argTypes ho
    split at he
    · rename_i g' first caps hf
      simp only [Option.some.injEq, Prod.mk.injEq] at he
      obtain ⟨rfl, rfl⟩ := he
      subst hs
      exact .mcons rfl hd (.mk hg ho (by rw [SL.of_look]; exact hf) (by rw [SL.of_look]; exact ha) hids hnd hnd2 hpre hpp hel hcall) hr
    · cases he
  · cases he

end

theorem dLeL_self (xs : List D) : DLeL xs xs ↔ True := ⟨fun _ => trivial, fun _ => DLeL.refl _⟩
theorem dLe_self (x : D) : DLe x x ↔ True := ⟨fun _ => trivial, fun _ => DLe.refl _⟩
theorem dLe_nil (a b : Nat) : DLe (.sl a []) (.sl b []) ↔ True := ⟨fun _ => trivial, fun _ => DLe.nil a b⟩
theorem objs_nil (f : Nat → Nat) (s : SL) : s.objs f [] = s := rfl
theorem objs_cons (f : Nat → Nat) (q : PO) (qs : List PO) (s : SL) : s.objs f (q :: qs) = ⟨s.tm, ins (s.objs f qs).ob (f q.id) (some q.ob), s.tk⟩ := rfl
theorem idOf_eq (ids : List (Nat × Nat)) (i : Nat) : idOf ids i = lk 0 ids i := rfl
theorem poOb_eq (id : Nat) (ty : TypeId) (sz : Nat) (l : List D) : PO.ob ⟨id, ty, sz, l⟩ = ⟨ty, sz, l.map PV.ofD.PV.ofD1⟩ := rfl

/-! ### Evaluation, by rewriting -/

theorem lk_nil {α : Type} (d : α) (j : Nat) : lk d [] j = d := rfl
theorem lk_cons {α : Type} (d : α) (i j : Nat) (v : α) (l : List (Nat × α)) : lk d ((i, v) :: l) j = if j = i then v else lk d l j := rfl
theorem ins_nil {α : Type} (j : Nat) (v : α) : ins [] j v = [(j, v)] := rfl
theorem ins_cons {α : Type} (i j : Nat) (u v : α) (l : List (Nat × α)) : ins ((i, u) :: l) j v = if j < i then (j, v) :: (i, u) :: l else if j = i then (j, v) :: l else (i, u) :: ins l j v := rfl
theorem look_tmp (s : SL) (t : Nat) : s.look (.tmp t) = lk .any s.tm t := rfl
theorem look_const (s : SL) (v : Value) : s.look (.const v) = ofConst v := rfl
theorem look_func (s : SL) (f : FuncId) : s.look (.func f) = .fn (.func f) [] [] := rfl
theorem put_some (s : SL) (d : Nat) (v : PV) : s.put (some d) v = ⟨ins s.tm d v, s.ob, s.tk⟩ := rfl
theorem put_none (s : SL) (v : PV) : s.put none v = s := rfl
theorem eff_none (s : SL) : s.eff .none = s := rfl
theorem eff_obj (s : SL) (id : Nat) (o : OB) : s.eff (.obj id o) = ⟨s.tm, ins s.ob id (some o), s.tk⟩ := rfl
theorem eff_tok0 (s : SL) (g : Nat) (e : TypeId) (size : Nat) : s.eff (.tok none g e size) = ⟨s.tm, s.ob, ins s.tk g (.live e size)⟩ := rfl
theorem eff_tok1 (s : SL) (k g : Nat) (e : TypeId) (size : Nat) : s.eff (.tok (some k) g e size) = ⟨s.tm, s.ob, ins (ins s.tk k .dead) g (.live e size)⟩ := rfl

theorem beqD (a b : Nat) : Nat.beq a b = decide (a = b) := by
  cases h : Nat.beq a b with
  | true => simp [Nat.eq_of_beq_eq_true h]
  | false => simp [Nat.ne_of_beq_eq_false h]
theorem bleD (a b : Nat) : Nat.ble a b = decide (a ≤ b) := by
  rw [Bool.eq_iff_iff]; simp
theorem bltD (a b : Nat) : Nat.blt a b = decide (a < b) := by
  rw [Bool.eq_iff_iff]; simp [Nat.blt, Nat.succ_le_iff]

attribute [go_sem] beqD bleD bltD stepE guardE guardOf callE asFn evalOp evalLoad evalStore evalAlloc evalFieldAddr evalField evalIndexAddr evalIndex evalSlice evalSliceH evalLookup mapElems findP eqKey keyOk evalMapUpdate evalMakeMap evalRange evalNext evalBuiltin evalBin evalUn evalInt evalStr evalBool evalConv bytesOf
  evalBuild evalBuildSlice evalAppend evalCopy evalMakeSlice val subPV replSub setSub PV.ofD PV.ofD.PV.ofD1 PV.cells PV.cell D.cell D.cells TK.agg asSl boundI placesOf fillP elemsD eqFields eqField ofConst ofConst1 foldI
  callF argsOk argOk preOk postOk margsL MA.pv obsL dLeL_self dLe_self dLe_nil objs_nil objs_cons idOf_eq poOb_eq
  dstOk Op.cutOk argsL PV.toD PV.toD.toDs resOk resD
attribute [go_sem] Option.getD_some Option.getD_none Option.map_some Option.map_none Option.bind_some List.map_cons List.map_nil List.all_cons List.all_nil List.length_cons List.length_nil Bool.and_true Bool.true_and Bool.and_false Bool.false_and
  Bool.or_true Bool.true_or Bool.or_false Bool.false_or Bool.not_true Bool.not_false cond_true cond_false List.getElem?_cons_zero List.getElem?_cons_succ List.getD_cons_zero List.getD_cons_succ List.take_succ_cons List.take_zero List.take_nil List.drop_succ_cons List.drop_zero List.drop_nil
  List.set_cons_zero List.set_cons_succ List.cons_append List.nil_append List.append_nil decide_true decide_false List.headD_cons List.isEmpty_nil List.isEmpty_cons List.replicate_succ List.replicate_zero List.flatten_cons List.flatten_nil
attribute [go_sem] lk_nil lk_cons ins_nil ins_cons look_tmp look_const look_func put_some put_none eff_none eff_obj eff_tok0 eff_tok1

end Go.PS

/-
  A part of the walks of this seat: each theorem says what a function of the program gives. No condition beyond its own premises.
-/
import Derived.Test.YtojgjdcciojpeaaGreatC5
set_option linter.unusedSimpArgs false
set_option linter.unusedVariables false
namespace Go.PS
open Go Go.RowKit

variable {P : Program} {T : Nat → Option TI} {ops : Array Oper}
variable {E : Env} {γ : Gh} {own : Nat → Option Nat} {st : St} {a : Act} {w : World}

/-- 0: neither reads nor writes memory; 1: reads; 2: writes; 3: appends; 4: makes an object. -/
def kindOf : Op → Nat
  | .load _ _ => 1
  | .store _ _ _ | .makeMap _ _ | .lookup _ _ _ _ | .mapUpdate _ _ _ _ | .insert _ _ _ _ | .range _ _ | .next _ _ => 2
  | .makeSlice _ _ _ => 5
  | .alloc _ | .box _ _ => 4
  | .call { callee := .builtin .append, .. } => 3
  | .call { callee := .builtin .copy, .. } => 2
  | _ => 0

theorem kindOf_le (op : Op) : kindOf op ≤ 5 := by
  unfold kindOf; split <;> omega
def pairOk : Nat → Nat → Bool
  | 0, _ | _, 0 | 1, 1 | 1, 3 | 3, 1 | 3, 3 | 1, 4 | 4, 1 | 3, 4 | 4, 3 | 4, 4 | 1, 5 | 5, 1 | 5, 5 => true
  | _, _ => false
def heapOk (x y : Op) : Bool := pairOk (kindOf x) (kindOf y)

theorem evalOp_congr {dst : Option Nat} {op : Op} {ρ ρ' : Operand → PV} {ob tk} (h : ∀ x ∈ op.operands, ρ x = ρ' x) : evalOp T dst op ρ ob tk = evalOp T dst op ρ' ob tk := by
  have pairs : ∀ ps : Array (Nat × Operand), (∀ x ∈ ps.map (·.2), ρ x = ρ' x) → (ps.toList.map fun p => (p.1, ρ p.2)) = (ps.toList.map fun p => (p.1, ρ' p.2)) := fun ps hp =>
    List.map_congr_left fun p hm => by
      have := hp p.2 (Array.mem_map.2 ⟨p, by simpa using hm, rfl⟩)
      rw [this]
  cases op <;> simp only [Op.operands] at h <;> simp only [evalOp]
  case build t ps => rw [pairs ps fun x hx => h x (by simpa using hx)]
  case buildSlice t n ps => rw [pairs ps fun x hx => h x (by simpa using hx)]
  case makeFunc fn first captured =>
    rw [List.map_congr_left (l := first.toList) fun x hx => h x (by simp at hx ⊢; exact .inl hx), List.map_congr_left (l := captured.toList) fun x hx => h x (by simp at hx ⊢; exact .inr hx)]
  case call c =>
    obtain ⟨callee, args, argTypes⟩ := c
    have hargs : args.toList.map ρ = args.toList.map ρ' := List.map_congr_left fun x hx => h x (by simp [Call.operands] at hx ⊢; exact .inr hx)
    cases callee with
    | builtin b =>
      cases b <;> simp only [hargs]
      case append =>
        split
        · rename_i s x t t2 ha ht
          have hs : ρ s = ρ' s := h s (by have : s ∈ args.toList := by rw [ha]; simp
                                          simpa [Call.operands] using this)
          have hx : ρ x = ρ' x := h x (by have : x ∈ args.toList := by rw [ha]; simp
                                          simpa [Call.operands] using this)
          rw [hs, hx]
        · rfl
      case copy =>
        split
        · rename_i s x t t2 ha ht
          have hs : ρ s = ρ' s := h s (by have : s ∈ args.toList := by rw [ha]; simp
                                          simpa [Call.operands] using this)
          have hx : ρ x = ρ' x := h x (by have : x ∈ args.toList := by rw [ha]; simp
                                          simpa [Call.operands] using this)
          rw [hs, hx]
        · rfl
    | value f => rfl
    | invoke r m => rfl
  case slice t x lo hi mx => cases lo <;> cases hi <;> cases mx <;> simp_all
  case makeMap t r => cases r <;> rfl
  case next x b => cases b <;> simp_all
  all_goals (first | rfl | (simp_all; done))

theorem val_none {r : Option (Bool × PV)} {x : Bool × PV × HEff} (h : val r = some x) : x.2.2 = .none := by
  unfold val at h
  split at h
  · simp only [Option.some.injEq] at h; subst h; rfl
  · cases h

theorem evalOp_pure {dst : Option Nat} {op : Op} {ρ : Operand → PV} {ob ob' tk tk'} (hk : kindOf op = 0) : evalOp T dst op ρ ob tk = evalOp T dst op ρ ob' tk' ∧ ∀ x, evalOp T dst op ρ ob tk = some x → x.2.2 = .none := by
  cases op <;> simp only [kindOf, Nat.reduceEqDiff, reduceCtorEq] at hk <;> simp only [evalOp]
  case call c =>
    obtain ⟨callee, args, argTypes⟩ := c
    cases callee with
    | builtin b =>
      cases b <;> simp only [kindOf, Nat.reduceEqDiff, reduceCtorEq] at hk <;> exact ⟨rfl, fun x h => val_none h⟩
    | value f => exact ⟨rfl, fun x h => by cases h⟩
    | invoke r m => exact ⟨rfl, fun x h => by cases h⟩
  all_goals
    refine ⟨by first | rfl | trivial, fun x h => ?_⟩
    first
      | exact val_none h
      | (cases h; rfl)
      | cases h
      | ((repeat' split at h) <;> first | exact val_none h | (cases h; rfl) | cases h)

theorem evalOp_load {dst : Option Nat} {op : Op} {ρ : Operand → PV} {ob tk tk'} (hk : kindOf op = 1) : evalOp T dst op ρ ob tk = evalOp T dst op ρ ob tk' ∧ ∀ x, evalOp T dst op ρ ob tk = some x → x.2.2 = .none := by
  cases op <;> simp only [kindOf, Nat.reduceEqDiff, reduceCtorEq] at hk
  case load t a => exact ⟨rfl, fun x h => val_none h⟩
  case call c =>
    obtain ⟨callee, args, argTypes⟩ := c
    cases callee with
    | builtin b => cases b <;> simp only [kindOf, Nat.reduceEqDiff, reduceCtorEq] at hk
    | value f => simp [kindOf] at hk
    | invoke r m => simp [kindOf] at hk

theorem evalAppend_eff {dst : Option Nat} {t : TypeId} {s x : PV} {tk : Nat → TS} {r} (h : evalAppend T dst t s x tk = some r) (ob : Nat → Option OB) : r.2.2.obA ob = ob := by
  unfold evalAppend at h
  repeat' split at h
  all_goals first | (cases h; done) | (simp only [Option.some.injEq] at h; subst h; rfl)
theorem evalOp_app {dst : Option Nat} {op : Op} {ρ : Operand → PV} {ob ob' tk} (hk : kindOf op = 3) : evalOp T dst op ρ ob tk = evalOp T dst op ρ ob' tk ∧ ∀ x, evalOp T dst op ρ ob tk = some x → ∀ ob'', x.2.2.obA ob'' = ob'' := by
  cases op <;> simp only [kindOf, Nat.reduceEqDiff, reduceCtorEq] at hk
  case call c =>
    obtain ⟨callee, args, argTypes⟩ := c
    cases callee with
    | builtin b =>
      cases b <;> simp only [kindOf, Nat.reduceEqDiff, reduceCtorEq] at hk
      case append =>
        refine ⟨rfl, fun x h ob'' => ?_⟩
        simp only [evalOp] at h
        split at h
        · cases hb : Nat.beq _ _ with
          | true => rw [hb] at h; exact evalAppend_eff h ob''
          | false => rw [hb] at h; cases h
        · cases h
    | value f => simp [kindOf] at hk
    | invoke r m => simp [kindOf] at hk

/-- What an operation gives hangs on what it looks at, and on memory as its kind says. -/
theorem RVal.congr {o : Oper} {st st' : St} {v : PV} {e : HEff} (h : RVal P T ops o st v e) (ht : ∀ t ∈ o.looksAt ops, st'.tm t = st.tm t) (h1 : kindOf o.op ≠ 0 ∧ kindOf o.op ≠ 3 → st'.ob = st.ob) (h2 : 2 ≤ kindOf o.op → st'.tk = st.tk) :
    RVal P T ops o st' v e := by
  have hlook : ∀ x ∈ o.op.operands, st'.look x = st.look x := fun x hx => by
    cases x with
    | tmp t => exact ht t (List.mem_append_left _ (List.mem_filterMap.2 ⟨.tmp t, by simpa using hx, rfl⟩))
    | _ => rfl
  have hguard : guardOf ops st'.tm o = guardOf ops st.tm o := by
    unfold guardOf
    cases hg : o.guard with
    | none => rfl
    | some jw =>
      obtain ⟨j, want⟩ := jw
      simp only
      cases hd : (ops[j]?).bind (·.dst) with
      | none => rfl
      | some t =>
        have := ht t (by simp [Oper.looksAt, hg, hd])
        simp only [this]
  have heval : evalOp T o.dst o.op st'.look st'.ob st'.tk = evalOp T o.dst o.op st.look st.ob st.tk := by
    rw [evalOp_congr (ρ' := st.look) hlook]
    rcases Nat.lt_or_ge (kindOf o.op) 1 with hk | hk
    · exact (evalOp_pure (by omega)).1
    · rcases Nat.lt_or_ge (kindOf o.op) 2 with hk2 | hk2
      · rw [h1 (by omega)]; exact (evalOp_load (by omega)).1
      · rw [h2 hk2]
        by_cases hk3 : kindOf o.op = 3
        · exact (evalOp_app hk3).1
        · rw [h1 (by omega)]
  cases h with
  | skip hg => exact .skip (hguard.trans hg)
  | ev hg hc he => exact .ev (hguard.trans hg) hc (heval.trans he)
  | call hg ho hf hds hle hcall =>
    rename_i f args argTypes g first caps ds ds' r
    have hops : ∀ x, x = f ∨ x ∈ args.toList → st'.look x = st.look x := fun x hx => hlook x (by
      rw [ho]
      simp only [Op.operands, Call.operands, Array.mem_append]
      rcases hx with rfl | hx
      · left; simp
      · right; simpa using hx)
    have hargs : args.toList.map st'.look = args.toList.map st.look := List.map_congr_left fun x hx => hops x (.inr hx)
    exact .call (hguard.trans hg) ho (by rw [hops f (.inl rfl)]; exact hf) (by rw [hargs]; exact hds) hle hcall

theorem RVal.eff_none {o : Oper} {v : PV} {e : HEff} (h : RVal P T ops o st v e) (hk : kindOf o.op ≤ 1) : e = .none := by
  cases h with
  | skip hg => rfl
  | call hg ho hf hds hle hcall => rfl
  | ev hg hc he =>
    rcases Nat.lt_or_ge (kindOf o.op) 1 with hk0 | hk0
    · exact (evalOp_pure (ob' := st.ob) (tk' := st.tk) (by omega)).2 _ he
    · exact (evalOp_load (tk' := st.tk) (by omega)).2 _ he

def apartS (ops : Array Oper) (x y : Oper) : Bool := x.apart ops y && heapOk x.op y.op

theorem St.put_put (st : St) {x y : Option Nat} (u v : PV) (h : ∀ d, x = some d → y ≠ some d) : (st.put x u).put y v = (st.put y v).put x u := by
  cases x with
  | none => rfl
  | some d => cases y with
    | none => rfl
    | some e =>
      have hne : d ≠ e := fun he => h d rfl (he ▸ rfl)
      simp only [St.put, St.mk.injEq, and_true]
      funext k
      by_cases h1 : k = d
      · subst h1; rw [upd_other _ _ _ _ hne, upd_same, upd_same]
      · by_cases h2 : k = e
        · subst h2; rw [upd_same, upd_other _ _ _ _ h1, upd_same]
        · rw [upd_other _ _ _ _ h2, upd_other _ _ _ _ h1, upd_other _ _ _ _ h1, upd_other _ _ _ _ h2]

theorem St.eff_put (st : St) (x : Option Nat) (u : PV) (e : HEff) : (st.put x u).eff e = (st.eff e).put x u := by cases x <;> rfl

theorem put_tm {x : Option Nat} {u : PV} {t : Nat} (h : ∀ d, x = some d → t ≠ d) : (st.put x u).tm t = st.tm t := by
  cases x with
  | none => rfl
  | some d => exact upd_other _ _ _ _ (h d rfl)

/-- Some act and world stand for the state. -/
def Ex (E : Env) (st : St) : Prop := ∃ γ own a w, Conc E γ own st a w

theorem Ex.obj {st : St} (h : Ex E st) {x : Operand} {id i off} (hi : st.look x = .hp id i off) : st.ob id ≠ none := by
  obtain ⟨γ, own, a, w, hC⟩ := h
  intro hn
  have h1 := hC.look x
  rw [hi] at h1
  generalize a.eval x = u at h1
  cases h1 with
  | hp hm => rw [hC.world.nob id hn] at hm; cases hm
theorem Ex.tok {st : St} (h : Ex E st) {i : Operand} {sz xs n} (hi : st.look i = .own sz xs (.tok n)) : st.tk n ≠ .never := by
  obtain ⟨γ, own, a, w, hC⟩ := h
  intro hn
  have h1 := hC.look i
  rw [hi] at h1
  cases h1 with
  | own _ ht =>
    have := hC.world.ntok n hn
    simp only [TokRep] at ht
    rw [this] at ht; cases ht

theorem RVal.reach (hT : TabOk P T) (hC : Ex E st) {o : Oper} {v : PV} {e : HEff} (hd : dstOk E.n o.dst = true) (h : RVal P T ops o st v e) : Ex E ((st.eff e).put o.dst v) := by
  have hd' : ∀ d, o.dst = some d → d < E.n := fun d hdd => by rw [hdd] at hd; exact Nat.lt_of_lt_of_le (Nat.lt_succ_self _) (Nat.le_of_ble_eq_true (by simpa [dstOk, Nat.blt] using hd))
  obtain ⟨γ, own, a, w, hC⟩ := hC
  cases h with
  | skip hg => exact ⟨γ, own, _, _, hC.put Rep.undef hd'⟩
  | ev hg hc he =>
    obtain ⟨u, w', γ', own', hrun, hle, hC'⟩ := evalOp_sound (P := P) hT hC hc he hd'
    exact ⟨γ', own', _, _, hC'⟩
  | call hg ho hf hds hle hcall =>
    rename_i f args argTypes g first caps ds ds' r
    obtain ⟨⟨fn, hfn, hbody, hname⟩, hcalls⟩ := hcall
    have hfr := asFn_rep (hC.look f) hf
    have hargs := args_rep hC args
    have hex : ∃ vs, RepL γ (first ++ args.toList.map st.look ++ caps) vs := by
      generalize hfv : a.eval f = fv at hfr
      cases hfr with
      | fn _ _ _ vf vc hlf hlc hff hcc => exact ⟨_, ((RepL.append ⟨hlf, hff⟩ hargs).append ⟨hlc, hcc⟩)⟩
    obtain ⟨vs, hvs⟩ := hex
    obtain ⟨e, w', fr, ⟨v, K', he, hr, hkle, hks, hb, hnew⟩, _⟩ := hcalls γ.K w vs hC.world.ksub (hle _ _ (RepL.toDs hvs hds)) []
    have hw' := hC.world.called hkle hks hb hnew
    have hgle : GhLe γ ⟨K', γ.m, γ.τ⟩ := ⟨hkle, fun _ _ h => h, fun _ _ h => h⟩
    exact ⟨_, _, _, _, ((hC.upworld (ob' := st.ob) (tk' := st.tk) hgle hw').put (Rep.ofD hr) hd')⟩

/-- How an append goes. -/
theorem evalAppend_form {d : Nat} {t : TypeId} {s x : PV} {tk : Nat → TS} {c v e} (h : evalAppend T (some d) t s x tk = some (c, v, e)) :
    ∃ kill ty sz, e = .tok kill d ty sz ∧ tk d = .never ∧ (∀ n, kill = some n → (∃ z ys, s = .own z ys (.tok n)) ∧ ∃ a b, tk n = .live a b) ∧
      ∀ tk', tk' d = .never → (∀ n, kill = some n → tk' n = tk n) → evalAppend T (some d) t s x tk' = some (c, v, e) := by
  unfold evalAppend at h
  split at h
  · rename_i hT hd
    simp only [Option.some.injEq] at hd; subst hd
    split at h
    · rename_i h1 h2 h3
      split at h
      · simp only [Option.some.injEq, Prod.mk.injEq] at h
        obtain ⟨rfl, rfl, rfl⟩ := h
        refine ⟨none, _, _, rfl, h3, (fun n hn => (by cases hn)), fun tk' hd _ => ?_⟩
        simp only [evalAppend, hT, h1, h2, hd]
      · rename_i n
        split at h
        · rename_i h4
          simp only [Option.some.injEq, Prod.mk.injEq] at h
          obtain ⟨rfl, rfl, rfl⟩ := h
          refine ⟨some n, _, _, rfl, h3, fun m hm => ?_, fun tk' hd hk => ?_⟩
          · simp only [Option.some.injEq] at hm; subst hm; exact ⟨⟨_, _, rfl⟩, _, _, h4⟩
          · have := hk n rfl
            simp only [evalAppend, hT, h1, h2, hd, this, h4]
        · cases h
    · cases h
  · cases h

theorem evalOp_app_form {dst : Option Nat} {op : Op} {ρ : Operand → PV} {ob : Nat → Option OB} {tk c v e} (hk : kindOf op = 3) (h : evalOp T dst op ρ ob tk = some (c, v, e)) :
    ∃ d s kill ty sz, dst = some d ∧ s ∈ op.operands ∧ e = .tok kill d ty sz ∧ tk d = .never ∧ (∀ n, kill = some n → (∃ z ys, ρ s = .own z ys (.tok n)) ∧ ∃ a b, tk n = .live a b) ∧
      ∀ ob' tk', tk' d = .never → (∀ n, kill = some n → tk' n = tk n) → evalOp T dst op ρ ob' tk' = some (c, v, e) := by
  cases op <;> simp only [kindOf, Nat.reduceEqDiff, reduceCtorEq] at hk
  case call cc =>
    obtain ⟨callee, args, argTypes⟩ := cc
    cases callee with
    | builtin b =>
      cases b <;> simp only [kindOf, Nat.reduceEqDiff, reduceCtorEq] at hk
      case append =>
        simp only [evalOp] at h
        split at h
        · rename_i s x t t2 ha ht
          cases hb : Nat.beq t t2 with
          | true =>
            rw [hb] at h
            simp only [cond_true] at h
            cases dst with
            | none => unfold evalAppend at h; split at h <;> simp_all
            | some d =>
              obtain ⟨kill, ty, sz, h1, h2, h3, h4⟩ := evalAppend_form h
              refine ⟨d, s, kill, ty, sz, rfl, ?_, h1, h2, h3, fun ob' tk' hd hk => ?_⟩
              · have : s ∈ args.toList := by rw [ha]; simp
                simpa [Op.operands, Call.operands] using this
              · simp only [evalOp, ha, ht, hb, cond_true]; exact h4 tk' hd hk
          | false => rw [hb] at h; cases h
        · cases h
    | value f => simp [kindOf] at hk
    | invoke r m => simp [kindOf] at hk

theorem look_xfer {o : Oper} {st st' : St} (ht : ∀ t ∈ o.looksAt ops, st'.tm t = st.tm t) : ∀ x ∈ o.op.operands, st'.look x = st.look x := fun x hx => by
  cases x with
  | tmp t => exact ht t (List.mem_append_left _ (List.mem_filterMap.2 ⟨.tmp t, by simpa using hx, rfl⟩))
  | _ => rfl
theorem guard_xfer {o : Oper} {st st' : St} (ht : ∀ t ∈ o.looksAt ops, st'.tm t = st.tm t) : guardOf ops st'.tm o = guardOf ops st.tm o := by
  unfold guardOf
  cases hg : o.guard with
  | none => rfl
  | some jw =>
    obtain ⟨j, want⟩ := jw
    simp only
    cases hd : (ops[j]?).bind (·.dst) with
    | none => rfl
    | some t =>
      have := ht t (by simp [Oper.looksAt, hg, hd])
      simp only [this]

theorem upd_if {α : Type} (f : Nat → α) (i j : Nat) (v : α) : upd f i v j = if j = i then v else f j := by
  split
  · rename_i h; subst h; exact upd_same _ _ _
  · rename_i h; exact upd_other _ _ _ _ h
theorem tkAfter_comm {tk : Nat → TS} {k k' : Option Nat} {d d' : Nat} {x x' : TS} (h1 : d ≠ d') (h2 : ∀ n, k = some n → n ≠ d') (h3 : ∀ n, k' = some n → n ≠ d) :
    tkAfter (tkAfter tk k d x) k' d' x' = tkAfter (tkAfter tk k' d' x') k d x := by
  funext i
  cases k with
  | none => cases k' with
    | none => simp only [tkAfter, upd_if]; repeat' split
              all_goals first | rfl | (exfalso; omega)
    | some n' =>
      have h3 := h3 n' rfl
      simp only [tkAfter, upd_if]; repeat' split
      all_goals first | rfl | (exfalso; omega)
  | some n =>
    have h2 := h2 n rfl
    cases k' with
    | none => simp only [tkAfter, upd_if]; repeat' split
              all_goals first | rfl | (exfalso; omega)
    | some n' =>
      have h3 := h3 n' rfl
      simp only [tkAfter, upd_if]; repeat' split
      all_goals first | rfl | (exfalso; omega)

theorem tkAfter_other {tk : Nat → TS} {k : Option Nat} {d i : Nat} {x : TS} (h1 : i ≠ d) (h2 : ∀ n, k = some n → i ≠ n) : tkAfter tk k d x i = tk i := by
  cases k with
  | none => exact upd_other _ _ _ _ h1
  | some n => simp only [tkAfter]; rw [upd_other _ _ _ _ h1, upd_other _ _ _ _ (h2 n rfl)]
theorem tkAfter_same {tk : Nat → TS} {k : Option Nat} {d : Nat} {x : TS} : tkAfter tk k d x d = x := by
  cases k <;> exact upd_same _ _ _
theorem tkAfter_kill {tk : Nat → TS} {n d : Nat} {x : TS} (h : n ≠ d) : tkAfter tk (some n) d x n = .dead := by
  simp only [tkAfter]; rw [upd_other _ _ _ _ h, upd_same]

theorem evalOp_load_form {dst : Option Nat} {op : Op} {ρ : Operand → PV} {ob : Nat → Option OB} {tk c v e} (hk : kindOf op = 1) (h : evalOp T dst op ρ ob tk = some (c, v, e)) :
    e = .none ∧ ∃ a, a ∈ op.operands ∧ ∀ ob' tk', (∀ id i off, ρ a = .hp id i off → ob' id = ob id) → evalOp T dst op ρ ob' tk' = some (c, v, e) := by
  cases op <;> simp only [kindOf, Nat.reduceEqDiff, reduceCtorEq] at hk
  case load t a =>
    simp only [evalOp] at h
    refine ⟨val_none h, a, by simp [Op.operands], fun ob' tk' hob => ?_⟩
    simp only [evalOp]
    rw [← h]
    congr 1
    unfold evalLoad
    cases T t with
    | none => rfl
    | some ti =>
      cases ha : ρ a with
      | hp id i off => simp only; rw [hob id i off ha]
      | d x => cases x <;> rfl
      | _ => rfl
  case call cc =>
    obtain ⟨callee, args, argTypes⟩ := cc
    cases callee with
    | builtin b => cases b <;> simp only [kindOf, Nat.reduceEqDiff, reduceCtorEq] at hk
    | value f => simp [kindOf] at hk
    | invoke r m => simp [kindOf] at hk
theorem evalAlloc_form {dst : Option Nat} {t x} {ob : Nat → Option OB} {c v e} (h : evalAlloc T dst t x ob = some (c, v, e)) :
    ∃ d o, dst = some d ∧ e = .obj d o ∧ ob d = none ∧ ∀ ob' : Nat → Option OB, ob' d = none → evalAlloc T dst t x ob' = some (c, v, e) := by
  unfold evalAlloc at h
  split at h
  · rename_i ti d hT
    split at h
    · rename_i hn
      simp only [Option.some.injEq, Prod.mk.injEq] at h
      obtain ⟨rfl, rfl, rfl⟩ := h
      exact ⟨d, _, rfl, rfl, hn, fun ob' hob => by simp only [evalAlloc, hT, hob]⟩
    · cases h
  · cases h
theorem evalOp_alloc_form {dst : Option Nat} {op : Op} {ρ : Operand → PV} {ob : Nat → Option OB} {tk c v e} (hk : kindOf op = 4) (h : evalOp T dst op ρ ob tk = some (c, v, e)) :
    ∃ d o, dst = some d ∧ e = .obj d o ∧ ob d = none ∧ ∀ (ob' : Nat → Option OB) tk', ob' d = none → evalOp T dst op ρ ob' tk' = some (c, v, e) := by
  cases op <;> simp only [kindOf, Nat.reduceEqDiff, reduceCtorEq] at hk
  case alloc t =>
    obtain ⟨d, o, h1, h2, h3, h4⟩ := evalAlloc_form h
    exact ⟨d, o, h1, h2, h3, fun ob' _ hob => h4 ob' hob⟩
  case box t x =>
    obtain ⟨d, o, h1, h2, h3, h4⟩ := evalAlloc_form h
    exact ⟨d, o, h1, h2, h3, fun ob' _ hob => h4 ob' hob⟩
  case call cc =>
    obtain ⟨callee, args, argTypes⟩ := cc
    cases callee with
    | builtin b => cases b <;> simp only [kindOf, Nat.reduceEqDiff, reduceCtorEq] at hk
    | value f => simp [kindOf] at hk
    | invoke r m => simp [kindOf] at hk

theorem evalOp_make_form {dst : Option Nat} {op : Op} {ρ : Operand → PV} {ob : Nat → Option OB} {tk c v e} (hk : kindOf op = 5) (h : evalOp T dst op ρ ob tk = some (c, v, e)) :
    ∃ d, dst = some d ∧ ((∃ o, e = .obj d o ∧ ob d = none ∧ ∀ (ob' : Nat → Option OB) tk', ob' d = none → evalOp T dst op ρ ob' tk' = some (c, v, e)) ∨
      (∃ ty sz, e = .tok none d ty sz ∧ tk d = .never ∧ ∀ (ob' : Nat → Option OB) tk', tk' d = .never → evalOp T dst op ρ ob' tk' = some (c, v, e))) := by
  cases op <;> simp only [kindOf, Nat.reduceEqDiff, reduceCtorEq] at hk
  case makeSlice t l m =>
    simp only [evalOp] at h
    unfold evalMakeSlice at h
    split at h
    · rename_i e' z es d n m' ht hl hm
      refine ⟨d, rfl, ?_⟩
      split at h
      · rename_i te hte
        cases hn0 : decide (n = 0) with
        | true =>
          rw [hn0] at h
          simp only [cond_true] at h
          split at h
          · rename_i htd
            simp only [Option.some.injEq, Prod.mk.injEq] at h
            obtain ⟨rfl, rfl, rfl⟩ := h
            refine .inr ⟨_, _, rfl, htd, fun ob' tk' hd => ?_⟩
            simp only [evalOp, evalMakeSlice, ht, hl, hm, hte, hn0, cond_true, hd]
          · cases h
        | false =>
          rw [hn0] at h
          simp only [cond_false] at h
          split at h
          · rename_i hod
            simp only [Option.some.injEq, Prod.mk.injEq] at h
            obtain ⟨rfl, rfl, rfl⟩ := h
            refine .inl ⟨_, rfl, hod, fun ob' tk' hd => ?_⟩
            simp only [evalOp, evalMakeSlice, ht, hl, hm, hte, hn0, cond_false, hd]
          · cases h
      · cases h
    · cases h
  case call cc =>
    obtain ⟨callee, args, argTypes⟩ := cc
    cases callee with
    | builtin b => cases b <;> simp only [kindOf, Nat.reduceEqDiff, reduceCtorEq] at hk
    | value f => simp [kindOf] at hk
    | invoke r m => simp [kindOf] at hk

/-- Two operations with memory may change places if their evaluations say so. -/
theorem RVal.swapG {oi oj : Oper} {v v' : PV} {e e' : HEff} (ki : kindOf oi.op ≠ 0) (kj : kindOf oj.op ≠ 0)
    (tmj : ∀ t ∈ oj.looksAt ops, ((st.eff e).put oi.dst v).tm t = st.tm t) (tmi : ∀ t ∈ oi.looksAt ops, ((st.eff e').put oj.dst v').tm t = st.tm t)
    (H : evalOp T oi.dst oi.op st.look st.ob st.tk = some (true, v, e) → evalOp T oj.dst oj.op st.look (st.eff e).ob (st.eff e).tk = some (true, v', e') →
      evalOp T oj.dst oj.op st.look st.ob st.tk = some (true, v', e') ∧ evalOp T oi.dst oi.op st.look (st.eff e').ob (st.eff e').tk = some (true, v, e) ∧ (st.eff e).eff e' = (st.eff e').eff e)
    (hi : RVal P T ops oi st v e) (hj : RVal P T ops oj ((st.eff e).put oi.dst v) v' e') :
    RVal P T ops oj st v' e' ∧ RVal P T ops oi ((st.eff e').put oj.dst v') v e ∧ (st.eff e).eff e' = (st.eff e').eff e := by
  have obput : ∀ (s : St) x u, (s.put x u).ob = s.ob ∧ (s.put x u).tk = s.tk := fun s x u => by cases x <;> exact ⟨rfl, rfl⟩
  have lj := look_xfer (o := oj) tmj
  have li := look_xfer (o := oi) tmi
  have gj := guard_xfer (o := oj) tmj
  have gi := guard_xfer (o := oi) tmi
  cases hi with
  | call hg ho hf hds hle hcall => rw [ho] at ki; simp [kindOf] at ki
  | skip hg =>
    cases hj with
    | call hg' ho hf hds hle hcall => rw [ho] at kj; simp [kindOf] at kj
    | skip hg' => exact ⟨.skip (gj ▸ hg'), .skip (gi.trans hg), rfl⟩
    | ev hg' hc' he' =>
      refine ⟨.ev (gj ▸ hg') hc' ?_, .skip (gi.trans hg), rfl⟩
      rw [evalOp_congr lj, (obput _ _ _).1, (obput _ _ _).2] at he'
      exact he'
  | ev hg hc he =>
    cases hj with
    | call hg' ho hf hds hle hcall => rw [ho] at kj; simp [kindOf] at kj
    | skip hg' =>
      refine ⟨.skip (gj ▸ hg'), .ev (gi.trans hg) hc ?_, rfl⟩
      rw [evalOp_congr li, (obput _ _ _).1, (obput _ _ _).2]
      exact he
    | ev hg' hc' he' =>
      rw [evalOp_congr lj, (obput _ _ _).1, (obput _ _ _).2] at he'
      obtain ⟨h1, h2, h3⟩ := H he he'
      exact ⟨.ev (gj ▸ hg') hc' h1, .ev (gi.trans hg) hc (by rw [evalOp_congr li, (obput _ _ _).1, (obput _ _ _).2]; exact h2), h3⟩

/-- The evaluations of two operations with memory say so. -/
theorem evalOp_swap (hC : Ex E st) {oi oj : Oper} {v v' : PV} {e e' : HEff} (ki : kindOf oi.op ≠ 0) (kj : kindOf oj.op ≠ 0) (hp : pairOk (kindOf oi.op) (kindOf oj.op) = true)
    (he : evalOp T oi.dst oi.op st.look st.ob st.tk = some (true, v, e)) (he' : evalOp T oj.dst oj.op st.look (st.eff e).ob (st.eff e).tk = some (true, v', e')) :
    evalOp T oj.dst oj.op st.look st.ob st.tk = some (true, v', e') ∧ evalOp T oi.dst oi.op st.look (st.eff e').ob (st.eff e').tk = some (true, v, e) ∧ (st.eff e).eff e' = (st.eff e').eff e := by
  have b1 := kindOf_le oi.op
  have b2 := kindOf_le oj.op
  rcases (show kindOf oi.op = 1 ∨ kindOf oi.op = 2 ∨ kindOf oi.op = 3 ∨ kindOf oi.op = 4 ∨ kindOf oi.op = 5 by omega) with k | k | k | k | k
  · obtain ⟨rfl, a, ha, hcong⟩ := evalOp_load_form k he
    rcases (show kindOf oj.op = 1 ∨ kindOf oj.op = 2 ∨ kindOf oj.op = 3 ∨ kindOf oj.op = 4 ∨ kindOf oj.op = 5 by omega) with k' | k' | k' | k' | k'
    · obtain ⟨rfl, _⟩ := evalOp_load_form k' he'
      exact ⟨he', he, rfl⟩
    · rw [k, k'] at hp; cases hp
    · obtain ⟨d', s', kill', ty', sz', hd', hs', rfl, hnv', hk', hcong'⟩ := evalOp_app_form k' he'
      exact ⟨he', hcong _ _ fun _ _ _ _ => rfl, rfl⟩
    · obtain ⟨d, o, hd, rfl, hn, hcong'⟩ := evalOp_alloc_form k' he'
      refine ⟨he', hcong _ _ fun id i off hid => ?_, rfl⟩
      have : id ≠ d := fun h => by subst h; exact hC.obj hid hn
      exact upd_other _ _ _ _ this
    · obtain ⟨d, hd, ⟨o, rfl, hn, hcong'⟩ | ⟨ty, sz, rfl, hn, hcong'⟩⟩ := evalOp_make_form k' he'
      · refine ⟨he', hcong _ _ fun id i off hid => ?_, rfl⟩
        have : id ≠ d := fun h => by subst h; exact hC.obj hid hn
        exact upd_other _ _ _ _ this
      · exact ⟨he', hcong _ _ fun _ _ _ _ => rfl, rfl⟩
  · rw [k] at hp
    unfold pairOk at hp
    split at hp <;> simp_all
  · obtain ⟨d, s, kill, ty, sz, hd, hs, rfl, hnv, hk, hcong⟩ := evalOp_app_form k he
    rcases (show kindOf oj.op = 1 ∨ kindOf oj.op = 2 ∨ kindOf oj.op = 3 ∨ kindOf oj.op = 4 ∨ kindOf oj.op = 5 by omega) with k' | k' | k' | k' | k'
    · obtain ⟨rfl, a, ha, hcong'⟩ := evalOp_load_form k' he'
      exact ⟨hcong' _ _ fun _ _ _ _ => rfl, he, rfl⟩
    · rw [k, k'] at hp; cases hp
    · obtain ⟨d', s', kill', ty', sz', hd', hs', rfl, hnv', hk', hcong'⟩ := evalOp_app_form k' he'
      simp only [St.eff, HEff.tkA, HEff.obA] at hnv' hcong' hk'
      have n1 : ∀ n, kill = some n → n ≠ d := fun n hn e => by
        subst e; obtain ⟨_, a, b, h⟩ := hk n hn; rw [hnv] at h; cases h
      have dd : d ≠ d' := fun e => by subst e; rw [tkAfter_same] at hnv'; cases hnv'
      have n2 : ∀ n, kill = some n → n ≠ d' := fun n hn e => by
        subst e; subst hn; rw [tkAfter_kill (n1 n rfl)] at hnv'; cases hnv'
      have hnv2 : st.tk d' = .never := by rwa [tkAfter_other dd.symm (fun n hn => (n2 n hn).symm)] at hnv'
      have n3 : ∀ n, kill' = some n → n ≠ d := fun n hn e => by
        subst e
        obtain ⟨⟨z, ys, hb⟩, _⟩ := hk' n hn
        exact hC.tok hb hnv
      have n4 : ∀ n m, kill' = some n → kill = some m → n ≠ m := fun n m hn hm e => by
        subst e; subst hm
        obtain ⟨_, a, b, h⟩ := hk' n hn
        rw [tkAfter_kill (n1 n rfl)] at h; cases h
      refine ⟨?_, ?_, ?_⟩
      · exact hcong' _ st.tk hnv2 fun n hn => (tkAfter_other (n3 n hn) (fun m hm => n4 n m hn hm)).symm
      · simp only [St.eff, HEff.tkA]
        refine hcong _ _ ?_ fun n hn => ?_
        · rw [tkAfter_other dd (fun n hn => (n3 n hn).symm)]; exact hnv
        · exact tkAfter_other (n2 n hn) (fun m hm => (n4 m n hm hn).symm)
      · simp only [St.eff, HEff.tkA, HEff.obA, St.mk.injEq, true_and]
        exact tkAfter_comm dd n2 n3
    · obtain ⟨d', o', hd', rfl, hn', hcong'⟩ := evalOp_alloc_form k' he'
      exact ⟨hcong' _ _ hn', hcong _ _ hnv fun _ _ => rfl, rfl⟩
    · rw [k, k'] at hp; cases hp
  · obtain ⟨d, o, hd, rfl, hn, hcong⟩ := evalOp_alloc_form k he
    rcases (show kindOf oj.op = 1 ∨ kindOf oj.op = 2 ∨ kindOf oj.op = 3 ∨ kindOf oj.op = 4 ∨ kindOf oj.op = 5 by omega) with k' | k' | k' | k' | k'
    · obtain ⟨rfl, a, ha, hcong'⟩ := evalOp_load_form k' he'
      refine ⟨hcong' _ _ fun id i off hid => ?_, he, rfl⟩
      have : id ≠ d := fun h => by subst h; exact hC.obj hid hn
      exact (upd_other _ _ _ _ this).symm
    · rw [k, k'] at hp; cases hp
    · obtain ⟨d', s', kill', ty', sz', hd', hs', rfl, hnv', hk', hcong'⟩ := evalOp_app_form k' he'
      exact ⟨hcong' _ _ hnv' fun _ _ => rfl, hcong _ _ hn, rfl⟩
    · obtain ⟨d', o', hd', rfl, hn', hcong'⟩ := evalOp_alloc_form k' he'
      simp only [St.eff, HEff.obA] at hn'
      have dd : d' ≠ d := fun h => by subst h; rw [upd_same] at hn'; cases hn'
      rw [upd_other _ _ _ _ dd] at hn'
      refine ⟨hcong' _ _ hn', hcong _ _ ?_, ?_⟩
      · simp only [St.eff, HEff.obA]; rw [upd_other _ _ _ _ dd.symm]; exact hn
      · simp only [St.eff, HEff.obA, HEff.tkA, St.mk.injEq, true_and, and_true]
        funext i
        simp only [upd_if]; repeat' split
        all_goals first | rfl | (exfalso; omega)
    · rw [k, k'] at hp; cases hp
  · obtain ⟨d, hd, hf⟩ := evalOp_make_form k he
    rcases (show kindOf oj.op = 1 ∨ kindOf oj.op = 2 ∨ kindOf oj.op = 3 ∨ kindOf oj.op = 4 ∨ kindOf oj.op = 5 by omega) with k' | k' | k' | k' | k'
    · obtain ⟨rfl, a, ha, hcong'⟩ := evalOp_load_form k' he'
      rcases hf with ⟨o, rfl, hn, hcong⟩ | ⟨ty, sz, rfl, hn, hcong⟩
      · refine ⟨hcong' _ _ fun id i off hid => ?_, he, rfl⟩
        have : id ≠ d := fun h => by subst h; exact hC.obj hid hn
        exact (upd_other _ _ _ _ this).symm
      · exact ⟨hcong' _ _ fun _ _ _ _ => rfl, he, rfl⟩
    · rw [k, k'] at hp; cases hp
    · rw [k, k'] at hp; cases hp
    · rw [k, k'] at hp; cases hp
    · obtain ⟨d', hd', hf'⟩ := evalOp_make_form k' he'
      rcases hf with ⟨o, rfl, hn, hcong⟩ | ⟨ty, sz, rfl, hn, hcong⟩ <;> rcases hf' with ⟨o', rfl, hn', hcong'⟩ | ⟨ty', sz', rfl, hn', hcong'⟩
      · simp only [St.eff, HEff.obA] at hn'
        have dd : d' ≠ d := fun h => by subst h; rw [upd_same] at hn'; cases hn'
        rw [upd_other _ _ _ _ dd] at hn'
        refine ⟨hcong' _ _ hn', hcong _ _ ?_, ?_⟩
        · simp only [St.eff, HEff.obA]; rw [upd_other _ _ _ _ dd.symm]; exact hn
        · simp only [St.eff, HEff.obA, HEff.tkA, St.mk.injEq, true_and, and_true]
          funext i
          simp only [upd_if]; repeat' split
          all_goals first | rfl | (exfalso; omega)
      · exact ⟨hcong' _ _ hn', hcong _ _ hn, rfl⟩
      · exact ⟨hcong' _ _ hn', hcong _ _ hn, rfl⟩
      · simp only [St.eff, HEff.tkA] at hn'
        have dd : d' ≠ d := fun h => by subst h; rw [tkAfter_same] at hn'; cases hn'
        rw [tkAfter_other dd (fun n hn => by cases hn)] at hn'
        refine ⟨hcong' _ _ hn', hcong _ _ ?_, ?_⟩
        · simp only [St.eff, HEff.tkA]; rw [tkAfter_other dd.symm (fun n hn => by cases hn)]; exact hn
        · simp only [St.eff, HEff.obA, HEff.tkA, St.mk.injEq, true_and]
          exact tkAfter_comm dd.symm (fun n hn => by cases hn) (fun n hn => by cases hn)

/-- Two operations that are apart may change places. -/
theorem RVal.swap (hT : TabOk P T) (hC : Ex E st) {oi oj : Oper} {v v' : PV} {e e' : HEff} (hap : apartS ops oi oj = true) (hi : RVal P T ops oi st v e) (hj : RVal P T ops oj ((st.eff e).put oi.dst v) v' e') :
    RVal P T ops oj st v' e' ∧ RVal P T ops oi ((st.eff e').put oj.dst v') v e ∧ (((st.eff e).put oi.dst v).eff e').put oj.dst v' = (((st.eff e').put oj.dst v').eff e).put oi.dst v := by
  simp only [apartS, Bool.and_eq_true] at hap
  obtain ⟨hap, hh⟩ := hap
  obtain ⟨a1, a2, a3⟩ := Oper.apart_spec hap
  simp only [heapOk] at hh
  have tmj : ∀ t ∈ oj.looksAt ops, st.tm t = ((st.eff e).put oi.dst v).tm t := fun t ht => (put_tm (st := st.eff e) fun d hd e => a1 d hd (e ▸ ht)).symm
  have tmi : ∀ t ∈ oi.looksAt ops, ((st.eff e').put oj.dst v').tm t = st.tm t := fun t ht => put_tm (st := st.eff e') fun d hd e => a3 d hd (e ▸ ht)
  have obput : ∀ (s : St) x u, (s.put x u).ob = s.ob ∧ (s.put x u).tk = s.tk := fun s x u => by cases x <;> exact ⟨rfl, rfl⟩
  have hei : kindOf oi.op ≤ 1 → e = .none := hi.eff_none
  have hej : kindOf oj.op ≤ 1 → e' = .none := hj.eff_none
  by_cases h33 : kindOf oi.op ≠ 0 ∧ kindOf oj.op ≠ 0
  · obtain ⟨r1, r2, r3⟩ := RVal.swapG h33.1 h33.2 (fun t ht => (tmj t ht).symm) tmi (evalOp_swap hC h33.1 h33.2 hh) hi hj
    exact ⟨r1, r2, by rw [St.eff_put, St.eff_put, St.put_put _ _ _ a2, r3]⟩
  have hne : e = .none ∨ e' = .none := by
    rcases Nat.lt_or_ge (kindOf oi.op) 1 with h | h
    · exact .inl (hei (by omega))
    · exact .inr (hej (by omega))
  refine ⟨hj.congr tmj ?_ ?_, hi.congr tmi ?_ ?_, ?_⟩
  · intro hk
    have : e = .none := hei (by omega)
    subst this
    exact (obput _ _ _).1.symm
  · intro hk
    have : e = .none := hei (by omega)
    subst this
    exact (obput _ _ _).2.symm
  · intro hk
    have : e' = .none := hej (by omega)
    subst this
    exact (obput _ _ _).1
  · intro hk
    have : e' = .none := hej (by omega)
    subst this
    exact (obput _ _ _).2
  · rw [St.eff_put, St.eff_put, St.put_put _ _ _ a2]
    rcases hne with rfl | rfl <;> rfl

/-! ### Whatever order is drawn -/

/-- Operation number i. -/
def sOp (P : Program) (T : Nat → Option TI) (ops : Array Oper) (i : Nat) (K : St → Prop) (st : St) : Prop :=
  match ops[i]? with
  | none => K st
  | some o => ∃ v e, RVal P T ops o st v e ∧ K ((st.eff e).put o.dst v)

theorem sOp_mono {i : Nat} {K K' : St → Prop} (h : ∀ st, K st → K' st) (hh : sOp P T ops i K st) : sOp P T ops i K' st := by
  unfold sOp at *
  split
  · rename_i ho; simp only [ho] at hh; exact h _ hh
  · rename_i o ho; simp only [ho] at hh; obtain ⟨v, e, h1, h2⟩ := hh; exact ⟨v, e, h1, h _ h2⟩

def sAny (P : Program) (T : Nat → Option TI) (ops : Array Oper) (Q : St → Prop) : Nat → Array Bool → St → Prop
  | 0, listed, st => Region.ready .any ops listed = [] ∧ Q st
  | fuel + 1, listed, st => (Region.ready .any ops listed = [] → Q st) ∧ ∀ i ∈ Region.ready .any ops listed, sOp P T ops i (sAny P T ops Q fuel (listed.setIfInBounds i true)) st

/-- Number j comes after number i. -/
def dependsB (ops : Array Oper) : Nat → Nat → Nat → Bool
  | 0, _, _ => false
  | n + 1, j, i => match ops[j]? with
    | none => false
    | some o => o.after.any fun e => Region.binds .any e && (Nat.beq e.on i || dependsB ops n e.on i)
def ClosedB (ops : Array Oper) (listed : Array Bool) : Prop := ∀ j o, ops[j]? = some o → listed.getD j false = true → ∀ e ∈ o.after, Region.binds .any e = true → listed.getD e.on false = true
theorem dependsB_ready {listed : Array Bool} (hc : ClosedB ops listed) {i : Nat} (hi : listed.getD i false = false) : ∀ (n j : Nat) (o : Oper), ops[j]? = some o → (∀ e ∈ o.after, Region.binds .any e = true → listed.getD e.on false = true) → dependsB ops n j i = false
  | 0, _, _, _, _ => rfl
  | n + 1, j, o, ho, h => by
    unfold dependsB
    simp only [ho]
    rw [Bool.eq_false_iff]
    intro hany
    obtain ⟨e, he, hb⟩ := Array.any_eq_true'.1 hany
    simp only [Bool.and_eq_true, Bool.or_eq_true] at hb
    have h1 := h e he hb.1
    rcases hb.2 with h2 | h2
    · rw [Nat.eq_of_beq_eq_true h2] at h1; rw [hi] at h1; cases h1
    · cases n with
      | zero => cases h2
      | succ n =>
        cases ho' : ops[e.on]? with
        | none => simp [dependsB, ho'] at h2
        | some o' => rw [dependsB_ready hc hi (n + 1) e.on o' ho' (hc e.on o' ho' h1)] at h2; cases h2
theorem ClosedB.set {listed : Array Bool} (hc : ClosedB ops listed) {j : Nat} (hj : j ∈ Region.ready .any ops listed) : ClosedB ops (listed.setIfInBounds j true) := by
  intro k o ho hk e he hb
  by_cases hkj : j = k
  · subst hkj
    obtain ⟨_, oj, hoj, hall⟩ := mem_ready.1 hj
    rw [ho] at hoj; simp only [Option.some.injEq] at hoj; subst hoj
    exact getD_set_true (hall e he hb)
  · rw [getD_set_ne false hkj] at hk
    exact getD_set_true (hc k o ho hk e he hb)
theorem ClosedB.start (n : Nat) : ClosedB ops (Array.replicate n false) := by
  intro j o ho hj
  exfalso
  by_cases h : j < n <;> simp [h] at hj

theorem sAny_first (hT : TabOk P T) (hds : ∀ o ∈ ops.toList, dstOk E.n o.dst = true) {Q : St → Prop} {i : Nat} {oi : Oper} {v : PV} {e : HEff} (hi : ops[i]? = some oi) :
    ∀ (fuel : Nat) (listed : Array Bool) (st : St), Ex E st → ClosedB ops listed →
      (∀ j oj, ops[j]? = some oj → j ≠ i → listed.getD j true = false → (∀ n, dependsB ops n j i = false) → apartS ops oi oj = true) →
      i ∈ Region.ready .any ops listed → RVal P T ops oi st v e →
      sAny P T ops Q fuel (listed.setIfInBounds i true) ((st.eff e).put oi.dst v) → sAny P T ops Q (fuel + 1) listed st := by
  intro fuel
  induction fuel with
  | zero =>
    intro listed st _ _ _ hr hy H
    refine ⟨fun h => (by rw [h] at hr; cases hr), fun j hj => ?_⟩
    by_cases hji : j = i
    · subst hji; unfold sOp; simp only [hi]; exact ⟨v, e, hy, H⟩
    · have := ready_mono hj hji
      rw [H.1] at this
      cases this
  | succ fuel ih =>
    intro listed st hC hcl hfree hr hy H
    refine ⟨fun h => (by rw [h] at hr; cases hr), fun j hj => ?_⟩
    by_cases hji : j = i
    · subst hji; unfold sOp; simp only [hi]; exact ⟨v, e, hy, H⟩
    · have h1 := H.2 j (ready_mono hj hji)
      obtain ⟨hjun, oj, hoj, hall⟩ := mem_ready.1 hj
      have hnot : ∀ n, dependsB ops n j i = false := fun n => by
        have h0 := (mem_ready.1 hr).1
        refine dependsB_ready hcl ?_ n j oj hoj hall
        rcases Nat.lt_or_ge i listed.size with h' | h'
        · simp [h'] at h0 ⊢; exact h0
        · simp [Array.getElem?_eq_none h'] at h0
      unfold sOp at h1 ⊢
      simp only [hoj] at h1 ⊢
      obtain ⟨v', e', hj1, hj2⟩ := h1
      obtain ⟨s1, s2, s3⟩ := RVal.swap hT hC (hfree j oj hoj hji hjun hnot) hy hj1
      have hfree' : ∀ k ok, ops[k]? = some ok → k ≠ i → (listed.setIfInBounds j true).getD k true = false →
          (∀ n, dependsB ops n k i = false) → apartS ops oi ok = true := fun k ok hk hki hun hno => by
        refine hfree k ok hk hki ?_ hno
        by_cases hjk : j = k
        · subst hjk; exact hjun
        · rw [getD_set_ne true hjk] at hun; exact hun
      refine ⟨v', e', s1, ih (listed.setIfInBounds j true) _ (s1.reach hT hC (hds oj (by simpa using Array.mem_of_getElem? hoj))) (hcl.set hj) hfree' (ready_mono hr (Ne.symm hji)) s2 ?_⟩
      rw [Array.setIfInBounds_comm _ _ hji, ← s3]
      exact hj2

def freeS (ops : Array Oper) (listed : Array Bool) (i : Nat) : Bool :=
  match ops[i]? with
  | none => false
  | some oi => (List.range ops.size).all fun j => j == i || listed.getD j true || match ops[j]? with
      | some oj => dependsB ops 1 j i || apartS ops oi oj || dependsB ops 8 j i
      | none => true

theorem freeS_spec {i : Nat} {oi : Oper} {listed : Array Bool} (hi : ops[i]? = some oi) (h : freeS ops listed i = true) (j : Nat) (oj : Oper)
    (hj : ops[j]? = some oj) (hne : j ≠ i) (hun : listed.getD j true = false) (hno : ∀ n, dependsB ops n j i = false) : apartS ops oi oj = true := by
  simp only [freeS, hi, List.all_eq_true, List.mem_range] at h
  have h1 := h j (Array.getElem?_eq_some_iff.1 hj).1
  simpa only [hj, Bool.or_eq_true, beq_iff_eq, hne, false_or, hun, Bool.false_eq_true, hno, or_false] using h1

def lexFromS (ops : Array Oper) : Nat → Nat → Array Bool → Bool
  | 0, _, listed => (Region.ready .any ops listed).isEmpty
  | fuel + 1, k, listed => (Region.ready .any ops listed).contains k && freeS ops listed k && lexFromS ops fuel (k + 1) (listed.setIfInBounds k true)

def lexS (ops : Array Oper) : Bool := ops.all (fun o => dstOk 1000000 o.dst) && lexFromS ops ops.size 0 (Array.replicate ops.size false)

/-- All operations write below the frame's size. -/
def dstsOk (n : Nat) (ops : List Oper) : Bool := ops.all fun o => dstOk n o.dst

theorem sAny_lex (hT : TabOk P T) (hds : ∀ o ∈ ops.toList, dstOk E.n o.dst = true) {n : Nat} {Q : SL → Prop} : ∀ (l : List Oper) (k : Nat) (listed : Array Bool) (s : SL), (∀ j, l[j]? = ops[k + j]?) → lexFromS ops l.length k listed = true →
    ROps P T ops n false Q l s → Ex E s.of → ClosedB ops listed → sAny P T ops (fun st => ∃ s' : SL, Q s' ∧ st = s'.of) l.length listed s.of
  | [], _, _, s, _, hB, h, hC, hcl => by
    cases h with | nil h => exact ⟨by simpa [lexFromS] using hB, s, h, rfl⟩
  | o :: l, k, listed, s, hl, hB, h, hC, hcl => by
    have h0 : ops[k]? = some o := by simpa using (hl 0).symm
    simp only [List.length_cons, lexFromS, Bool.and_eq_true] at hB
    obtain ⟨⟨hr, hf⟩, hB'⟩ := hB
    cases h with
    | mcons hm => cases hm
    | cons hd hv hrest =>
      refine sAny_first hT hds h0 l.length listed s.of hC hcl (freeS_spec h0 hf) (by simpa using hr) hv ?_
      rw [← SL.of_eff, ← SL.of_put]
      exact sAny_lex hT hds l (k + 1) _ _ (fun j => by have := hl (j + 1); simpa [Nat.add_assoc, Nat.add_comm 1 j] using this) hB' hrest (by rw [SL.of_put, SL.of_eff]; exact hv.reach hT hC (hds o (by simpa using Array.mem_of_getElem? h0))) (hcl.set (by simpa using hr))

theorem sOp_wp (hT : TabOk P T) (hds : ∀ o ∈ ops.toList, dstOk E.n o.dst = true) {Q' : Exit → Act → World → Prop} {i : Nat} {K : St → Prop} {K' : Act → World → Prop} (hC : Conc E γ own st a w) (h : sOp P T ops i K st)
    (hK : ∀ st' γ' own' a' w', K st' → Conc E γ' own' st' a' w' → K' a' w') : wpOp P ops Q' i K' a w := by
  unfold sOp at h
  unfold wpOp
  split
  · rename_i ho; simp only [ho] at h; exact hK st γ own a w h hC
  · rename_i o ho
    simp only [ho] at h
    obtain ⟨v, e, hv, hk⟩ := h
    exact hv.sound hT hC (hds o (by simpa using Array.mem_of_getElem? ho)) fun γ' own' a' w' _ hC' => hK _ γ' own' a' w' hk hC'

theorem sAny_wp (hT : TabOk P T) (hds : ∀ o ∈ ops.toList, dstOk E.n o.dst = true) {Q : St → Prop} {Q' : Exit → Act → World → Prop} (hQ : ∀ st γ own a w, Q st → Conc E γ own st a w → Q' .normal a w) :
    ∀ (fuel : Nat) (listed : Array Bool) (st : St) (γ own a w), Conc E γ own st a w → sAny P T ops Q fuel listed st → wpAny P .any ops Q' fuel listed a w
  | 0, _, st, γ, own, a, w, hC, h => ⟨h.1, hQ st γ own a w h.2 hC⟩
  | fuel + 1, listed, st, γ, own, a, w, hC, h => ⟨fun h0 => hQ st γ own a w (h.1 h0) hC, fun i hi =>
      sOp_wp hT hds hC (h.2 i hi) fun st' γ' own' a' w' hk hC' => sAny_wp hT hds hQ fuel _ st' γ' own' a' w' hC' hk⟩

end Go.PS
set_option linter.unusedSimpArgs false
set_option linter.unusedVariables false
namespace Go.PS
open Go Go.RowKit

variable {P : Program} {T : Nat → Option TI}
variable {E : Env} {γ : Gh} {own : Nat → Option Nat} {st : St} {a : Act} {w : World}

/-- What stands at the end of a function: its results, read as data. -/
def resOk (T : Nat → Option TI) (s : SL) : List ResultVar → List D → Prop
  | [], [] => True
  | .tmp t :: rs, d :: ds => (∃ x, (lk .any s.tm t).toD = some x ∧ DLe x d) ∧ resOk T s rs ds
  | .cell c t :: rs, d :: ds => (∃ v x, evalLoad T t (lk .any s.tm c) (lk none s.ob) = some (true, v) ∧ v.toD = some x ∧ DLe x d) ∧ resOk T s rs ds
  | _, _ => False

def resD : List D → D
  | [d] => d
  | ds => .tup ds

/-- The objects that the call was given, at its end. -/
def postOk (s : SL) : List PO → Prop
  | [] => True
  | q :: qs => (3000 ≤ q.id ∧ ∃ o ds, lk none s.ob q.id = some o ∧ o.ty = q.ty ∧ PV.toD.toDs (flat o.elems) = some ds ∧ DLeL ds (q.elems.flatMap D.cells)) ∧ postOk s qs

/-- What is said of the world at the function's end. -/
structure EndOk (E : Env) (K' : Nat → Nat → Option Value) (w' : World) : Prop where
  k0 : KLe E.K0 K'
  ksub : KSub K' w'
  below : BelowM E.B E.M E.w0 w'
  knew : ∀ b o, K' b o ≠ E.K0 b o → E.mine b
  post : ∀ q ∈ E.post, ∃ blk cs spare, E.pas q.id = some blk ∧ w'.heap[blk]? = some (objOf q.ty cs spare) ∧ RepDL K' (q.elems.flatMap D.cells) cs.toList ∧ (∀ u ∈ cs.toList, u.oneCell' = true) ∧ ∀ off, K' blk off = none

/-- What is said of a row of the function's own that it gives back. -/
def finOk (E : Env) (v : Value) (K' : Nat → Nat → Option Value) (w' : World) : Prop :=
  ∀ q, E.res = some q → ∃ blk cap cs spare, v = .slice (some ⟨blk, 0, none⟩) q.elems.length cap ∧ q.elems.length ≤ cap ∧ E.mine blk ∧ w'.heap[blk]? = some (objOf q.ty cs spare) ∧ RepDL K' (q.elems.flatMap D.cells) cs.toList ∧ (∀ u ∈ cs.toList, u.oneCell' = true) ∧ ∀ off, K' blk off = none

theorem endOk_of {s : SL} (hC : Conc E γ own s.of a w) : ∀ {l : List PO}, postOk s l → ∀ q ∈ l, ∃ blk cs spare, E.pas q.id = some blk ∧ w.heap[blk]? = some (objOf q.ty cs spare) ∧ RepDL γ.K (q.elems.flatMap D.cells) cs.toList ∧ (∀ u ∈ cs.toList, u.oneCell' = true) ∧ ∀ off, γ.K blk off = none
  | q :: l, h, q', hq => by
    rcases List.mem_cons.1 hq with rfl | hq
    · obtain ⟨h3, o, ds, ho, hty, hds, hle⟩ := h.1
      obtain ⟨blk, cs, hm, hok⟩ := hC.world.obj _ o ho
      obtain ⟨spare, hheap⟩ := hok.heap
      exact ⟨blk, cs, spare, hC.world.pas _ _ _ h3 hm, by rw [← hty]; exact hheap, hle _ _ (RepL.toDs hok.rep hds), hok.one, hok.free⟩
    · exact endOk_of hC h.2 q' hq

/-- From here on the function's body comes to its end, with these results. -/
def Run (P : Program) (E : Env) (fn : Func) (f : FuncId) (r : List D) (todo : List Item) (st : St) : Prop :=
  ∀ (γ : Gh) (own : Nat → Option Nat) (a : Act) (w : World), Conc E γ own st a w → ∀ (b : Frame) (cs : List Frame), b.fn = f → b.kind = .normal →
    ∃ (e : Ending) (w' : World) (fr : Frame), (∃ v K', e = .returned v ∧ (E.res = none → RepD K' (resD r) v) ∧ EndOk E K' w' ∧ finOk E v K' w') ∧
      Comes P (lone (b.at a todo) cs w) (lone fr cs w') e ∧ fr.fn = f ∧ fr.leaving P w' e

section
variable {fn : Func} {f : FuncId} {r : List D} {k : List Item} {s : SL}

theorem Run.of_step {todo todo' : List Item} {st : St} (h : Run P E fn f r todo' st) (hs : ∀ (b : Frame) (a : Act) (cs : List Frame) (w : World) γ own, Conc E γ own st a w → Steps P (lone (b.at a todo) cs w) (lone (b.at a todo') cs w)) : Run P E fn f r todo st :=
  fun γ own a w hC b cs hb hk => let ⟨e, w', fr, h1, h2, h3⟩ := h γ own a w hC b cs hb hk; ⟨e, w', fr, h1, Comes.of_steps (hs b a cs w γ own hC) h2, h3⟩

theorem run_seq {x y : Code} (h : Run P E fn f r (.code x :: .code y :: k) st) : Run P E fn f r (.code (.seq x y) :: k) st := h.of_step fun _ _ _ _ _ _ _ => .one step_seq
theorem run_skip (h : Run P E fn f r k st) : Run P E fn f r (.code .skip :: k) st := h.of_step fun _ _ _ _ _ _ _ => .one step_skip
theorem run_label {l : Nat} (h : Run P E fn f r k st) : Run P E fn f r (.code (.label l) :: k) st := h.of_step fun _ _ _ _ _ _ _ => .one step_label
theorem run_block {id : Nat} {c : Code} (h : Run P E fn f r (.code c :: .inBlock id :: k) st) : Run P E fn f r (.code (.block id c) :: k) st := h.of_step fun _ _ _ _ _ _ _ => .one step_block
theorem run_inBlock {id : Nat} (h : Run P E fn f r k st) : Run P E fn f r (.inBlock id :: k) st := h.of_step fun _ _ _ _ _ _ _ => .one step_inBlock
theorem run_exit {id : Nat} {k' : List Item} (hk : exitTo id k = some k') (h : Run P E fn f r k' st) : Run P E fn f r (.code (.exit id) :: k) st := h.of_step fun _ _ _ _ _ _ _ => .one (step_exit hk)
theorem run_loop {c : Code} (h : Run P E fn f r (.code c :: .inLoop c :: k) st) : Run P E fn f r (.code (.loop c) :: k) st := h.of_step fun _ _ _ _ _ _ _ => .one step_loop

theorem run_cond {c : Operand} {x y : Code} {t : Bool} (hc : st.look c = .d (.bool t)) (h1 : t = true → Run P E fn f r (.code x :: k) st) (h0 : t = false → Run P E fn f r (.code y :: k) st) : Run P E fn f r (.code (.cond c x y) :: k) st := by
  have h : Run P E fn f r (.code (if t then x else y) :: k) st := by
    cases t
    · exact h0 rfl
    · exact h1 rfl
  refine h.of_step fun b a cs w γ own hC => .one (step_cond ?_)
  have := hC.look c
  rw [hc] at this
  exact rep_bool this

theorem run_weak {st st' : St} (hle : ∀ γ own a w, Conc E γ own st a w → ∃ γ' own', Conc E γ' own' st' a w) (h : Run P E fn f r k st') : Run P E fn f r k st :=
  fun γ own a w hC => let ⟨γ', own', hC'⟩ := hle γ own a w hC; h γ' own' a w hC'

/-- A loop: H i is the state at the head of a round, the measure goes down. -/
theorem run_rounds {ι : Type} {c : Code} (H : ι → St) (μ : ι → Nat)
    (h : ∀ i, (∀ j, μ j < μ i → Run P E fn f r (.inLoop c :: k) (H j)) → Run P E fn f r (.code c :: .inLoop c :: k) (H i)) : ∀ i, Run P E fn f r (.code (.loop c) :: k) (H i) := by
  have key : ∀ n i, μ i = n → Run P E fn f r (.inLoop c :: k) (H i) := by
    intro n
    induction n using Nat.strongRecOn with
    | _ n ih =>
      intro i hi
      exact (h i fun j hj => ih (μ j) (hi ▸ hj) j rfl).of_step fun _ _ _ _ _ _ _ => .one step_inLoop
  exact fun i => run_loop (h i fun j _ => key _ j rfl)

theorem run_region (hT : TabOk P T) {id : Nat} {ops : Array Oper} {l : List Oper} (hl : ops.toList = l) {K : SL → Prop} (hK : ∀ s', K s' → Run P E fn f r k s'.of) {m : Bool} (h : ROps P T ops E.n m K l s) : Run P E fn f r (.code (.region id ops false) :: k) s.of := by
  intro γ own a w hC b cs hb hk
  subst hl
  have hw := h.wpOps hT (Q' := fun e a' w' => e = .normal ∧ ∃ s' γ' own', K s' ∧ Conc E γ' own' s'.of a' w') (fun s' γ' own' a' w' hk hC' => ⟨rfl, s', γ', own', hk, hC'⟩) ops.toList 0 (by simp) hC
  have hr : List.range' 0 ops.toList.length = List.range ops.size := by rw [Array.length_toList, List.range_eq_range']
  rw [hr] at hw
  obtain ⟨e, a', w', ⟨rfl, s', γ', own', hk', hC'⟩, harr⟩ := wp_region (id := id) hw b k cs
  obtain ⟨e2, w2, fr, h1, h2, h3⟩ := hK s' hk' γ' own' a' w' hC' b cs hb hk
  exact ⟨e2, w2, fr, h1, Comes.of_steps harr h2, h3⟩

theorem run_region_draw (hT : TabOk P T) (hm : P.follows .mixedOrders = true) {id : Nat} {ops : Array Oper} {l : List Oper} (hl : ops.toList = l) (hB : lexFromS ops ops.size 0 (Array.replicate ops.size false) = true) (hds : dstsOk E.n l = true)
    {K : SL → Prop} (hK : ∀ s', K s' → Run P E fn f r k s'.of) (h : ROps P T ops E.n false K l s) : Run P E fn f r (.code (.region id ops true) :: k) s.of := by
  intro γ own a w hC b cs hb hk
  subst hl
  have hany := sAny_lex (P := P) (T := T) (n := E.n) hT (List.all_eq_true.1 hds) ops.toList 0 (Array.replicate ops.size false) s (by simp) (by simpa using hB) h ⟨γ, own, a, w, hC⟩ (ClosedB.start _)
  have hw := sAny_wp (P := P) hT (List.all_eq_true.1 hds) (Q' := fun e a' w' => e = .normal ∧ ∃ s' γ' own', K s' ∧ Conc E γ' own' s'.of a' w')
    (fun st γ' own' a' w' ⟨s', hk, e⟩ hC' => by subst e; exact ⟨rfl, s', γ', own', hk, hC'⟩) ops.toList.length (Array.replicate ops.size false) s.of γ own a w.drew hC.drew hany
  rw [Array.length_toList] at hw
  obtain ⟨e, a', w', ⟨rfl, s', γ', own', hk', hC'⟩, harr⟩ := wp_region_any (id := id) hm hw b k cs
  obtain ⟨e2, w2, fr, h1, h2, h3⟩ := hK s' hk' γ' own' a' w' hC' b cs hb hk
  exact ⟨e2, w2, fr, h1, Comes.of_steps harr h2, h3⟩

/-- The results, read. -/
theorem results_run (hT : TabOk P T) (hC : Conc E γ own s.of a w) : ∀ (rs : List ResultVar) (ds : List D), resOk T s rs ds →
    ∃ vs, (rs.mapM (fun x : ResultVar => match x with
      | .tmp t => (pure (a.tmps.getD t undef) : Sem Value)
      | .cell c t => do loadVar t (← asAddr (a.tmps.getD c undef)))).run P w = .ok vs w ∧ RepDL γ.K ds vs
  | [], [], _ => ⟨[], rfl, .nil⟩
  | .tmp t :: rs, d :: ds, h => by
    obtain ⟨⟨x, hx, hle⟩, h2⟩ := h
    obtain ⟨vs, hvs, hr⟩ := results_run hT hC rs ds h2
    exact ⟨a.tmps.getD t undef :: vs, by simp only [List.mapM_cons, Sem.run_bind, Sem.run_pure, Result.andThen_ok, hvs], .cons (hle _ _ (Rep.toD (hC.tm t) hx)) hr⟩
  | .cell c t :: rs, d :: ds, h => by
    obtain ⟨⟨v, x, hl, hx, hle⟩, h2⟩ := h
    obtain ⟨vs, hvs, hr⟩ := results_run hT hC rs ds h2
    obtain ⟨u, hu, hur⟩ := evalLoad_sound (P := P) hT hC.world (hC.tm c) hl
    refine ⟨u :: vs, ?_, .cons (hle _ _ (Rep.toD hur hx)) hr⟩
    have hadr : ∃ ad, a.tmps.getD c undef = .pointer (some ad) := by
      have htc := hC.tm c
      change Rep γ (lk .any s.tm c) _ at htc
      unfold evalLoad at hl
      split at hl
      · cases hl
      · split at hl
        · rename_i heq; rw [heq] at htc; obtain ⟨_, _, _, h⟩ := rep_hp htc; exact ⟨_, h⟩
        · rename_i heq; rw [heq] at htc; obtain ⟨_, _, _, h, _⟩ := rep_ref htc; exact ⟨_, h⟩
        · cases hl
    obtain ⟨ad, had⟩ := hadr
    rw [had] at hu
    simp only [Instr.loadAt, Instr.sureAddr, Sem.run_bind, Sem.run_pure, Result.andThen_ok] at hu
    have h1 : (asAddr (a.tmps.getD c undef)).run P w = .ok ad w := by rw [had]; rfl
    simp only [List.mapM_cons, Sem.run_bind, Sem.run_pure, Result.andThen_ok, h1, hu, hvs]
  | [], _ :: _, h => by simp [resOk] at h
  | .tmp _ :: _, [], h => by simp [resOk] at h
  | .cell _ _ :: _, [], h => by simp [resOk] at h

theorem results_eq (tmps : Array Value) (w : World) {vs : List Value} (h : (fn.results.toList.mapM (fun x : ResultVar => match x with
      | .tmp t => (pure (tmps.getD t undef) : Sem Value)
      | .cell c t => do loadVar t (← asAddr (tmps.getD c undef)))).run P w = .ok vs w) :
    (results fn tmps).run P w = .ok (match vs with | [v] => v | vs => .tuple vs.toArray) w := by
  have hA : (fn.results.mapM (fun x : ResultVar => match x with
      | .tmp t => (pure (tmps.getD t undef) : Sem Value)
      | .cell c t => do loadVar t (← asAddr (tmps.getD c undef)))).run P w = .ok vs.toArray w := by
    rw [Array.mapM_eq_mapM_toList, Sem.run_map, h]; rfl
  have hB : (results fn tmps).run P w = ((fn.results.mapM (fun x : ResultVar => match x with
      | .tmp t => (pure (tmps.getD t undef) : Sem Value)
      | .cell c t => do loadVar t (← asAddr (tmps.getD c undef)))).run P w).andThen fun vs w' => .ok (if h : vs.size = 1 then vs[0] else .tuple vs) w' := Sem.run_bind P w _ _
  rw [hB, hA]
  simp only [Result.andThen_ok]
  match vs with
  | [] => rfl
  | [v] => rfl
  | _ :: _ :: _ => rfl

theorem run_end (hT : TabOk P T) (hfn : P.funcs[f]? = some fn) (h : resOk T s fn.results.toList r) (hp : postOk s E.post) (hres : E.res = none) : Run P E fn f r [] s.of ∧ ∀ k, Run P E fn f r (.code .ret :: k) s.of := by
  have key : ∀ (γ : Gh) (own : Nat → Option Nat) (a : Act) (w : World), Conc E γ own s.of a w → ∀ (b : Frame) (todo : List Item), b.fn = f → b.kind = .normal →
      ∃ v K', (({ b.at a todo with mode := .returning } : Frame)).leaving P w (.returned v) ∧ (E.res = none → RepD K' (resD r) v) ∧ EndOk E K' w ∧ finOk E v K' w := by
    intro γ own a w hC b todo hb hk
    obtain ⟨vs, hvs, hr⟩ := results_run (P := P) hT hC fn.results.toList r h
    have hre := results_eq (fn := fn) a.tmps w hvs
    refine ⟨_, γ.K, ⟨rfl, hC.defers, hk, fn, by simpa [Frame.at, hb] using hfn, hre⟩, fun _ => ?_, ⟨hC.world.k0, hC.world.ksub, hC.world.below, hC.world.knew, endOk_of hC hp⟩, fun q hq => by rw [hres] at hq; cases hq⟩
    match r, vs, hr with
    | [], [], _ => exact RepD.tup_iff.2 ⟨[], rfl, .nil⟩
    | [d], [v], hr => exact (hr.2 0 d v rfl rfl)
    | d :: d' :: ds, v :: v' :: vs, hr => exact RepD.tup_iff.2 ⟨_, rfl, hr⟩
    | [], _ :: _, hr => have := hr.1; simp at this
    | [_], [], hr => have := hr.1; simp at this
    | [_], _ :: _ :: _, hr => have := hr.1; simp at this
    | _ :: _ :: _, [], hr => have := hr.1; simp at this
    | _ :: _ :: _, [_], hr => have := hr.1; simp at this
  constructor
  · intro γ own a w hC b cs hb hk
    obtain ⟨v, K', h1, h2⟩ := key γ own a w hC b [] hb hk
    exact ⟨.returned v, w, _, ⟨v, K', rfl, h2⟩, .one step_end, hb, h1⟩
  · intro k γ own a w hC b cs hb hk
    obtain ⟨v, K', h1, h2⟩ := key γ own a w hC b (.code .ret :: k) hb hk
    exact ⟨.returned v, w, _, ⟨v, K', rfl, h2⟩, .one step_ret, hb, h1⟩

/-- The arguments, in the first slots. -/
def argsL : Nat → List D → List (Nat × PV)
  | _, [] => []
  | i, d :: ds => (i, PV.ofD d) :: argsL (i + 1) ds

theorem lk_argsL : ∀ (ds : List D) (i j : Nat), lk .any (argsL i ds) j = if i ≤ j then ((ds[j - i]?).map PV.ofD).getD .any else .any
  | [], i, j => by simp [argsL, lk]
  | d :: ds, i, j => by
    simp only [argsL, lk]
    by_cases h : j = i
    · subst h; simp
    · rw [if_neg h, lk_argsL ds (i + 1) j]
      by_cases h1 : i ≤ j
      · rw [if_pos (by omega), if_pos h1, show j - i = (j - (i + 1)) + 1 by omega]; simp
      · rw [if_neg (by omega), if_neg h1]

/-- A function by its body. -/
theorem pcall_run (hfn : P.funcs[f]? = some fn) {c : Code} (hc : fn.body = some c) (hname : (fn.name == "runtime.NumGoroutine") = false) (hsm : fn.ntmps ≤ 3000) {ds : List D} (hn : ds.length ≤ fn.ntmps)
    (h : ∀ E : Env, E.n = fn.ntmps → E.post = [] → E.res = none → Run P E fn f r [.code c] (SL.mk (argsL 0 ds) [] []).of) : PCall P f ds (resD r) := by
  refine ⟨⟨fn, hfn, by simp [hc], hname⟩, fun K w vs hK hvs => ?_⟩
  intro cs
  let E : Env := ⟨fn.ntmps, hsm, w, K, hK, fun _ => none, (fun _ _ h => by cases h), [], none⟩
  let b : Frame := { (default : Frame) with fn := f, kind := .normal }
  have henter : Frame.enter P f vs.toArray .normal = b.at { tmps := vs.toArray ++ Array.replicate (fn.ntmps - vs.toArray.size) undef, defers := [] } [.code c] := by
    simp [Frame.enter, Frame.at, hfn, hc, b]
  have hlen : vs.length = ds.length := hvs.1.symm
  have hC : Conc E ⟨K, fun _ => none, fun _ => none⟩ (fun _ => none) (SL.mk (argsL 0 ds) [] []).of { tmps := vs.toArray ++ Array.replicate (fn.ntmps - vs.toArray.size) undef, defers := [] } w := by
    refine ⟨rfl, by simp [E]; omega, fun i => ?_, ⟨KLe.refl _, (fun b o h => absurd rfl h), hK, BelowM.refl _ _ _, (fun id o h => (by cases h)), (fun _ _ => rfl), (fun i j b s t h => (by cases h)), (fun t e sz h => (by cases h)), (fun t t' e e' s s' g h => (by cases h)), (fun _ _ => rfl), (fun id b s _ h => by cases h), (fun t e sz v _ h => by cases h)⟩⟩
    change Rep _ (lk .any (argsL 0 ds) i) _
    rw [lk_argsL, if_pos (Nat.zero_le _), Nat.sub_zero]
    cases hd : ds[i]? with
    | none => exact .any _
    | some d =>
      have hi : i < vs.length := by rw [hlen]; exact (List.getElem?_eq_some_iff.1 hd).1
      have hv := hvs.2 i d vs[i] hd (List.getElem?_eq_getElem hi)
      have : (vs.toArray ++ Array.replicate (fn.ntmps - vs.toArray.size) undef).getD i undef = vs[i] := by
        simp [Array.getElem?_append, hi]
      rw [this]
      exact Rep.ofD hv
  obtain ⟨e, w', fr, ⟨v, K', he, hr, hend, _⟩, h2, h3, h4⟩ := h E rfl rfl rfl _ _ _ w hC b cs rfl rfl
  rw [← henter] at h2
  refine ⟨e, w', fr, ⟨v, K', he, hr rfl, hend.k0, hend.ksub, hend.below.below (fun k hk => by obtain ⟨id, h⟩ := hk; cases h), fun b o hk => ?_⟩, h2, h3, h4⟩
  rcases hend.knew b o hk with h | ⟨id, h⟩
  · exact h
  · cases h

/-- The arguments of a call that is given objects. -/
def margsL : Nat → List MA → List (Nat × PV)
  | _, [] => []
  | i, d :: ds => (i, d.pv) :: margsL (i + 1) ds
theorem lk_margsL : ∀ (ds : List MA) (i j : Nat), lk .any (margsL i ds) j = if i ≤ j then ((ds[j - i]?).map MA.pv).getD .any else .any
  | [], i, j => by simp [margsL, lk]
  | d :: ds, i, j => by
    simp only [margsL, lk]
    by_cases h : j = i
    · subst h; simp
    · rw [if_neg h, lk_margsL ds (i + 1) j]
      by_cases h1 : i ≤ j
      · rw [if_pos (by omega), if_pos h1, show j - i = (j - (i + 1)) + 1 by omega]; simp
      · rw [if_neg (by omega), if_neg h1]
def obsL : List PO → List (Nat × Option OB)
  | [] => []
  | q :: qs => (q.id, some q.ob) :: obsL qs
theorem lk_obsL : ∀ (l : List PO) (id : Nat) (o : OB), lk none (obsL l) id = some o → ∃ q ∈ l, q.id = id ∧ o = q.ob
  | q :: l, id, o, h => by
    simp only [obsL, lk] at h
    split at h
    · rename_i e; cases h; exact ⟨q, by simp, e.symm, rfl⟩
    · obtain ⟨q', h1, h2⟩ := lk_obsL l id o h; exact ⟨q', by simp [h1], h2⟩
theorem lk_obsL_none : ∀ (l : List PO) (id : Nat), lk none (obsL l) id = none → ∀ q ∈ l, q.id ≠ id
  | q :: l, id, h, q', hq => by
    simp only [obsL, lk] at h
    split at h
    · cases h
    · rename_i hne
      rcases List.mem_cons.1 hq with rfl | hq
      · exact Ne.symm hne
      · exact lk_obsL_none l id h q' hq

/-- A function that is given objects, by its body. -/
theorem mcall_run (hfn : P.funcs[f]? = some fn) {c : Code} (hc : fn.body = some c) (hname : (fn.name == "runtime.NumGoroutine") = false) (hsm : fn.ntmps ≤ 3000) {pre post : List PO} {ds : List MA} (hn : ds.length ≤ fn.ntmps)
    (hel : ∀ q ∈ pre, ∀ e ∈ q.elems, e.cells.length = q.sz) (hids : ∀ q ∈ pre, ∃ q' ∈ post, q'.id = q.id)
    (h : ∀ E : Env, E.n = fn.ntmps → E.post = post → E.res = none → Run P E fn f r [.code c] (SL.mk (margsL 0 ds) (obsL pre) []).of) : MCall P f pre ds (resD r) post := by
  refine ⟨⟨fn, hfn, by simp [hc], hname⟩, fun K m w vs hK hsup hat hinj hvs => ?_⟩
  intro cs
  let E : Env := ⟨fn.ntmps, hsm, w, K, hK, fun id => (m id).map (·.1), (fun id b hb o => by
    simp only [Option.map_eq_some_iff] at hb
    obtain ⟨⟨b', s⟩, hb, rfl⟩ := hb
    have hq : ∃ q ∈ pre, q.id = id := by
      refine Classical.byContradiction fun hno => ?_
      rw [hsup id (fun q hq e => hno ⟨q, hq, e⟩)] at hb; cases hb
    obtain ⟨q, hq, rfl⟩ := hq
    obtain ⟨⟨blk, s', cs, spare, hm, _, _, _, hfree⟩, _⟩ := hat q hq
    rw [hb] at hm; cases hm
    exact hfree o), post, none⟩
  let b : Frame := { (default : Frame) with fn := f, kind := .normal }
  have henter : Frame.enter P f vs.toArray .normal = b.at { tmps := vs.toArray ++ Array.replicate (fn.ntmps - vs.toArray.size) undef, defers := [] } [.code c] := by
    simp [Frame.enter, Frame.at, hfn, hc, b]
  have hlen : vs.length = ds.length := by simpa using hvs.1.symm
  have hmine : ∀ id b s, m id = some (b, s) → E.mine b := fun id b s h => .inr ⟨id, by simp [E, h]⟩
  have hC : Conc E ⟨K, m, fun _ => none⟩ (fun _ => none) (SL.mk (margsL 0 ds) (obsL pre) []).of { tmps := vs.toArray ++ Array.replicate (fn.ntmps - vs.toArray.size) undef, defers := [] } w := by
    refine ⟨rfl, by simp [E]; omega, fun i => ?_, ⟨KLe.refl _, (fun b o h => absurd rfl h), hK, BelowM.refl _ _ _, (fun id o ho => ?_), (fun id ho => ?_), hinj, (fun t e sz h => (by cases h)), (fun t t' e e' s s' g h => (by cases h)), (fun _ _ => rfl), (fun id b s _ h => by simp [E, show m id = some (b, s) from h]), (fun t e sz v _ h => by cases h)⟩⟩
    · change Rep _ (lk .any (margsL 0 ds) i) _
      rw [lk_margsL, if_pos (Nat.zero_le _), Nat.sub_zero]
      cases hd : ds[i]? with
      | none => exact .any _
      | some d =>
        have hi : i < vs.length := by rw [hlen]; exact (List.getElem?_eq_some_iff.1 hd).1
        have hv := hvs.2 i d.pv vs[i] (by simp [hd]) (List.getElem?_eq_getElem hi)
        have : (vs.toArray ++ Array.replicate (fn.ntmps - vs.toArray.size) undef).getD i undef = vs[i] := by
          simp [Array.getElem?_append, hi]
        rw [this]
        exact hv
    · obtain ⟨q, hq, rfl, rfl⟩ := lk_obsL pre id o ho
      obtain ⟨⟨blk, s, cs', spare, hm, hheap, hrep, h1, hfree⟩, blk', hm'⟩ := hat q hq
      rw [hm] at hm'; cases hm'
      refine ⟨blk, cs', hm, hmine _ _ _ hm, ⟨spare, hheap⟩, ?_, h1, ?_, hfree⟩
      · show RepL _ (flat (q.elems.map PV.ofD.PV.ofD1)) _
        rw [flat_ofD1]
        exact RepDL.toRep (γ := ⟨K, m, fun _ => none⟩) hrep
      · intro e he
        obtain ⟨d, hd, rfl⟩ := List.mem_map.1 he
        have : (PV.ofD.PV.ofD1 d).cells.length = d.cells.length := by cases d <;> simp [PV.ofD.PV.ofD1, PV.cells, D.cells]
        rw [this]; exact hel q hq d hd
    · exact hsup id (lk_obsL_none pre id ho)
  obtain ⟨e, w', fr, ⟨v, K', he, hr, hend, _⟩, h2, h3, h4⟩ := h E rfl rfl rfl _ _ _ w hC b cs rfl rfl
  rw [← henter] at h2
  have hM : ∀ k, (∃ id s, m id = some (k, s)) → E.M k := fun k ⟨id, s, h⟩ => ⟨id, by simp [E, h]⟩
  refine ⟨e, w', fr, ⟨v, K', he, hr rfl, hend.k0, hend.ksub, ⟨hend.below.os, hend.below.tape, hend.below.output, hend.below.size, fun k hk hno => hend.below.block k hk fun ⟨id, h⟩ => ?_⟩, fun b o hk => ?_, fun q hq => ?_⟩, h2, h3, h4⟩
  · simp only [E, Option.map_eq_some_iff] at h
    obtain ⟨⟨b', s⟩, h, rfl⟩ := h
    exact hno ⟨id, s, h⟩
  · rcases hend.knew b o hk with h | ⟨id, h⟩
    · exact h
    · refine absurd (Eq.trans ?_ (E.free id b h o).symm) hk
      have hb := h
      simp only [E, Option.map_eq_some_iff] at hb
      obtain ⟨⟨b', s⟩, hb, rfl⟩ := hb
      have hq : ∃ q ∈ pre, q.id = id := by
        refine Classical.byContradiction fun hno => ?_
        rw [hsup id (fun q hq e => hno ⟨q, hq, e⟩)] at hb; cases hb
      obtain ⟨q, hq, rfl⟩ := hq
      obtain ⟨q', hq', e'⟩ := hids q hq
      obtain ⟨blk, cs', spare, hp, _, _, _, hfree⟩ := hend.post q' hq'
      rw [e', h] at hp
      cases hp
      exact hfree o
  · obtain ⟨blk, cs', spare, hp, h5⟩ := hend.post q hq
    simp only [E, Option.map_eq_some_iff] at hp
    obtain ⟨⟨b', s⟩, hp, rfl⟩ := hp
    exact ⟨b', s, cs', spare, hp, h5⟩

/-- The end of a function that gives back a row of its own. -/
theorem run_endO (hT : TabOk P T) (hfn : P.funcs[f]? = some fn) {t id : Nat} {q : PO} (hrs : fn.results.toList = [.tmp t]) (hp : E.post = []) (hres : E.res = some q) (hpas : ∀ i, E.pas i = none)
    (ht : lk .any s.tm t = .hrow id q.sz 0 q.elems.length q.elems.length) (ho : lk none s.ob id = some q.ob) : Run P E fn f r [] s.of ∧ ∀ k, Run P E fn f r (.code .ret :: k) s.of := by
  have key : ∀ (γ : Gh) (own : Nat → Option Nat) (a : Act) (w : World), Conc E γ own s.of a w → ∀ (b : Frame) (todo : List Item), b.fn = f → b.kind = .normal →
      ∃ v K', (({ b.at a todo with mode := .returning } : Frame)).leaving P w (.returned v) ∧ (E.res = none → RepD K' (resD r) v) ∧ EndOk E K' w ∧ finOk E v K' w := by
    intro γ own a w hC b todo hb hk
    have hv : (fn.results.toList.mapM (fun x : ResultVar => match x with
      | .tmp t => (pure (a.tmps.getD t undef) : Sem Value)
      | .cell c t => do loadVar t (← asAddr (a.tmps.getD c undef)))).run P w = .ok [a.tmps.getD t undef] w := by
      rw [hrs]; rfl
    have hre := results_eq (fn := fn) a.tmps w hv
    have htm := hC.tm t
    change Rep γ (lk .any s.tm t) _ at htm
    rw [ht] at htm
    obtain ⟨blk, cs, hm, hok⟩ := hC.world.obj id q.ob ho
    obtain ⟨spare, hheap⟩ := hok.heap
    refine ⟨a.tmps.getD t undef, γ.K, ⟨rfl, hC.defers, hk, fn, by simpa [Frame.at, hb] using hfn, hre⟩, (fun h => by rw [hres] at h; cases h), ⟨hC.world.k0, hC.world.ksub, hC.world.below, hC.world.knew, (by rw [hp]; intro q hq; cases hq)⟩, fun q' hq' => ?_⟩
    rw [hres] at hq'
    cases hq'
    generalize a.tmps.getD t undef = v at htm
    cases htm with
    | hrow hg hc hl =>
      rename_i cap blk'
      have e : γ.m id = some (blk, q.sz) := hm
      rw [e] at hg
      cases hg
      refine ⟨blk, cap, cs, spare, by rw [Nat.zero_mul], hl, hok.base, hheap, ?_, hok.one, hok.free⟩
      have h3 := hok.rep
      change RepL γ (flat (q.elems.map PV.ofD.PV.ofD1)) _ at h3
      rw [flat_ofD1] at h3
      exact RepL.toDs h3 (by
        generalize q.elems.flatMap D.cells = l
        induction l with
        | nil => rfl
        | cons x l ih => simp only [List.map_cons, PV.toD.toDs, ih]; rfl)
  constructor
  · intro γ own a w hC b cs hb hk
    obtain ⟨v, K', h1, h2⟩ := key γ own a w hC b [] hb hk
    exact ⟨.returned v, w, _, ⟨v, K', rfl, h2⟩, .one step_end, hb, h1⟩
  · intro k γ own a w hC b cs hb hk
    obtain ⟨v, K', h1, h2⟩ := key γ own a w hC b (.code .ret :: k) hb hk
    exact ⟨.returned v, w, _, ⟨v, K', rfl, h2⟩, .one step_ret, hb, h1⟩
/-- Such a function by its body. -/
theorem ocall_run (hfn : P.funcs[f]? = some fn) {c : Code} (hc : fn.body = some c) (hname : (fn.name == "runtime.NumGoroutine") = false) (hsm : fn.ntmps ≤ 3000) {ds : List D} (hn : ds.length ≤ fn.ntmps) {ty : TypeId} {sz : Nat} {xs : List D}
    (h : ∀ E : Env, E.n = fn.ntmps → E.post = [] → E.res = some ⟨0, ty, sz, xs⟩ → (∀ i, E.pas i = none) → Run P E fn f r [.code c] (SL.mk (argsL 0 ds) [] []).of) : OCall P f ds ty sz xs := by
  refine ⟨⟨fn, hfn, by simp [hc], hname⟩, fun K w vs hK hvs => ?_⟩
  intro cs
  let E : Env := ⟨fn.ntmps, hsm, w, K, hK, fun _ => none, (fun _ _ h => by cases h), [], some ⟨0, ty, sz, xs⟩⟩
  let b : Frame := { (default : Frame) with fn := f, kind := .normal }
  have henter : Frame.enter P f vs.toArray .normal = b.at { tmps := vs.toArray ++ Array.replicate (fn.ntmps - vs.toArray.size) undef, defers := [] } [.code c] := by
    simp [Frame.enter, Frame.at, hfn, hc, b]
  have hlen : vs.length = ds.length := hvs.1.symm
  have hC : Conc E ⟨K, fun _ => none, fun _ => none⟩ (fun _ => none) (SL.mk (argsL 0 ds) [] []).of { tmps := vs.toArray ++ Array.replicate (fn.ntmps - vs.toArray.size) undef, defers := [] } w := by
    refine ⟨rfl, by simp [E]; omega, fun i => ?_, ⟨KLe.refl _, (fun b o h => absurd rfl h), hK, BelowM.refl _ _ _, (fun id o h => (by cases h)), (fun _ _ => rfl), (fun i j b s t h => (by cases h)), (fun t e sz h => (by cases h)), (fun t t' e e' s s' g h => (by cases h)), (fun _ _ => rfl), (fun id b s _ h => by cases h), (fun t e sz v _ h => by cases h)⟩⟩
    change Rep _ (lk .any (argsL 0 ds) i) _
    rw [lk_argsL, if_pos (Nat.zero_le _), Nat.sub_zero]
    cases hd : ds[i]? with
    | none => exact .any _
    | some d =>
      have hi : i < vs.length := by rw [hlen]; exact (List.getElem?_eq_some_iff.1 hd).1
      have hv := hvs.2 i d vs[i] hd (List.getElem?_eq_getElem hi)
      have : (vs.toArray ++ Array.replicate (fn.ntmps - vs.toArray.size) undef).getD i undef = vs[i] := by
        simp [Array.getElem?_append, hi]
      rw [this]
      exact Rep.ofD hv
  obtain ⟨e, w', fr, ⟨v, K', he, _, hend, hfin⟩, h2, h3, h4⟩ := h E rfl rfl rfl (fun _ => rfl) _ _ _ w hC b cs rfl rfl
  rw [← henter] at h2
  refine ⟨e, w', fr, ⟨v, K', he, hend.k0, hend.ksub, hend.below.below (fun k hk => by obtain ⟨id, h⟩ := hk; cases h), fun b o hk => ?_, ?_⟩, h2, h3, h4⟩
  · rcases hend.knew b o hk with h | ⟨id, h⟩
    · exact h
    · cases h
  · obtain ⟨blk, cap, cs', spare, g1, g2, g3, g4, g5, g6, g7⟩ := hfin _ rfl
    refine ⟨blk, cap, cs', spare, g1, g2, ?_, g4, g5, g6, g7⟩
    rcases g3 with h | ⟨id, h⟩
    · exact h
    · cases h

end
end Go.PS

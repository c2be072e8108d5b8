/-
  A part of the walks of this seat: each theorem says what a function of the program gives. No condition beyond its own premises.
-/
import Derived.Test.YtojgjdcciojpeaaGreatD5
set_option linter.unusedSimpArgs false
set_option linter.unusedVariables false
namespace Go.PS
open Go Go.RowKit

variable {P : Program} {T : Nat → Option TI} {ops : Array Oper}
variable {E : Env} {γ : Gh} {own : Nat → Option Nat} {st : St} {a : Act} {w : World}

/-- 0: neither reads nor writes memory; 1: reads; 2: writes; 3: appends; 4: makes an object. -/
def kindOf : Op → Nat
  | .load _ _ => 1
  | .store _ _ _ | .makeMap _ _ | .lookup _ _ _ _ | .mapUpdate _ _ _ _ | .insert _ _ _ _ | .range _ _ | .next _ _ => 2
  | .makeSlice _ _ _ => 5
  | .alloc _ | .box _ _ => 4
  | .call { callee := .builtin .append, .. } => 3
  | .call { callee := .builtin .copy, .. } => 2
  | _ => 0

theorem kindOf_le (op : Op) : kindOf op ≤ 5 := by
  unfold kindOf; split <;> omega
def pairOk : Nat → Nat → Bool
  | 0, _ | _, 0 | 1, 1 | 1, 3 | 3, 1 | 3, 3 | 1, 4 | 4, 1 | 3, 4 | 4, 3 | 4, 4 | 1, 5 | 5, 1 | 5, 5 => true
  | _, _ => false
def heapOk (x y : Op) : Bool := pairOk (kindOf x) (kindOf y)

theorem evalOp_congr {dst : Option Nat} {op : Op} {ρ ρ' : Operand → PV} {ob tk} (h : ∀ x ∈ op.operands, ρ x = ρ' x) : evalOp T dst op ρ ob tk = evalOp T dst op ρ' ob tk := by
  have pairs : ∀ ps : Array (Nat × Operand), (∀ x ∈ ps.map (·.2), ρ x = ρ' x) → (ps.toList.map fun p => (p.1, ρ p.2)) = (ps.toList.map fun p => (p.1, ρ' p.2)) := fun ps hp =>
    List.map_congr_left fun p hm => by
      have := hp p.2 (Array.mem_map.2 ⟨p, by simpa using hm, rfl⟩)
      rw [this]
  cases op <;> simp only [Op.operands] at h <;> simp only [evalOp]
  case build t ps => rw [pairs ps fun x hx => h x (by simpa using hx)]
  case buildSlice t n ps => rw [pairs ps fun x hx => h x (by simpa using hx)]
  case makeFunc fn first captured =>
    rw [List.map_congr_left (l := first.toList) fun x hx => h x (by simp at hx ⊢; exact .inl hx), List.map_congr_left (l := captured.toList) fun x hx => h x (by simp at hx ⊢; exact .inr hx)]
  case call c =>
    obtain ⟨callee, args, argTypes⟩ := c
    have hargs : args.toList.map ρ = args.toList.map ρ' := List.map_congr_left fun x hx => h x (by simp [Call.operands] at hx ⊢; exact .inr hx)
    cases callee with
    | builtin b =>
      cases b <;> simp only [hargs]
      case append =>
        split
        · rename_i s x t t2 ha ht
          have hs : ρ s = ρ' s := h s (by have : s ∈ args.toList := by rw [ha]; simp
                                          simpa [Call.operands] using this)
          have hx : ρ x = ρ' x := h x (by have : x ∈ args.toList := by rw [ha]; simp
                                          simpa [Call.operands] using this)
          rw [hs, hx]
        · rfl
      case copy =>
        split
        · rename_i s x t t2 ha ht
          have hs : ρ s = ρ' s := h s (by have : s ∈ args.toList := by rw [ha]; simp
                                          simpa [Call.operands] using this)
          have hx : ρ x = ρ' x := h x (by have : x ∈ args.toList := by rw [ha]; simp
                                          simpa [Call.operands] using this)
          rw [hs, hx]
        · rfl
    | value f => rfl
    | invoke r m => rfl
  case slice t x lo hi mx => cases lo <;> cases hi <;> cases mx <;> simp_all
  case makeMap t r => cases r <;> rfl
  case next x b => cases b <;> simp_all
  all_goals (first | rfl | (simp_all; done))

theorem val_none {r : Option (Bool × PV)} {x : Bool × PV × HEff} (h : val r = some x) : x.2.2 = .none := by
  unfold val at h
  split at h
  · simp only [Option.some.injEq] at h; subst h; rfl
  · cases h

theorem evalOp_pure {dst : Option Nat} {op : Op} {ρ : Operand → PV} {ob ob' tk tk'} (hk : kindOf op = 0) : evalOp T dst op ρ ob tk = evalOp T dst op ρ ob' tk' ∧ ∀ x, evalOp T dst op ρ ob tk = some x → x.2.2 = .none := by
  cases op <;> simp only [kindOf, Nat.reduceEqDiff, reduceCtorEq] at hk <;> simp only [evalOp]
  case call c =>
    obtain ⟨callee, args, argTypes⟩ := c
    cases callee with
    | builtin b =>
      cases b <;> simp only [kindOf, Nat.reduceEqDiff, reduceCtorEq] at hk <;> exact ⟨rfl, fun x h => val_none h⟩
    | value f => exact ⟨rfl, fun x h => by cases h⟩
    | invoke r m => exact ⟨rfl, fun x h => by cases h⟩
  all_goals
    refine ⟨by first | rfl | trivial, fun x h => ?_⟩
    first
      | exact val_none h
      | (cases h; rfl)
      | cases h
      | ((repeat' split at h) <;> first | exact val_none h | (cases h; rfl) | cases h)

theorem evalOp_load {dst : Option Nat} {op : Op} {ρ : Operand → PV} {ob tk tk'} (hk : kindOf op = 1) : evalOp T dst op ρ ob tk = evalOp T dst op ρ ob tk' ∧ ∀ x, evalOp T dst op ρ ob tk = some x → x.2.2 = .none := by
  cases op <;> simp only [kindOf, Nat.reduceEqDiff, reduceCtorEq] at hk
  case load t a => exact ⟨rfl, fun x h => val_none h⟩
  case call c =>
    obtain ⟨callee, args, argTypes⟩ := c
    cases callee with
    | builtin b => cases b <;> simp only [kindOf, Nat.reduceEqDiff, reduceCtorEq] at hk
    | value f => simp [kindOf] at hk
    | invoke r m => simp [kindOf] at hk

theorem evalAppend_eff {dst : Option Nat} {t : TypeId} {s x : PV} {tk : Nat → TS} {r} (h : evalAppend T dst t s x tk = some r) (ob : Nat → Option OB) : r.2.2.obA ob = ob := by
  unfold evalAppend at h
  repeat' split at h
  all_goals first | (cases h; done) | (simp only [Option.some.injEq] at h; subst h; rfl)
theorem evalOp_app {dst : Option Nat} {op : Op} {ρ : Operand → PV} {ob ob' tk} (hk : kindOf op = 3) : evalOp T dst op ρ ob tk = evalOp T dst op ρ ob' tk ∧ ∀ x, evalOp T dst op ρ ob tk = some x → ∀ ob'', x.2.2.obA ob'' = ob'' := by
  cases op <;> simp only [kindOf, Nat.reduceEqDiff, reduceCtorEq] at hk
  case call c =>
    obtain ⟨callee, args, argTypes⟩ := c
    cases callee with
    | builtin b =>
      cases b <;> simp only [kindOf, Nat.reduceEqDiff, reduceCtorEq] at hk
      case append =>
        refine ⟨rfl, fun x h ob'' => ?_⟩
        simp only [evalOp] at h
        split at h
        · cases hb : Nat.beq _ _ with
          | true => rw [hb] at h; exact evalAppend_eff h ob''
          | false => rw [hb] at h; cases h
        · cases h
    | value f => simp [kindOf] at hk
    | invoke r m => simp [kindOf] at hk

theorem evalOp_other {dst : Option Nat} {op : Op} {ρ : Operand → PV} {ob tk tk'} (hk : kindOf op = 2 ∨ kindOf op = 4) : evalOp T dst op ρ ob tk = evalOp T dst op ρ ob tk' := by
  cases op with
  | call c =>
    obtain ⟨callee, args, argTypes⟩ := c
    cases callee with
    | builtin b => cases b <;> first | rfl | (simp [kindOf] at hk)
    | value f => rfl
    | invoke r m => rfl
  | makeSlice t l c => simp [kindOf] at hk
  | makeMap t n => cases n <;> rfl
  | next x b => cases b <;> rfl
  | _ => rfl
/-- Its effect leaves tokens alone. -/
def HEff.noTok : HEff → Bool
  | .tok _ _ _ _ => false
  | _ => true
theorem evalOp_other_eff {dst : Option Nat} {op : Op} {ρ : Operand → PV} {ob tk c v e} (hk : kindOf op = 2 ∨ kindOf op = 4) (h : evalOp T dst op ρ ob tk = some (c, v, e)) : e.noTok = true := by
  have hval : ∀ {r : Option (Bool × PV)}, val r = some (c, v, e) → e.noTok = true := fun hr => by
    have := val_none hr
    dsimp only at this
    rw [this]; rfl
  cases op with
  | call cc =>
    obtain ⟨callee, args, argTypes⟩ := cc
    cases callee with
    | builtin b =>
      cases b <;> first
        | (simp only [evalOp] at h; exact hval h)
        | (simp [kindOf] at hk; done)
        | skip
      simp only [evalOp] at h
      split at h
      · unfold evalCopy at h
        split at h
        · split at h
          · cases h; rfl
          · cases h
        · split at h
          · cases h; rfl
          · cases h
        · cases h
      · cases h
    | value f => simp [kindOf] at hk
    | invoke r m => simp [kindOf] at hk
  | store t a x =>
    simp only [evalOp, evalStore] at h
    repeat (split at h)
    all_goals first | (cases h; rfl) | (cases h)
  | mapUpdate t m k x =>
    simp only [evalOp, evalMapUpdate] at h
    repeat (split at h)
    all_goals first | (cases h; rfl) | (cases h)
  | insert t m k x =>
    simp only [evalOp, evalMapUpdate] at h
    repeat (split at h)
    all_goals first | (cases h; rfl) | (cases h)
  | lookup t m k ok => simp only [evalOp] at h; exact hval h
  | makeMap t n =>
    cases n with
    | none =>
      simp only [evalOp, evalMakeMap] at h
      repeat (split at h)
      all_goals first | (cases h; rfl) | (cases h)
    | some n => simp only [evalOp] at h; cases h
  | range t x =>
    simp only [evalOp, evalRange] at h
    repeat (split at h)
    all_goals first | (cases h; rfl) | (cases h)
  | next x b =>
    cases b with
    | true =>
      simp only [evalOp, evalNext] at h
      split at h
      · split at h
        · rename_i l p _
          cases hq : decide (p < l.length) with
          | true => rw [hq] at h; simp only [cond_true] at h; cases h; rfl
          | false => rw [hq] at h; simp only [cond_false] at h; cases h; rfl
        · cases h
      · cases h
    | false => simp only [evalOp] at h; cases h
  | alloc t =>
    simp only [evalOp, evalAlloc] at h
    repeat (split at h)
    all_goals first | (cases h; rfl) | (cases h)
  | box t x =>
    simp only [evalOp, evalAlloc] at h
    repeat (split at h)
    all_goals first | (cases h; rfl) | (cases h)
  | _ => simp [kindOf] at hk

def apartS (ops : Array Oper) (x y : Oper) : Bool := x.apart ops y && heapOk x.op y.op

theorem St.put_put (st : St) {x y : Option Nat} (u v : PV) (h : ∀ d, x = some d → y ≠ some d) : (st.put x u).put y v = (st.put y v).put x u := by
  cases x with
  | none => rfl
  | some d => cases y with
    | none => rfl
    | some e =>
      have hne : d ≠ e := fun he => h d rfl (he ▸ rfl)
      simp only [St.put, St.mk.injEq, and_true]
      funext k
      by_cases h1 : k = d
      · subst h1; rw [upd_other _ _ _ _ hne, upd_same, upd_same]
      · by_cases h2 : k = e
        · subst h2; rw [upd_same, upd_other _ _ _ _ h1, upd_same]
        · rw [upd_other _ _ _ _ h2, upd_other _ _ _ _ h1, upd_other _ _ _ _ h1, upd_other _ _ _ _ h2]

theorem St.eff_put (st : St) (x : Option Nat) (u : PV) (e : HEff) : (st.put x u).eff e = (st.eff e).put x u := by cases x <;> rfl

theorem put_tm {x : Option Nat} {u : PV} {t : Nat} (h : ∀ d, x = some d → t ≠ d) : (st.put x u).tm t = st.tm t := by
  cases x with
  | none => rfl
  | some d => exact upd_other _ _ _ _ (h d rfl)

/-- Some act and world stand for the state. -/
def Ex (E : Env) (st : St) : Prop := ∃ γ own a w, Conc E γ own st a w

theorem Ex.obj {st : St} (h : Ex E st) {x : Operand} {id i off} (hi : st.look x = .hp id i off) : st.ob id ≠ none := by
  obtain ⟨γ, own, a, w, hC⟩ := h
  intro hn
  have h1 := hC.look x
  rw [hi] at h1
  generalize a.eval x = u at h1
  cases h1 with
  | hp hm => rw [hC.world.nob id hn] at hm; cases hm
theorem Ex.tok {st : St} (h : Ex E st) {i : Operand} {sz xs n} (hi : st.look i = .own sz xs (.tok n)) : st.tk n ≠ .never := by
  obtain ⟨γ, own, a, w, hC⟩ := h
  intro hn
  have h1 := hC.look i
  rw [hi] at h1
  cases h1 with
  | own _ ht =>
    have := hC.world.ntok n hn
    simp only [TokRep] at ht
    rw [this] at ht; cases ht

theorem RVal.reach (hT : TabOk P T) (hC : Ex E st) {o : Oper} {v : PV} {e : HEff} (hd : dstOk E.n o.dst = true) (h : RVal P T ops o st v e) : Ex E ((st.eff e).put o.dst v) := by
  have hd' : ∀ d, o.dst = some d → d < E.n := fun d hdd => by rw [hdd] at hd; exact Nat.lt_of_lt_of_le (Nat.lt_succ_self _) (Nat.le_of_ble_eq_true (by simpa [dstOk, Nat.blt] using hd))
  obtain ⟨γ, own, a, w, hC⟩ := hC
  cases h with
  | skip hg => exact ⟨γ, own, _, _, hC.put Rep.undef hd'⟩
  | ev hg hc he =>
    obtain ⟨u, w', γ', own', hrun, hle, hC'⟩ := evalOp_sound (P := P) hT hC hc he hd'
    exact ⟨γ', own', _, _, hC'⟩
  | call hg ho hf hds hle hcall =>
    rename_i f args argTypes g first caps ds ds' r
    obtain ⟨⟨fn, hfn, hbody, hname⟩, hcalls⟩ := hcall
    have hfr := asFn_rep (hC.look f) hf
    have hargs := args_rep hC args
    have hex : ∃ vs, RepL γ (first ++ args.toList.map st.look ++ caps) vs := by
      generalize hfv : a.eval f = fv at hfr
      cases hfr with
      | fn _ _ _ vf vc hlf hlc hff hcc => exact ⟨_, ((RepL.append ⟨hlf, hff⟩ hargs).append ⟨hlc, hcc⟩)⟩
    obtain ⟨vs, hvs⟩ := hex
    obtain ⟨e, w', fr, ⟨v, K', he, hr, hkle, hks, hb, hnew⟩, _⟩ := hcalls γ.K w vs hC.world.ksub (hle _ _ (RepL.toDs hvs hds)) []
    have hw' := hC.world.called hkle hks hb hnew
    have hgle : GhLe γ ⟨K', γ.m, γ.τ⟩ := ⟨hkle, fun _ _ h => h, fun _ _ h => h⟩
    exact ⟨_, _, _, _, ((hC.upworld (ob' := st.ob) (tk' := st.tk) hgle hw').put (Rep.ofD hr) hd')⟩
  | tcall hg ho hf hds hle hdst htk hsz hcall =>
    rename_i f args argTypes g first caps ds ds' d ty sz xs
    obtain ⟨⟨fn, hfn, hbody, hname⟩, hcalls⟩ := hcall
    have hfr := asFn_rep (hC.look f) hf
    have hargs := args_rep hC args
    have hex : ∃ vs, RepL γ (first ++ args.toList.map st.look ++ caps) vs := by
      generalize hfv : a.eval f = fv at hfr
      cases hfr with
      | fn _ _ _ vf vc hlf hlc hff hcc => exact ⟨_, ((RepL.append ⟨hlf, hff⟩ hargs).append ⟨hlc, hcc⟩)⟩
    obtain ⟨vs, hvs⟩ := hex
    obtain ⟨e, w', fr, ⟨v, K', he, hr, hkle, hks, hb, hnew, hsp⟩, _⟩ := hcalls γ.K w vs hC.world.ksub (hle _ _ (RepL.toDs hvs hds)) []
    obtain ⟨own', hgle, hw'⟩ := hC.world.tcalled hkle hks hb hnew htk hsz hsp
    exact ⟨_, _, _, _, ((hC.upworld hgle hw').put (.own hr (upd_same _ _ _)) hd')⟩

/-- How an append goes. -/
theorem evalAppend_form {d : Nat} {t : TypeId} {s x : PV} {tk : Nat → TS} {c v e} (h : evalAppend T (some d) t s x tk = some (c, v, e)) :
    ∃ kill ty sz, e = .tok kill d ty sz ∧ tk d = .never ∧ (∀ n, kill = some n → (∃ z ys, s = .own z ys (.tok n)) ∧ ∃ a b, tk n = .live a b) ∧
      ∀ tk', tk' d = .never → (∀ n, kill = some n → tk' n = tk n) → evalAppend T (some d) t s x tk' = some (c, v, e) := by
  unfold evalAppend at h
  split at h
  · rename_i hT hd
    simp only [Option.some.injEq] at hd; subst hd
    split at h
    · rename_i h1 h2 h3
      split at h
      · simp only [Option.some.injEq, Prod.mk.injEq] at h
        obtain ⟨rfl, rfl, rfl⟩ := h
        refine ⟨none, _, _, rfl, h3, (fun n hn => (by cases hn)), fun tk' hd _ => ?_⟩
        simp only [evalAppend, hT, h1, h2, hd]
      · rename_i n
        split at h
        · rename_i h4
          simp only [Option.some.injEq, Prod.mk.injEq] at h
          obtain ⟨rfl, rfl, rfl⟩ := h
          refine ⟨some n, _, _, rfl, h3, fun m hm => ?_, fun tk' hd hk => ?_⟩
          · simp only [Option.some.injEq] at hm; subst hm; exact ⟨⟨_, _, rfl⟩, _, _, h4⟩
          · have := hk n rfl
            simp only [evalAppend, hT, h1, h2, hd, this, h4]
        · cases h
    · cases h
  · cases h

theorem evalOp_app_form {dst : Option Nat} {op : Op} {ρ : Operand → PV} {ob : Nat → Option OB} {tk c v e} (hk : kindOf op = 3) (h : evalOp T dst op ρ ob tk = some (c, v, e)) :
    ∃ d s kill ty sz, dst = some d ∧ s ∈ op.operands ∧ e = .tok kill d ty sz ∧ tk d = .never ∧ (∀ n, kill = some n → (∃ z ys, ρ s = .own z ys (.tok n)) ∧ ∃ a b, tk n = .live a b) ∧
      ∀ ob' tk', tk' d = .never → (∀ n, kill = some n → tk' n = tk n) → evalOp T dst op ρ ob' tk' = some (c, v, e) := by
  cases op <;> simp only [kindOf, Nat.reduceEqDiff, reduceCtorEq] at hk
  case call cc =>
    obtain ⟨callee, args, argTypes⟩ := cc
    cases callee with
    | builtin b =>
      cases b <;> simp only [kindOf, Nat.reduceEqDiff, reduceCtorEq] at hk
      case append =>
        simp only [evalOp] at h
        split at h
        · rename_i s x t t2 ha ht
          cases hb : Nat.beq t t2 with
          | true =>
            rw [hb] at h
            simp only [cond_true] at h
            cases dst with
            | none => unfold evalAppend at h; split at h <;> simp_all
            | some d =>
              obtain ⟨kill, ty, sz, h1, h2, h3, h4⟩ := evalAppend_form h
              refine ⟨d, s, kill, ty, sz, rfl, ?_, h1, h2, h3, fun ob' tk' hd hk => ?_⟩
              · have : s ∈ args.toList := by rw [ha]; simp
                simpa [Op.operands, Call.operands] using this
              · simp only [evalOp, ha, ht, hb, cond_true]; exact h4 tk' hd hk
          | false => rw [hb] at h; cases h
        · cases h
    | value f => simp [kindOf] at hk
    | invoke r m => simp [kindOf] at hk

theorem look_xfer {o : Oper} {st st' : St} (ht : ∀ t ∈ o.looksAt ops, st'.tm t = st.tm t) : ∀ x ∈ o.op.operands, st'.look x = st.look x := fun x hx => by
  cases x with
  | tmp t => exact ht t (List.mem_append_left _ (List.mem_filterMap.2 ⟨.tmp t, by simpa using hx, rfl⟩))
  | _ => rfl
theorem guard_xfer {o : Oper} {st st' : St} (ht : ∀ t ∈ o.looksAt ops, st'.tm t = st.tm t) : guardOf ops st'.tm o = guardOf ops st.tm o := by
  unfold guardOf
  cases hg : o.guard with
  | none => rfl
  | some jw =>
    obtain ⟨j, want⟩ := jw
    simp only
    cases hd : (ops[j]?).bind (·.dst) with
    | none => rfl
    | some t =>
      have := ht t (by simp [Oper.looksAt, hg, hd])
      simp only [this]

theorem upd_if {α : Type} (f : Nat → α) (i j : Nat) (v : α) : upd f i v j = if j = i then v else f j := by
  split
  · rename_i h; subst h; exact upd_same _ _ _
  · rename_i h; exact upd_other _ _ _ _ h
theorem tkAfter_comm {tk : Nat → TS} {k k' : Option Nat} {d d' : Nat} {x x' : TS} (h1 : d ≠ d') (h2 : ∀ n, k = some n → n ≠ d') (h3 : ∀ n, k' = some n → n ≠ d) :
    tkAfter (tkAfter tk k d x) k' d' x' = tkAfter (tkAfter tk k' d' x') k d x := by
  funext i
  cases k with
  | none => cases k' with
    | none => simp only [tkAfter, upd_if]; repeat' split
              all_goals first | rfl | (exfalso; omega)
    | some n' =>
      have h3 := h3 n' rfl
      simp only [tkAfter, upd_if]; repeat' split
      all_goals first | rfl | (exfalso; omega)
  | some n =>
    have h2 := h2 n rfl
    cases k' with
    | none => simp only [tkAfter, upd_if]; repeat' split
              all_goals first | rfl | (exfalso; omega)
    | some n' =>
      have h3 := h3 n' rfl
      simp only [tkAfter, upd_if]; repeat' split
      all_goals first | rfl | (exfalso; omega)

theorem tkAfter_other {tk : Nat → TS} {k : Option Nat} {d i : Nat} {x : TS} (h1 : i ≠ d) (h2 : ∀ n, k = some n → i ≠ n) : tkAfter tk k d x i = tk i := by
  cases k with
  | none => exact upd_other _ _ _ _ h1
  | some n => simp only [tkAfter]; rw [upd_other _ _ _ _ h1, upd_other _ _ _ _ (h2 n rfl)]
theorem tkAfter_same {tk : Nat → TS} {k : Option Nat} {d : Nat} {x : TS} : tkAfter tk k d x d = x := by
  cases k <;> exact upd_same _ _ _
theorem tkAfter_kill {tk : Nat → TS} {n d : Nat} {x : TS} (h : n ≠ d) : tkAfter tk (some n) d x n = .dead := by
  simp only [tkAfter]; rw [upd_other _ _ _ _ h, upd_same]

theorem evalOp_load_form {dst : Option Nat} {op : Op} {ρ : Operand → PV} {ob : Nat → Option OB} {tk c v e} (hk : kindOf op = 1) (h : evalOp T dst op ρ ob tk = some (c, v, e)) :
    e = .none ∧ ∃ a, a ∈ op.operands ∧ ∀ ob' tk', (∀ id i off, ρ a = .hp id i off → ob' id = ob id) → evalOp T dst op ρ ob' tk' = some (c, v, e) := by
  cases op <;> simp only [kindOf, Nat.reduceEqDiff, reduceCtorEq] at hk
  case load t a =>
    simp only [evalOp] at h
    refine ⟨val_none h, a, by simp [Op.operands], fun ob' tk' hob => ?_⟩
    simp only [evalOp]
    rw [← h]
    congr 1
    unfold evalLoad
    cases T t with
    | none => rfl
    | some ti =>
      cases ha : ρ a with
      | hp id i off => simp only; rw [hob id i off ha]
      | d x => cases x <;> rfl
      | _ => rfl
  case call cc =>
    obtain ⟨callee, args, argTypes⟩ := cc
    cases callee with
    | builtin b => cases b <;> simp only [kindOf, Nat.reduceEqDiff, reduceCtorEq] at hk
    | value f => simp [kindOf] at hk
    | invoke r m => simp [kindOf] at hk
theorem evalAlloc_form {dst : Option Nat} {t x} {ob : Nat → Option OB} {c v e} (h : evalAlloc T dst t x ob = some (c, v, e)) :
    ∃ d o, dst = some d ∧ e = .obj d o ∧ ob d = none ∧ ∀ ob' : Nat → Option OB, ob' d = none → evalAlloc T dst t x ob' = some (c, v, e) := by
  unfold evalAlloc at h
  split at h
  · rename_i ti d hT
    split at h
    · rename_i hn
      simp only [Option.some.injEq, Prod.mk.injEq] at h
      obtain ⟨rfl, rfl, rfl⟩ := h
      exact ⟨d, _, rfl, rfl, hn, fun ob' hob => by simp only [evalAlloc, hT, hob]⟩
    · cases h
  · cases h
theorem evalOp_alloc_form {dst : Option Nat} {op : Op} {ρ : Operand → PV} {ob : Nat → Option OB} {tk c v e} (hk : kindOf op = 4) (h : evalOp T dst op ρ ob tk = some (c, v, e)) :
    ∃ d o, dst = some d ∧ e = .obj d o ∧ ob d = none ∧ ∀ (ob' : Nat → Option OB) tk', ob' d = none → evalOp T dst op ρ ob' tk' = some (c, v, e) := by
  cases op <;> simp only [kindOf, Nat.reduceEqDiff, reduceCtorEq] at hk
  case alloc t =>
    obtain ⟨d, o, h1, h2, h3, h4⟩ := evalAlloc_form h
    exact ⟨d, o, h1, h2, h3, fun ob' _ hob => h4 ob' hob⟩
  case box t x =>
    obtain ⟨d, o, h1, h2, h3, h4⟩ := evalAlloc_form h
    exact ⟨d, o, h1, h2, h3, fun ob' _ hob => h4 ob' hob⟩
  case call cc =>
    obtain ⟨callee, args, argTypes⟩ := cc
    cases callee with
    | builtin b => cases b <;> simp only [kindOf, Nat.reduceEqDiff, reduceCtorEq] at hk
    | value f => simp [kindOf] at hk
    | invoke r m => simp [kindOf] at hk

theorem evalOp_make_form {dst : Option Nat} {op : Op} {ρ : Operand → PV} {ob : Nat → Option OB} {tk c v e} (hk : kindOf op = 5) (h : evalOp T dst op ρ ob tk = some (c, v, e)) :
    ∃ d, dst = some d ∧ ((∃ o, e = .obj d o ∧ ob d = none ∧ ∀ (ob' : Nat → Option OB) tk', ob' d = none → evalOp T dst op ρ ob' tk' = some (c, v, e)) ∨
      (∃ ty sz, e = .tok none d ty sz ∧ tk d = .never ∧ ∀ (ob' : Nat → Option OB) tk', tk' d = .never → evalOp T dst op ρ ob' tk' = some (c, v, e))) := by
  cases op <;> simp only [kindOf, Nat.reduceEqDiff, reduceCtorEq] at hk
  case makeSlice t l m =>
    simp only [evalOp] at h
    unfold evalMakeSlice at h
    split at h
    · rename_i e' z es d n m' ht hl hm
      refine ⟨d, rfl, ?_⟩
      split at h
      · rename_i te hte
        cases hn0 : decide (n = 0) with
        | true =>
          rw [hn0] at h
          simp only [cond_true] at h
          split at h
          · rename_i htd
            simp only [Option.some.injEq, Prod.mk.injEq] at h
            obtain ⟨rfl, rfl, rfl⟩ := h
            refine .inr ⟨_, _, rfl, htd, fun ob' tk' hd => ?_⟩
            simp only [evalOp, evalMakeSlice, ht, hl, hm, hte, hn0, cond_true, hd]
          · cases h
        | false =>
          rw [hn0] at h
          simp only [cond_false] at h
          split at h
          · rename_i hod
            simp only [Option.some.injEq, Prod.mk.injEq] at h
            obtain ⟨rfl, rfl, rfl⟩ := h
            refine .inl ⟨_, rfl, hod, fun ob' tk' hd => ?_⟩
            simp only [evalOp, evalMakeSlice, ht, hl, hm, hte, hn0, cond_false, hd]
          · cases h
      · cases h
    · cases h
  case call cc =>
    obtain ⟨callee, args, argTypes⟩ := cc
    cases callee with
    | builtin b => cases b <;> simp only [kindOf, Nat.reduceEqDiff, reduceCtorEq] at hk
    | value f => simp [kindOf] at hk
    | invoke r m => simp [kindOf] at hk

/-- Two operations with memory may change places if their evaluations say so. -/
theorem RVal.swapG {oi oj : Oper} {v v' : PV} {e e' : HEff} (ki : kindOf oi.op ≠ 0) (kj : kindOf oj.op ≠ 0)
    (tmj : ∀ t ∈ oj.looksAt ops, ((st.eff e).put oi.dst v).tm t = st.tm t) (tmi : ∀ t ∈ oi.looksAt ops, ((st.eff e').put oj.dst v').tm t = st.tm t)
    (H : evalOp T oi.dst oi.op st.look st.ob st.tk = some (true, v, e) → evalOp T oj.dst oj.op st.look (st.eff e).ob (st.eff e).tk = some (true, v', e') →
      evalOp T oj.dst oj.op st.look st.ob st.tk = some (true, v', e') ∧ evalOp T oi.dst oi.op st.look (st.eff e').ob (st.eff e').tk = some (true, v, e) ∧ (st.eff e).eff e' = (st.eff e').eff e)
    (hi : RVal P T ops oi st v e) (hj : RVal P T ops oj ((st.eff e).put oi.dst v) v' e') :
    RVal P T ops oj st v' e' ∧ RVal P T ops oi ((st.eff e').put oj.dst v') v e ∧ (st.eff e).eff e' = (st.eff e').eff e := by
  have obput : ∀ (s : St) x u, (s.put x u).ob = s.ob ∧ (s.put x u).tk = s.tk := fun s x u => by cases x <;> exact ⟨rfl, rfl⟩
  have lj := look_xfer (o := oj) tmj
  have li := look_xfer (o := oi) tmi
  have gj := guard_xfer (o := oj) tmj
  have gi := guard_xfer (o := oi) tmi
  cases hi with
  | call hg ho hf hds hle hcall => rw [ho] at ki; simp [kindOf] at ki
  | tcall hg ho hf hds hle hdst htk hsz hcall => rw [ho] at ki; simp [kindOf] at ki
  | skip hg =>
    cases hj with
    | call hg' ho hf hds hle hcall => rw [ho] at kj; simp [kindOf] at kj
    | tcall hg' ho hf hds hle hdst htk hsz hcall => rw [ho] at kj; simp [kindOf] at kj
    | skip hg' => exact ⟨.skip (gj ▸ hg'), .skip (gi.trans hg), rfl⟩
    | ev hg' hc' he' =>
      refine ⟨.ev (gj ▸ hg') hc' ?_, .skip (gi.trans hg), rfl⟩
      rw [evalOp_congr lj, (obput _ _ _).1, (obput _ _ _).2] at he'
      exact he'
  | ev hg hc he =>
    cases hj with
    | call hg' ho hf hds hle hcall => rw [ho] at kj; simp [kindOf] at kj
    | tcall hg' ho hf hds hle hdst htk hsz hcall => rw [ho] at kj; simp [kindOf] at kj
    | skip hg' =>
      refine ⟨.skip (gj ▸ hg'), .ev (gi.trans hg) hc ?_, rfl⟩
      rw [evalOp_congr li, (obput _ _ _).1, (obput _ _ _).2]
      exact he
    | ev hg' hc' he' =>
      rw [evalOp_congr lj, (obput _ _ _).1, (obput _ _ _).2] at he'
      obtain ⟨h1, h2, h3⟩ := H he he'
      exact ⟨.ev (gj ▸ hg') hc' h1, .ev (gi.trans hg) hc (by rw [evalOp_congr li, (obput _ _ _).1, (obput _ _ _).2]; exact h2), h3⟩

/-- What an operation gives hangs on what it looks at, on memory as its kind says, and on the tokens that it takes. -/
theorem RVal.xfer {o : Oper} {st st' : St} {v : PV} {e : HEff} (h : RVal P T ops o st v e) (ht : ∀ t ∈ o.looksAt ops, st'.tm t = st.tm t) (h1 : kindOf o.op ≠ 0 ∧ kindOf o.op ≠ 3 → st'.ob = st.ob)
    (hdn : ∀ d, o.dst = some d → st.tk d = .never → st'.tk d = .never)
    (hk : kindOf o.op = 3 → ∀ x ∈ o.op.operands, ∀ z ys n a b, st.look x = .own z ys (.tok n) → st.tk n = .live a b → st'.tk n = .live a b) : RVal P T ops o st' v e := by
  have hlook := look_xfer (o := o) ht
  have hguard := guard_xfer (o := o) ht
  cases h with
  | skip hg => exact .skip (hguard.trans hg)
  | ev hg hc he =>
    refine .ev (hguard.trans hg) hc ?_
    rw [evalOp_congr (ρ' := st.look) hlook]
    have hle := kindOf_le o.op
    rcases (show kindOf o.op = 0 ∨ kindOf o.op = 1 ∨ (kindOf o.op = 2 ∨ kindOf o.op = 4) ∨ kindOf o.op = 3 ∨ kindOf o.op = 5 by omega) with k | k | k | k | k
    · rw [← he]; exact (evalOp_pure k).1.symm
    · rw [← he, h1 (by omega)]; exact (evalOp_load k).1.symm
    · rw [← he, h1 (by omega)]; exact (evalOp_other k).symm
    · obtain ⟨d, s, kill, ty, sz, q1, q2, q3, q4, q5, q6⟩ := evalOp_app_form k he
      refine q6 _ _ (hdn d q1 q4) fun n hn => ?_
      obtain ⟨⟨z, ys, q7⟩, a, b, q8⟩ := q5 n hn
      rw [q8]; exact hk k s q2 z ys n a b q7 q8
    · obtain ⟨d, q1, q2⟩ := evalOp_make_form k he
      rcases q2 with ⟨ob, q3, q4, q5⟩ | ⟨ty, sz, q3, q4, q5⟩
      · exact q5 _ _ (by rw [h1 (by omega)]; exact q4)
      · exact q5 _ _ (hdn d q1 q4)
  | call hg ho hf hds hle hcall =>
    rename_i f args argTypes g first caps ds ds' r
    have hops : ∀ x, x = f ∨ x ∈ args.toList → st'.look x = st.look x := fun x hx => hlook x (by
      rw [ho]
      simp only [Op.operands, Call.operands, Array.mem_append]
      rcases hx with rfl | hx
      · left; simp
      · right; simpa using hx)
    have hargs : args.toList.map st'.look = args.toList.map st.look := List.map_congr_left fun x hx => hops x (.inr hx)
    exact .call (hguard.trans hg) ho (by rw [hops f (.inl rfl)]; exact hf) (by rw [hargs]; exact hds) hle hcall
  | tcall hg ho hf hds hle hdst htk hsz hcall =>
    rename_i f args argTypes g first caps ds ds' d ty sz xs
    have hops : ∀ x, x = f ∨ x ∈ args.toList → st'.look x = st.look x := fun x hx => hlook x (by
      rw [ho]
      simp only [Op.operands, Call.operands, Array.mem_append]
      rcases hx with rfl | hx
      · left; simp
      · right; simpa using hx)
    have hargs : args.toList.map st'.look = args.toList.map st.look := List.map_congr_left fun x hx => hops x (.inr hx)
    exact .tcall (hguard.trans hg) ho (by rw [hops f (.inl rfl)]; exact hf) (by rw [hargs]; exact hds) hle hdst (hdn d hdst htk) hsz hcall
/-- What an operation does to the tokens. -/
theorem RVal.form {o : Oper} {st : St} {v : PV} {e : HEff} (h : RVal P T ops o st v e) :
    ((kindOf o.op = 0 → ∀ ob, e.obA ob = ob) ∧ ((∀ tk, e.tkA tk = tk) ∨ ∃ kill d ty sz, e = .tok kill d ty sz ∧ o.dst = some d ∧ st.tk d = .never ∧ (kindOf o.op = 0 → kill = none) ∧
      ∀ n, kill = some n → ∃ x ∈ o.op.operands, ∃ z ys, st.look x = .own z ys (.tok n))) := by
  cases h with
  | skip hg => exact ⟨fun _ _ => rfl, .inl fun _ => rfl⟩
  | call hg ho hf hds hle hcall => exact ⟨fun _ _ => rfl, .inl fun _ => rfl⟩
  | tcall hg ho hf hds hle hdst htk hsz hcall => exact ⟨fun _ _ => rfl, .inr ⟨_, _, _, _, rfl, hdst, htk, fun _ => rfl, fun n hn => by cases hn⟩⟩
  | ev hg hc he =>
    have hle := kindOf_le o.op
    rcases (show kindOf o.op = 0 ∨ kindOf o.op = 1 ∨ (kindOf o.op = 2 ∨ kindOf o.op = 4) ∨ kindOf o.op = 3 ∨ kindOf o.op = 5 by omega) with k | k | k | k | k
    · have := (evalOp_pure (ob' := st.ob) (tk' := st.tk) k).2 _ he
      dsimp only at this
      subst this
      exact ⟨fun _ _ => rfl, .inl fun _ => rfl⟩
    · have := (evalOp_load (tk' := st.tk) k).2 _ he
      dsimp only at this
      subst this
      exact ⟨fun _ _ => rfl, .inl fun _ => rfl⟩
    · have := evalOp_other_eff k he
      refine ⟨fun h => by omega, .inl fun tk => ?_⟩
      cases e <;> first | rfl | (cases this)
    · obtain ⟨d, s, kill, ty, sz, q1, q2, q3, q4, q5, q6⟩ := evalOp_app_form k he
      exact ⟨fun h => by omega, .inr ⟨kill, d, ty, sz, q3, q1, q4, fun h => by omega, fun n hn => by
        obtain ⟨⟨z, ys, q7⟩, _⟩ := q5 n hn
        exact ⟨s, q2, z, ys, q7⟩⟩⟩
    · obtain ⟨d, q1, q2⟩ := evalOp_make_form k he
      rcases q2 with ⟨ob, q3, q4, q5⟩ | ⟨ty, sz, q3, q4, q5⟩
      · exact ⟨fun h => by omega, .inl fun tk => by rw [q3]; rfl⟩
      · exact ⟨fun h => by omega, .inr ⟨none, d, ty, sz, q3, q1, q4, fun h => by omega, fun n hn => by cases hn⟩⟩

/-- The evaluations of two operations with memory say so. -/
theorem evalOp_swap (hC : Ex E st) {oi oj : Oper} {v v' : PV} {e e' : HEff} (ki : kindOf oi.op ≠ 0) (kj : kindOf oj.op ≠ 0) (hp : pairOk (kindOf oi.op) (kindOf oj.op) = true)
    (he : evalOp T oi.dst oi.op st.look st.ob st.tk = some (true, v, e)) (he' : evalOp T oj.dst oj.op st.look (st.eff e).ob (st.eff e).tk = some (true, v', e')) :
    evalOp T oj.dst oj.op st.look st.ob st.tk = some (true, v', e') ∧ evalOp T oi.dst oi.op st.look (st.eff e').ob (st.eff e').tk = some (true, v, e) ∧ (st.eff e).eff e' = (st.eff e').eff e := by
  have b1 := kindOf_le oi.op
  have b2 := kindOf_le oj.op
  rcases (show kindOf oi.op = 1 ∨ kindOf oi.op = 2 ∨ kindOf oi.op = 3 ∨ kindOf oi.op = 4 ∨ kindOf oi.op = 5 by omega) with k | k | k | k | k
  · obtain ⟨rfl, a, ha, hcong⟩ := evalOp_load_form k he
    rcases (show kindOf oj.op = 1 ∨ kindOf oj.op = 2 ∨ kindOf oj.op = 3 ∨ kindOf oj.op = 4 ∨ kindOf oj.op = 5 by omega) with k' | k' | k' | k' | k'
    · obtain ⟨rfl, _⟩ := evalOp_load_form k' he'
      exact ⟨he', he, rfl⟩
    · rw [k, k'] at hp; cases hp
    · obtain ⟨d', s', kill', ty', sz', hd', hs', rfl, hnv', hk', hcong'⟩ := evalOp_app_form k' he'
      exact ⟨he', hcong _ _ fun _ _ _ _ => rfl, rfl⟩
    · obtain ⟨d, o, hd, rfl, hn, hcong'⟩ := evalOp_alloc_form k' he'
      refine ⟨he', hcong _ _ fun id i off hid => ?_, rfl⟩
      have : id ≠ d := fun h => by subst h; exact hC.obj hid hn
      exact upd_other _ _ _ _ this
    · obtain ⟨d, hd, ⟨o, rfl, hn, hcong'⟩ | ⟨ty, sz, rfl, hn, hcong'⟩⟩ := evalOp_make_form k' he'
      · refine ⟨he', hcong _ _ fun id i off hid => ?_, rfl⟩
        have : id ≠ d := fun h => by subst h; exact hC.obj hid hn
        exact upd_other _ _ _ _ this
      · exact ⟨he', hcong _ _ fun _ _ _ _ => rfl, rfl⟩
  · rw [k] at hp
    unfold pairOk at hp
    split at hp <;> simp_all
  · obtain ⟨d, s, kill, ty, sz, hd, hs, rfl, hnv, hk, hcong⟩ := evalOp_app_form k he
    rcases (show kindOf oj.op = 1 ∨ kindOf oj.op = 2 ∨ kindOf oj.op = 3 ∨ kindOf oj.op = 4 ∨ kindOf oj.op = 5 by omega) with k' | k' | k' | k' | k'
    · obtain ⟨rfl, a, ha, hcong'⟩ := evalOp_load_form k' he'
      exact ⟨hcong' _ _ fun _ _ _ _ => rfl, he, rfl⟩
    · rw [k, k'] at hp; cases hp
    · obtain ⟨d', s', kill', ty', sz', hd', hs', rfl, hnv', hk', hcong'⟩ := evalOp_app_form k' he'
      simp only [St.eff, HEff.tkA, HEff.obA] at hnv' hcong' hk'
      have n1 : ∀ n, kill = some n → n ≠ d := fun n hn e => by
        subst e; obtain ⟨_, a, b, h⟩ := hk n hn; rw [hnv] at h; cases h
      have dd : d ≠ d' := fun e => by subst e; rw [tkAfter_same] at hnv'; cases hnv'
      have n2 : ∀ n, kill = some n → n ≠ d' := fun n hn e => by
        subst e; subst hn; rw [tkAfter_kill (n1 n rfl)] at hnv'; cases hnv'
      have hnv2 : st.tk d' = .never := by rwa [tkAfter_other dd.symm (fun n hn => (n2 n hn).symm)] at hnv'
      have n3 : ∀ n, kill' = some n → n ≠ d := fun n hn e => by
        subst e
        obtain ⟨⟨z, ys, hb⟩, _⟩ := hk' n hn
        exact hC.tok hb hnv
      have n4 : ∀ n m, kill' = some n → kill = some m → n ≠ m := fun n m hn hm e => by
        subst e; subst hm
        obtain ⟨_, a, b, h⟩ := hk' n hn
        rw [tkAfter_kill (n1 n rfl)] at h; cases h
      refine ⟨?_, ?_, ?_⟩
      · exact hcong' _ st.tk hnv2 fun n hn => (tkAfter_other (n3 n hn) (fun m hm => n4 n m hn hm)).symm
      · simp only [St.eff, HEff.tkA]
        refine hcong _ _ ?_ fun n hn => ?_
        · rw [tkAfter_other dd (fun n hn => (n3 n hn).symm)]; exact hnv
        · exact tkAfter_other (n2 n hn) (fun m hm => (n4 m n hm hn).symm)
      · simp only [St.eff, HEff.tkA, HEff.obA, St.mk.injEq, true_and]
        exact tkAfter_comm dd n2 n3
    · obtain ⟨d', o', hd', rfl, hn', hcong'⟩ := evalOp_alloc_form k' he'
      exact ⟨hcong' _ _ hn', hcong _ _ hnv fun _ _ => rfl, rfl⟩
    · rw [k, k'] at hp; cases hp
  · obtain ⟨d, o, hd, rfl, hn, hcong⟩ := evalOp_alloc_form k he
    rcases (show kindOf oj.op = 1 ∨ kindOf oj.op = 2 ∨ kindOf oj.op = 3 ∨ kindOf oj.op = 4 ∨ kindOf oj.op = 5 by omega) with k' | k' | k' | k' | k'
    · obtain ⟨rfl, a, ha, hcong'⟩ := evalOp_load_form k' he'
      refine ⟨hcong' _ _ fun id i off hid => ?_, he, rfl⟩
      have : id ≠ d := fun h => by subst h; exact hC.obj hid hn
      exact (upd_other _ _ _ _ this).symm
    · rw [k, k'] at hp; cases hp
    · obtain ⟨d', s', kill', ty', sz', hd', hs', rfl, hnv', hk', hcong'⟩ := evalOp_app_form k' he'
      exact ⟨hcong' _ _ hnv' fun _ _ => rfl, hcong _ _ hn, rfl⟩
    · obtain ⟨d', o', hd', rfl, hn', hcong'⟩ := evalOp_alloc_form k' he'
      simp only [St.eff, HEff.obA] at hn'
      have dd : d' ≠ d := fun h => by subst h; rw [upd_same] at hn'; cases hn'
      rw [upd_other _ _ _ _ dd] at hn'
      refine ⟨hcong' _ _ hn', hcong _ _ ?_, ?_⟩
      · simp only [St.eff, HEff.obA]; rw [upd_other _ _ _ _ dd.symm]; exact hn
      · simp only [St.eff, HEff.obA, HEff.tkA, St.mk.injEq, true_and, and_true]
        funext i
        simp only [upd_if]; repeat' split
        all_goals first | rfl | (exfalso; omega)
    · rw [k, k'] at hp; cases hp
  · obtain ⟨d, hd, hf⟩ := evalOp_make_form k he
    rcases (show kindOf oj.op = 1 ∨ kindOf oj.op = 2 ∨ kindOf oj.op = 3 ∨ kindOf oj.op = 4 ∨ kindOf oj.op = 5 by omega) with k' | k' | k' | k' | k'
    · obtain ⟨rfl, a, ha, hcong'⟩ := evalOp_load_form k' he'
      rcases hf with ⟨o, rfl, hn, hcong⟩ | ⟨ty, sz, rfl, hn, hcong⟩
      · refine ⟨hcong' _ _ fun id i off hid => ?_, he, rfl⟩
        have : id ≠ d := fun h => by subst h; exact hC.obj hid hn
        exact (upd_other _ _ _ _ this).symm
      · exact ⟨hcong' _ _ fun _ _ _ _ => rfl, he, rfl⟩
    · rw [k, k'] at hp; cases hp
    · rw [k, k'] at hp; cases hp
    · rw [k, k'] at hp; cases hp
    · obtain ⟨d', hd', hf'⟩ := evalOp_make_form k' he'
      rcases hf with ⟨o, rfl, hn, hcong⟩ | ⟨ty, sz, rfl, hn, hcong⟩ <;> rcases hf' with ⟨o', rfl, hn', hcong'⟩ | ⟨ty', sz', rfl, hn', hcong'⟩
      · simp only [St.eff, HEff.obA] at hn'
        have dd : d' ≠ d := fun h => by subst h; rw [upd_same] at hn'; cases hn'
        rw [upd_other _ _ _ _ dd] at hn'
        refine ⟨hcong' _ _ hn', hcong _ _ ?_, ?_⟩
        · simp only [St.eff, HEff.obA]; rw [upd_other _ _ _ _ dd.symm]; exact hn
        · simp only [St.eff, HEff.obA, HEff.tkA, St.mk.injEq, true_and, and_true]
          funext i
          simp only [upd_if]; repeat' split
          all_goals first | rfl | (exfalso; omega)
      · exact ⟨hcong' _ _ hn', hcong _ _ hn, rfl⟩
      · exact ⟨hcong' _ _ hn', hcong _ _ hn, rfl⟩
      · simp only [St.eff, HEff.tkA] at hn'
        have dd : d' ≠ d := fun h => by subst h; rw [tkAfter_same] at hn'; cases hn'
        rw [tkAfter_other dd (fun n hn => by cases hn)] at hn'
        refine ⟨hcong' _ _ hn', hcong _ _ ?_, ?_⟩
        · simp only [St.eff, HEff.tkA]; rw [tkAfter_other dd.symm (fun n hn => by cases hn)]; exact hn
        · simp only [St.eff, HEff.obA, HEff.tkA, St.mk.injEq, true_and]
          exact tkAfter_comm dd.symm (fun n hn => by cases hn) (fun n hn => by cases hn)

/-- Two operations that are apart may change places. -/
theorem RVal.swap (hT : TabOk P T) (hC : Ex E st) {oi oj : Oper} {v v' : PV} {e e' : HEff} (hap : apartS ops oi oj = true) (hi : RVal P T ops oi st v e) (hj : RVal P T ops oj ((st.eff e).put oi.dst v) v' e') :
    RVal P T ops oj st v' e' ∧ RVal P T ops oi ((st.eff e').put oj.dst v') v e ∧ (((st.eff e).put oi.dst v).eff e').put oj.dst v' = (((st.eff e').put oj.dst v').eff e).put oi.dst v := by
  simp only [apartS, Bool.and_eq_true] at hap
  obtain ⟨hap, hh⟩ := hap
  obtain ⟨a1, a2, a3⟩ := Oper.apart_spec hap
  simp only [heapOk] at hh
  have tmj : ∀ t ∈ oj.looksAt ops, st.tm t = ((st.eff e).put oi.dst v).tm t := fun t ht => (put_tm (st := st.eff e) fun d hd e => a1 d hd (e ▸ ht)).symm
  have tmi : ∀ t ∈ oi.looksAt ops, ((st.eff e').put oj.dst v').tm t = st.tm t := fun t ht => put_tm (st := st.eff e') fun d hd e => a3 d hd (e ▸ ht)
  have obput : ∀ (s : St) x u, (s.put x u).ob = s.ob ∧ (s.put x u).tk = s.tk := fun s x u => by cases x <;> exact ⟨rfl, rfl⟩
  by_cases h33 : kindOf oi.op ≠ 0 ∧ kindOf oj.op ≠ 0
  · obtain ⟨r1, r2, r3⟩ := RVal.swapG h33.1 h33.2 (fun t ht => (tmj t ht).symm) tmi (evalOp_swap hC h33.1 h33.2 hh) hi hj
    exact ⟨r1, r2, by rw [St.eff_put, St.eff_put, St.put_put _ _ _ a2, r3]⟩
  have h0 : kindOf oi.op = 0 ∨ kindOf oj.op = 0 := by omega
  obtain ⟨obi, fi⟩ := hi.form
  obtain ⟨obj, fj⟩ := hj.form
  have lj : ∀ x ∈ oj.op.operands, ((st.eff e).put oi.dst v).look x = st.look x := look_xfer (o := oj) fun t ht => (tmj t ht).symm
  have tk1 : ((st.eff e).put oi.dst v).tk = e.tkA st.tk := (obput _ _ _).2
  have ob1 : ((st.eff e).put oi.dst v).ob = e.obA st.ob := (obput _ _ _).1
  have tk2 : ((st.eff e').put oj.dst v').tk = e'.tkA st.tk := (obput _ _ _).2
  have ob2 : ((st.eff e').put oj.dst v').ob = e'.obA st.ob := (obput _ _ _).1
  -- where the tokens of the first one lie
  have neverj : ∀ d', oj.dst = some d' → e.tkA st.tk d' = .never → st.tk d' = .never := fun d' hd' hn => by
    rcases fi with fi | ⟨kill, d, ty, sz, rfl, hd, hdn, _, _⟩
    · rw [fi] at hn; exact hn
    · have hne : d' ≠ d := fun e => a2 d hd (e ▸ hd')
      simp only [HEff.tkA] at hn
      exact (tkAfter_never hn).2
  have livej : ∀ n a b, st.tk n ≠ .never → e.tkA st.tk n = .live a b → st.tk n = .live a b := fun n a b hnn hl => by
    rcases fi with fi | ⟨kill, d, ty, sz, rfl, hd, hdn, _, _⟩
    · rw [fi] at hl; exact hl
    · simp only [HEff.tkA] at hl
      rcases tkAfter_live hl with ⟨rfl, _, _⟩ | ⟨_, h, _⟩
      · exact absurd hdn hnn
      · exact h
  refine ⟨hj.xfer tmj ?_ ?_ ?_, hi.xfer tmi ?_ ?_ ?_, ?_⟩
  · intro hk
    rw [ob1, obi (by omega)]
  · intro d hd hn
    rw [tk1] at hn
    exact neverj d hd hn
  · intro hk x hx z ys n a b hlx hl
    rw [lj x hx] at hlx
    rw [tk1] at hl
    exact livej n a b (hC.tok hlx) hl
  · intro hk
    rw [ob2, obj (by omega)]
  · intro d hd hn
    rw [tk2]
    rcases fj with fj | ⟨kill, d', ty, sz, rfl, hd', hdn', _, hki⟩
    · rw [fj]; exact hn
    · have hne : d ≠ d' := fun e => a2 d hd (e ▸ hd')
      refine (tkAfter_other hne fun n hn' e => ?_).trans hn
      obtain ⟨x, hx, z, ys, hlx⟩ := hki n hn'
      rw [lj x hx] at hlx
      exact hC.tok hlx (e ▸ hn)
  · intro hk x hx z ys n a b hlx hl
    rw [tk2]
    rcases fj with fj | ⟨kill, d', ty, sz, rfl, hd', hdn', hk0, hki⟩
    · rw [fj]; exact hl
    · have hkn := hk0 (by omega)
      subst hkn
      rw [tk1] at hdn'
      have hn' := neverj d' hd' hdn'
      refine (tkAfter_other (k := none) (fun e => ?_) (fun n hn => by cases hn)).trans hl
      rw [e, hn'] at hl; cases hl
  · rw [St.eff_put, St.eff_put, St.put_put _ _ _ a2]
    have hcom : (st.eff e).eff e' = (st.eff e').eff e := by
      have c1 : e'.obA (e.obA st.ob) = e.obA (e'.obA st.ob) := by
        rcases h0 with h0 | h0
        · rw [obi h0, obi h0]
        · rw [obj h0, obj h0]
      have c2 : e'.tkA (e.tkA st.tk) = e.tkA (e'.tkA st.tk) := by
        rcases fi with fi | ⟨kill, d, ty, sz, rfl, hd, hdn, _, hki⟩
        · rw [fi, fi]
        · rcases fj with fj | ⟨kill', d', ty', sz', rfl, hd', hdn', _, hki'⟩
          · rw [fj, fj]
          · rw [tk1] at hdn'
            have hn' := neverj d' hd' hdn'
            have hne : d ≠ d' := fun e => a2 d hd (e ▸ hd')
            refine tkAfter_comm hne (fun n hn e => ?_) (fun n hn e => ?_)
            · obtain ⟨x, hx, z, ys, hlx⟩ := hki n hn
              exact hC.tok hlx (e ▸ hn')
            · obtain ⟨x, hx, z, ys, hlx⟩ := hki' n hn
              rw [lj x hx] at hlx
              exact hC.tok hlx (e ▸ hdn)
      show (⟨st.tm, e'.obA (e.obA st.ob), e'.tkA (e.tkA st.tk)⟩ : St) = ⟨st.tm, e.obA (e'.obA st.ob), e.tkA (e'.tkA st.tk)⟩
      rw [c1, c2]
    rw [hcom]

/-! ### Whatever order is drawn -/

/-- Operation number i. -/
def sOp (P : Program) (T : Nat → Option TI) (ops : Array Oper) (i : Nat) (K : St → Prop) (st : St) : Prop :=
  match ops[i]? with
  | none => K st
  | some o => ∃ v e, RVal P T ops o st v e ∧ K ((st.eff e).put o.dst v)

theorem sOp_mono {i : Nat} {K K' : St → Prop} (h : ∀ st, K st → K' st) (hh : sOp P T ops i K st) : sOp P T ops i K' st := by
  unfold sOp at *
  split
  · rename_i ho; simp only [ho] at hh; exact h _ hh
  · rename_i o ho; simp only [ho] at hh; obtain ⟨v, e, h1, h2⟩ := hh; exact ⟨v, e, h1, h _ h2⟩

def sAny (P : Program) (T : Nat → Option TI) (ops : Array Oper) (Q : St → Prop) : Nat → Array Bool → St → Prop
  | 0, listed, st => Region.ready .any ops listed = [] ∧ Q st
  | fuel + 1, listed, st => (Region.ready .any ops listed = [] → Q st) ∧ ∀ i ∈ Region.ready .any ops listed, sOp P T ops i (sAny P T ops Q fuel (listed.setIfInBounds i true)) st

/-- Number j comes after number i. -/
def dependsB (ops : Array Oper) : Nat → Nat → Nat → Bool
  | 0, _, _ => false
  | n + 1, j, i => match ops[j]? with
    | none => false
    | some o => o.after.any fun e => Region.binds .any e && (Nat.beq e.on i || dependsB ops n e.on i)
def ClosedB (ops : Array Oper) (listed : Array Bool) : Prop := ∀ j o, ops[j]? = some o → listed.getD j false = true → ∀ e ∈ o.after, Region.binds .any e = true → listed.getD e.on false = true
theorem dependsB_ready {listed : Array Bool} (hc : ClosedB ops listed) {i : Nat} (hi : listed.getD i false = false) : ∀ (n j : Nat) (o : Oper), ops[j]? = some o → (∀ e ∈ o.after, Region.binds .any e = true → listed.getD e.on false = true) → dependsB ops n j i = false
  | 0, _, _, _, _ => rfl
  | n + 1, j, o, ho, h => by
    unfold dependsB
    simp only [ho]
    rw [Bool.eq_false_iff]
    intro hany
    obtain ⟨e, he, hb⟩ := Array.any_eq_true'.1 hany
    simp only [Bool.and_eq_true, Bool.or_eq_true] at hb
    have h1 := h e he hb.1
    rcases hb.2 with h2 | h2
    · rw [Nat.eq_of_beq_eq_true h2] at h1; rw [hi] at h1; cases h1
    · cases n with
      | zero => cases h2
      | succ n =>
        cases ho' : ops[e.on]? with
        | none => simp [dependsB, ho'] at h2
        | some o' => rw [dependsB_ready hc hi (n + 1) e.on o' ho' (hc e.on o' ho' h1)] at h2; cases h2
theorem ClosedB.set {listed : Array Bool} (hc : ClosedB ops listed) {j : Nat} (hj : j ∈ Region.ready .any ops listed) : ClosedB ops (listed.setIfInBounds j true) := by
  intro k o ho hk e he hb
  by_cases hkj : j = k
  · subst hkj
    obtain ⟨_, oj, hoj, hall⟩ := mem_ready.1 hj
    rw [ho] at hoj; simp only [Option.some.injEq] at hoj; subst hoj
    exact getD_set_true (hall e he hb)
  · rw [getD_set_ne false hkj] at hk
    exact getD_set_true (hc k o ho hk e he hb)
theorem ClosedB.start (n : Nat) : ClosedB ops (Array.replicate n false) := by
  intro j o ho hj
  exfalso
  by_cases h : j < n <;> simp [h] at hj

theorem sAny_first (hT : TabOk P T) (hds : ∀ o ∈ ops.toList, dstOk E.n o.dst = true) {Q : St → Prop} {i : Nat} {oi : Oper} {v : PV} {e : HEff} (hi : ops[i]? = some oi) :
    ∀ (fuel : Nat) (listed : Array Bool) (st : St), Ex E st → ClosedB ops listed →
      (∀ j oj, ops[j]? = some oj → j ≠ i → listed.getD j true = false → (∀ n, dependsB ops n j i = false) → apartS ops oi oj = true) →
      i ∈ Region.ready .any ops listed → RVal P T ops oi st v e →
      sAny P T ops Q fuel (listed.setIfInBounds i true) ((st.eff e).put oi.dst v) → sAny P T ops Q (fuel + 1) listed st := by
  intro fuel
  induction fuel with
  | zero =>
    intro listed st _ _ _ hr hy H
    refine ⟨fun h => (by rw [h] at hr; cases hr), fun j hj => ?_⟩
    by_cases hji : j = i
    · subst hji; unfold sOp; simp only [hi]; exact ⟨v, e, hy, H⟩
    · have := ready_mono hj hji
      rw [H.1] at this
      cases this
  | succ fuel ih =>
    intro listed st hC hcl hfree hr hy H
    refine ⟨fun h => (by rw [h] at hr; cases hr), fun j hj => ?_⟩
    by_cases hji : j = i
    · subst hji; unfold sOp; simp only [hi]; exact ⟨v, e, hy, H⟩
    · have h1 := H.2 j (ready_mono hj hji)
      obtain ⟨hjun, oj, hoj, hall⟩ := mem_ready.1 hj
      have hnot : ∀ n, dependsB ops n j i = false := fun n => by
        have h0 := (mem_ready.1 hr).1
        refine dependsB_ready hcl ?_ n j oj hoj hall
        rcases Nat.lt_or_ge i listed.size with h' | h'
        · simp [h'] at h0 ⊢; exact h0
        · simp [Array.getElem?_eq_none h'] at h0
      unfold sOp at h1 ⊢
      simp only [hoj] at h1 ⊢
      obtain ⟨v', e', hj1, hj2⟩ := h1
      obtain ⟨s1, s2, s3⟩ := RVal.swap hT hC (hfree j oj hoj hji hjun hnot) hy hj1
      have hfree' : ∀ k ok, ops[k]? = some ok → k ≠ i → (listed.setIfInBounds j true).getD k true = false →
          (∀ n, dependsB ops n k i = false) → apartS ops oi ok = true := fun k ok hk hki hun hno => by
        refine hfree k ok hk hki ?_ hno
        by_cases hjk : j = k
        · subst hjk; exact hjun
        · rw [getD_set_ne true hjk] at hun; exact hun
      refine ⟨v', e', s1, ih (listed.setIfInBounds j true) _ (s1.reach hT hC (hds oj (by simpa using Array.mem_of_getElem? hoj))) (hcl.set hj) hfree' (ready_mono hr (Ne.symm hji)) s2 ?_⟩
      rw [Array.setIfInBounds_comm _ _ hji, ← s3]
      exact hj2

def freeS (ops : Array Oper) (listed : Array Bool) (i : Nat) : Bool :=
  match ops[i]? with
  | none => false
  | some oi => (List.range ops.size).all fun j => j == i || listed.getD j true || match ops[j]? with
      | some oj => dependsB ops 1 j i || apartS ops oi oj || dependsB ops 8 j i
      | none => true

theorem freeS_spec {i : Nat} {oi : Oper} {listed : Array Bool} (hi : ops[i]? = some oi) (h : freeS ops listed i = true) (j : Nat) (oj : Oper)
    (hj : ops[j]? = some oj) (hne : j ≠ i) (hun : listed.getD j true = false) (hno : ∀ n, dependsB ops n j i = false) : apartS ops oi oj = true := by
  simp only [freeS, hi, List.all_eq_true, List.mem_range] at h
  have h1 := h j (Array.getElem?_eq_some_iff.1 hj).1
  simpa only [hj, Bool.or_eq_true, beq_iff_eq, hne, false_or, hun, Bool.false_eq_true, hno, or_false] using h1

def lexFromS (ops : Array Oper) : Nat → Nat → Array Bool → Bool
  | 0, _, listed => (Region.ready .any ops listed).isEmpty
  | fuel + 1, k, listed => (Region.ready .any ops listed).contains k && freeS ops listed k && lexFromS ops fuel (k + 1) (listed.setIfInBounds k true)

def lexS (ops : Array Oper) : Bool := ops.all (fun o => dstOk 1000000 o.dst) && lexFromS ops ops.size 0 (Array.replicate ops.size false)

/-- All operations write below the frame's size. -/
def dstsOk (n : Nat) (ops : List Oper) : Bool := ops.all fun o => dstOk n o.dst

theorem sAny_lex (hT : TabOk P T) (hds : ∀ o ∈ ops.toList, dstOk E.n o.dst = true) {n : Nat} {Q : SL → Prop} : ∀ (l : List Oper) (k : Nat) (listed : Array Bool) (s : SL), (∀ j, l[j]? = ops[k + j]?) → lexFromS ops l.length k listed = true →
    ROps P T ops n false Q l s → Ex E s.of → ClosedB ops listed → sAny P T ops (fun st => ∃ s' : SL, Q s' ∧ st = s'.of) l.length listed s.of
  | [], _, _, s, _, hB, h, hC, hcl => by
    cases h with | nil h => exact ⟨by simpa [lexFromS] using hB, s, h, rfl⟩
  | o :: l, k, listed, s, hl, hB, h, hC, hcl => by
    have h0 : ops[k]? = some o := by simpa using (hl 0).symm
    simp only [List.length_cons, lexFromS, Bool.and_eq_true] at hB
    obtain ⟨⟨hr, hf⟩, hB'⟩ := hB
    cases h with
    | mcons hm => cases hm
    | cons hd hv hrest =>
      refine sAny_first hT hds h0 l.length listed s.of hC hcl (freeS_spec h0 hf) (by simpa using hr) hv ?_
      rw [← SL.of_eff, ← SL.of_put]
      exact sAny_lex hT hds l (k + 1) _ _ (fun j => by have := hl (j + 1); simpa [Nat.add_assoc, Nat.add_comm 1 j] using this) hB' hrest (by rw [SL.of_put, SL.of_eff]; exact hv.reach hT hC (hds o (by simpa using Array.mem_of_getElem? h0))) (hcl.set (by simpa using hr))

theorem sOp_wp (hT : TabOk P T) (hds : ∀ o ∈ ops.toList, dstOk E.n o.dst = true) {Q' : Exit → Act → World → Prop} {i : Nat} {K : St → Prop} {K' : Act → World → Prop} (hC : Conc E γ own st a w) (h : sOp P T ops i K st)
    (hK : ∀ st' γ' own' a' w', K st' → Conc E γ' own' st' a' w' → K' a' w') : wpOp P ops Q' i K' a w := by
  unfold sOp at h
  unfold wpOp
  split
  · rename_i ho; simp only [ho] at h; exact hK st γ own a w h hC
  · rename_i o ho
    simp only [ho] at h
    obtain ⟨v, e, hv, hk⟩ := h
    exact hv.sound hT hC (hds o (by simpa using Array.mem_of_getElem? ho)) fun γ' own' a' w' _ hC' => hK _ γ' own' a' w' hk hC'

theorem sAny_wp (hT : TabOk P T) (hds : ∀ o ∈ ops.toList, dstOk E.n o.dst = true) {Q : St → Prop} {Q' : Exit → Act → World → Prop} (hQ : ∀ st γ own a w, Q st → Conc E γ own st a w → Q' .normal a w) :
    ∀ (fuel : Nat) (listed : Array Bool) (st : St) (γ own a w), Conc E γ own st a w → sAny P T ops Q fuel listed st → wpAny P .any ops Q' fuel listed a w
  | 0, _, st, γ, own, a, w, hC, h => ⟨h.1, hQ st γ own a w h.2 hC⟩
  | fuel + 1, listed, st, γ, own, a, w, hC, h => ⟨fun h0 => hQ st γ own a w (h.1 h0) hC, fun i hi =>
      sOp_wp hT hds hC (h.2 i hi) fun st' γ' own' a' w' hk hC' => sAny_wp hT hds hQ fuel _ st' γ' own' a' w' hC' hk⟩

end Go.PS

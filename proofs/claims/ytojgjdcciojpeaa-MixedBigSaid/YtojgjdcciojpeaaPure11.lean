/-
  All operations of the pure layer together.
-/
import Derived.Test.YtojgjdcciojpeaaPure20
import Derived.Laws.BytesString
import Derived.Laws.Cells
namespace Go.PS
open Go Go.RowKit

variable {P : Program} {T : Nat → Option TI}
variable {E : Env} {γ : Gh} {own : Nat → Option Nat} {st : St} {a : Act} {w : World}

/-- What the model's operation comes to, and the state that it stands for. -/
def OpOk (P : Program) (E : Env) (γ : Gh) (o : Oper) (a : Act) (w : World) (st' : St) : Prop :=
  ∃ u w' γ' own', ((execOp a.eval o).run P w = .ok (.value u) w' ∨ ((execOp a.eval o).run P w = .ok .skip w' ∧ u = undef)) ∧ GhLe γ γ' ∧ Conc E γ' own' st' (a.put o.dst u) w'

theorem OpOk.of_val (hC : Conc E γ own st a w) {o : Oper} {v : PV} (hd : ∀ d, o.dst = some d → d < E.n) {s : Sem Value} (hv : ValOk P γ w s v)
    (he : execOp a.eval o = (do pure (.value (← s)))) : OpOk P E γ o a w ((st.eff .none).put o.dst v) := by
  obtain ⟨u, hu, hr⟩ := hv
  exact ⟨u, w, γ, own, .inl (by rw [he]; simp [hu]), GhLe.refl _, hC.put hr hd⟩

theorem OpOk.of_world (hC : Conc E γ own st a w) {o : Oper} {v : PV} {eff : HEff} (hd : ∀ d, o.dst = some d → d < E.n) {u : Value} {w' : World} {γ' : Gh} {own' : Nat → Option Nat}
    (hrun : (execOp a.eval o).run P w = .ok (.value u) w' ∨ ((execOp a.eval o).run P w = .ok .skip w' ∧ u = undef)) (hle : GhLe γ γ') (hr : Rep γ' v u)
    (hw : ConcW E γ' own' (eff.obA st.ob) (eff.tkA st.tk) w') : OpOk P E γ o a w ((st.eff eff).put o.dst v) :=
  ⟨u, w', γ', own', hrun, hle, (hC.upworld hle hw).put hr hd⟩

theorem val_some {r : Option (Bool × PV)} {c : Bool} {v : PV} {e : HEff} (h : val r = some (c, v, e)) : r = some (c, v) ∧ e = .none := by
  unfold val at h
  split at h
  · simp only [Option.some.injEq, Prod.mk.injEq] at h
    obtain ⟨rfl, rfl, rfl⟩ := h
    exact ⟨rfl, rfl⟩
  · cases h

theorem parts_rep (hC : Conc E γ own st a w) (ps : Array (Nat × Operand)) :
    (ps.toList.map fun p => (p.1, st.look p.2)).length = (ps.map fun (i, x) => (i, a.eval x)).toList.length ∧
    ∀ (i : Nat) (p : Nat × PV) (q : Nat × Value), (ps.toList.map fun p => (p.1, st.look p.2))[i]? = some p → (ps.map fun (i, x) => (i, a.eval x)).toList[i]? = some q → p.1 = q.1 ∧ Rep γ p.2 q.2 := by
  refine ⟨by simp, fun i p q hp hq => ?_⟩
  simp only [Array.toList_map, List.getElem?_map, Option.map_eq_some_iff] at hp hq
  obtain ⟨x, hx, rfl⟩ := hp
  obtain ⟨y, hy, rfl⟩ := hq
  rw [hx] at hy
  cases hy
  exact ⟨rfl, hC.look _⟩

theorem args_rep (hC : Conc E γ own st a w) (xs : Array Operand) : RepL γ (xs.toList.map st.look) (xs.map a.eval).toList :=
  ⟨by simp, fun i c v hc hv => by
    simp only [Array.toList_map, List.getElem?_map, Option.map_eq_some_iff] at hc hv
    obtain ⟨x, hx, rfl⟩ := hc
    obtain ⟨y, hy, rfl⟩ := hv
    rw [hx] at hy
    cases hy
    exact hC.look _⟩

theorem opt_rep (hC : Conc E γ own st a w) (x : Option Operand) : (∀ y, x.map st.look = some y → ∃ u, x.map a.eval = some u ∧ Rep γ y u) ∧ (x.map st.look = none → x.map a.eval = none) := by
  cases x with
  | none => exact ⟨fun y h => by simp at h, fun _ => rfl⟩
  | some x => exact ⟨fun y h => by simp at h; subst h; exact ⟨_, rfl, hC.look x⟩, fun h => by simp at h⟩

/-- No cut with a greatest bound and no end. -/
def Op.cutOk : Op → Bool
  | .slice _ _ _ none (some _) => false
  | _ => true

theorem bytesOf_inv : ∀ (xs : List D) (ns : List Int), bytesOf xs = some ns → xs = ns.map (D.int .u8)
  | [], ns, h => by simp only [bytesOf, Option.some.injEq] at h; subst h; rfl
  | x :: r, ns, h => by
    unfold bytesOf at h
    split at h
    · rename_i e; cases e
    · rename_i n r' e
      cases e
      simp only [Option.map_eq_some_iff] at h
      obtain ⟨ns', h1, rfl⟩ := h
      rw [List.map_cons, ← bytesOf_inv r ns' h1]
    · cases h
theorem push_bytes (ns : List Int) : ∀ l : List UInt8, ns.foldl (fun r n => r.push (UInt8.ofNat n.toNat)) (ByteArray.mk l.toArray) = ⟨(l ++ ns.map fun n => UInt8.ofNat n.toNat).toArray⟩ := by
  induction ns with
  | nil => intro l; simp
  | cons n ns ih =>
    intro l
    have e : (ByteArray.mk l.toArray).push (UInt8.ofNat n.toNat) = ByteArray.mk (l ++ [UInt8.ofNat n.toNat]).toArray := by
      apply ByteArray.ext
      simp [ByteArray.push]
    rw [List.foldl_cons, e, ih]
    simp
theorem evalConv_sound {ob : Nat → Option OB} {tk : Nat → TS} (hT : TabOk P T) (hw : ConcW E γ own ob tk w) {src dt : TypeId} {x v : PV} {xv : Value} (hx : Rep γ x xv) (h : evalConv T src dt x = some (true, v)) : ValOk P γ w (convert src dt xv) v := by
  unfold evalConv at h
  split at h
  · rename_i h1 h2
    simp only [Option.some.injEq, Prod.mk.injEq, true_and] at h
    subst h
    have hxi := rep_int hx
    obtain ⟨i1, d1, _, hd1, _, _, _, hk1, _⟩ := hT.facts h1
    obtain ⟨i2, d2, _, hd2, _, _, _, hk2, _⟩ := hT.facts h2
    cases d2 <;> simp only [TK.of, reduceCtorEq, TK.int.injEq] at hk2
    subst hk2
    rename_i k2 n _ _ _ _ _ _
    refine ⟨.int .u8 _, ?_, .d (.int _ _)⟩
    simp [convert, run_underlying hd1, run_underlying hd2, hxi, Conv.intToInt]
    simp [IntKind.wrap, IntKind.bits, IntKind.signed]
  · rename_i h1 h2
    simp only [Option.some.injEq, Prod.mk.injEq] at h
    obtain ⟨hr, rfl⟩ := h
    have hxi := rep_int hx
    obtain ⟨i1, d1, _, hd1, _⟩ := hT.facts h1
    obtain ⟨i2, d2, _, hd2, _, _, _, hk2, _⟩ := hT.facts h2
    cases d2 <;> simp only [TK.of, reduceCtorEq, TK.int.injEq] at hk2
    subst hk2
    refine ⟨.int _ _, ?_, .d (.int _ _)⟩
    simp [convert, run_underlying hd1, run_underlying hd2, hxi, Conv.intToInt, wrap_id hr]
  · rename_i h1 h2
    simp only [Option.some.injEq, Prod.mk.injEq, true_and] at h
    subst h
    have hxi := rep_str hx
    obtain ⟨i1, d1, _, hd1, _⟩ := hT.facts h1
    obtain ⟨i2, d2, _, hd2, _, _, _, hk2, _⟩ := hT.facts h2
    cases d2 <;> simp only [TK.of, reduceCtorEq] at hk2
    refine ⟨.string _, ?_, .d (.str _)⟩
    simp [convert, run_underlying hd1, run_underlying hd2, hxi]
  · rename_i h1 h2 hns0
    split at h
    · rename_i sz xs h3 hxs
      split at h
      · rename_i ns hns
        simp only [Option.some.injEq, Prod.mk.injEq, Bool.and_eq_true] at h
        obtain ⟨⟨hsz, hne⟩, rfl⟩ := h
        have hsz' : sz = 1 := by simpa using hsz
        subst hsz'
        have hxs2 := bytesOf_inv _ _ hns
        subst hxs2
        have hr := asSl_rep hx hxs
        obtain ⟨i1, d1, _, hd1, _, _, _, hk1, _⟩ := hT.facts h1
        obtain ⟨i2, d2, _, hd2, _, _, _, hk2, _⟩ := hT.facts h2
        obtain ⟨i3, d3, _, hd3, _, _, _, hk3, _⟩ := hT.facts h3
        cases d1 <;> simp only [TK.of, reduceCtorEq, TK.slice.injEq] at hk1
        subst hk1
        cases d2 <;> simp only [TK.of, reduceCtorEq] at hk2
        cases d3 <;> simp only [TK.of, reduceCtorEq, TK.int.injEq] at hk3
        subst hk3
        generalize hzs : ns.map (D.int .u8) = zs at hr
        cases hr with
        | sl _ _ a c b o f hc ha hs hk h1' hrr =>
          have hlen : zs.length = ns.length := by rw [← hzs]; simp
          have hne2 : zs ≠ [] := by
            intro e0
            rw [hzs, e0] at hne
            simp at hne
          have hav := ha hne2
          subst hav
          have hcell : ∀ j, j < ns.length → w.cell? ((⟨b, o, none⟩ : Addr).add j) = some (.int .u8 (ns.getD j 0)) := by
            intro j hj
            have hz : zs[j]? = some (.int .u8 (ns.getD j 0)) := by rw [← hzs]; simp [hj]
            have hk' := hk j 0 _ _ hz (by rfl)
            have h1'' := h1' j 0 _ _ hz (by rfl)
            have hr' := hrr j 0 _ _ hz (by rfl)
            have hf : f j 0 = .int .u8 (ns.getD j 0) := by
              generalize f j 0 = q at hr'
              cases hr'; rfl
            have := (hw.ksub _ _ _ hk').cell h1''
            rw [addr_add]
            rw [hf] at this
            simpa using this
          have hl := run_loadCells_list (P := P) (w := w) ⟨b, o, none⟩ (ns.map (Value.int .u8)) (fun j v hv => by
            rw [List.getElem?_map, Option.map_eq_some_iff] at hv
            obtain ⟨n, hn, rfl⟩ := hv
            have hj : j < ns.length := (List.getElem?_eq_some_iff.1 hn).1
            rw [hcell j hj]
            simp [List.getD, hn])
          rw [List.length_map] at hl
          refine ⟨_, ?_, .d (.str _)⟩
          rw [run_convert_bytes_string w src dt _ _ _ _ hd1 hd3 hd2, hlen, run_bytesToString w _ _ _ ns hl]
          have hp := push_bytes ns []
          rw [show ByteArray.mk ([] : List UInt8).toArray = ByteArray.empty from rfl, List.nil_append] at hp
          rw [hp]
      · cases h
    · cases h
  · cases h

theorem evalOp_sound (hT : TabOk P T) (hC : Conc E γ own st a w) {o : Oper} {v : PV} {eff : HEff} (hcut : Op.cutOk o.op = true) (h : evalOp T o.dst o.op st.look st.ob st.tk = some (true, v, eff)) (hd : ∀ d, o.dst = some d → d < E.n) :
    OpOk P E γ o a w ((st.eff eff).put o.dst v) := by
  obtain ⟨dst, op, type, pos, after, guard⟩ := o
  simp only at h hd hcut ⊢
  cases op with
  | move x =>
    simp only [evalOp, Option.some.injEq, Prod.mk.injEq, true_and] at h
    obtain ⟨rfl, rfl⟩ := h
    exact OpOk.of_val hC hd (s := pure (a.eval x)) ⟨_, rfl, hC.look x⟩ rfl
  | assign x =>
    simp only [evalOp, Option.some.injEq, Prod.mk.injEq, true_and] at h
    obtain ⟨rfl, rfl⟩ := h
    exact OpOk.of_val hC hd (s := pure (a.eval x)) ⟨_, rfl, hC.look x⟩ rfl
  | pick c x y =>
    simp only [evalOp] at h
    split at h
    · rename_i t ht
      simp only [Option.some.injEq, Prod.mk.injEq, true_and] at h
      obtain ⟨rfl, rfl⟩ := h
      have hc := hC.look c
      rw [ht] at hc
      have hcb := rep_bool hc
      refine OpOk.of_val hC hd (s := do pure (if ← asBool (a.eval c) then a.eval x else a.eval y)) ⟨if t then a.eval x else a.eval y, by simp [hcb, asBool], ?_⟩ (by simp [execOp])
      cases t
      · exact hC.look y
      · exact hC.look x
    · cases h
  | build t parts =>
    simp only [evalOp] at h
    split at h
    · rename_i r hr
      simp only [Option.some.injEq, Prod.mk.injEq, true_and] at h
      obtain ⟨rfl, rfl⟩ := h
      obtain ⟨h1, h2⟩ := parts_rep hC parts
      exact OpOk.of_val hC hd (evalBuild_sound hT w h1 h2 hr) rfl
    · cases h
  | buildSlice t n parts =>
    obtain ⟨h9, rfl⟩ := val_some h
    obtain ⟨h1, h2⟩ := parts_rep hC parts
    obtain ⟨γ', u, w', hrun, hle, hr, hw⟩ := evalBuildSlice_sound hT hC.world h1 h2 h9
    exact OpOk.of_world hC hd (.inl (by simp only [execOp]; simp [hrun])) hle hr hw
  | binOp op t x y yt =>
    obtain ⟨h9, rfl⟩ := val_some h
    exact OpOk.of_val hC hd (evalBin_sound hT w x y (hC.look x) (hC.look y) h9) rfl
  | unOp op t x =>
    obtain ⟨h9, rfl⟩ := val_some h
    exact OpOk.of_val hC hd (evalUn_sound w (hC.look x) h9) rfl
  | convert src dt x =>
    obtain ⟨h9, rfl⟩ := val_some h
    exact OpOk.of_val hC hd (evalConv_sound hT hC.world (hC.look x) h9) rfl
  | makeFunc f first caps =>
    simp only [evalOp, Option.some.injEq, Prod.mk.injEq, true_and] at h
    obtain ⟨rfl, rfl⟩ := h
    have h1 := args_rep hC first
    have h2 := args_rep hC caps
    refine OpOk.of_val hC hd (s := Instr.makeFunc f (first.map a.eval) (caps.map a.eval)) ⟨.func f (first.map a.eval) (caps.map a.eval), rfl, ?_⟩ rfl
    have := Rep.fn f _ _ _ _ h1.1 h2.1 h1.2 h2.2
    rw [Array.toArray_toList, Array.toArray_toList] at this
    exact this
  | slice t x lo hi mx =>
    simp only [evalOp] at h
    obtain ⟨l1, l2⟩ := opt_rep hC lo
    obtain ⟨h1, h2⟩ := opt_rep hC hi
    obtain ⟨m1, m2⟩ := opt_rep hC mx
    have hmm : mx.map st.look ≠ none → hi.map st.look ≠ none := by
      intro hm
      cases mx with
      | none => exact absurd rfl hm
      | some m => cases hi with
        | none => simp [Op.cutOk] at hcut
        | some _ => simp
    split at h
    · rename_i hx
      obtain ⟨h9, rfl⟩ := val_some h
      have hr := hC.look x
      rw [hx] at hr
      exact OpOk.of_val hC hd (evalSliceH_sound hT w hr l1 l2 h1 h2 m1 m2 hmm h9) rfl
    · obtain ⟨h9, rfl⟩ := val_some h
      exact OpOk.of_val hC hd (evalSlice_sound hT w (hC.look x) l1 l2 h1 h2 m1 m2 hmm h9) rfl
  | makeMap t r =>
    cases r with
    | some r => simp [evalOp] at h
    | none =>
      simp only [evalOp] at h
      obtain ⟨γ', u, w', hrun, hle, hr, hw⟩ := evalMakeMap_sound (P := P) (t := t) hC.world hd h
      exact OpOk.of_world hC hd (.inl (by simp [execOp, hrun])) hle hr hw
  | lookup t m k ok =>
    obtain ⟨h9, rfl⟩ := val_some h
    exact OpOk.of_val hC hd (evalLookup_sound hT hC.world (hC.look m) (hC.look k) h9) rfl
  | range t x =>
    obtain ⟨γ', u, w', hrun, hle, hr, hw⟩ := evalRange_sound (P := P) hT hC.world hd (hC.look x) h
    exact OpOk.of_world hC hd (.inl (by simp [execOp, hrun])) hle hr hw
  | next x b =>
    cases b with
    | false => simp [evalOp] at h
    | true =>
      simp only [evalOp] at h
      obtain ⟨u, w', hrun, hr, hw⟩ := evalNext_sound (P := P) (ty := type) hC.world (hC.look x) h
      exact OpOk.of_world hC hd (.inl (by simp [execOp, hrun])) (GhLe.refl _) hr hw
  | mapUpdate t m k x =>
    obtain ⟨id, o, w', rfl, rfl, hrun, hw⟩ := evalMapUpdate_sound hT hC.world (hC.look m) (hC.look k) (hC.look x) h
    exact OpOk.of_world hC hd (.inr ⟨by simp [execOp, hrun], rfl⟩) (GhLe.refl _) Rep.undef hw
  | fieldAddr s x f =>
    obtain ⟨h9, rfl⟩ := val_some h
    exact OpOk.of_val hC hd (evalFieldAddr_sound hT w (hC.look x) h9) rfl
  | field s x f =>
    obtain ⟨h9, rfl⟩ := val_some h
    exact OpOk.of_val hC hd (evalField_sound hT w (hC.look x) h9) rfl
  | indexAddr t x i =>
    obtain ⟨h9, rfl⟩ := val_some h
    exact OpOk.of_val hC hd (evalIndexAddr_sound hT w (hC.look x) (hC.look i) h9) rfl
  | index t x i =>
    obtain ⟨h9, rfl⟩ := val_some h
    exact OpOk.of_val hC hd (evalIndex_sound hT w (hC.look x) (hC.look i) h9) rfl
  | extract x i =>
    simp only [evalOp] at h
    split at h
    · rename_i cs hx
      split at h
      · rename_i c hc
        simp only [Option.some.injEq, Prod.mk.injEq, true_and] at h
        obtain ⟨rfl, rfl⟩ := h
        have hr := hC.look x
        rw [hx] at hr
        obtain ⟨vs, he, hl⟩ := Rep.tup_iff.1 hr
        have hlt : i < vs.length := by rw [← hl.1]; exact (List.getElem?_eq_some_iff.1 hc).1
        refine OpOk.of_val hC hd (s := Instr.extract (a.eval x) i) ⟨vs[i], ?_, hl.2 i _ _ hc (List.getElem?_eq_getElem hlt)⟩ rfl
        simp [Instr.extract, he, hlt]
      · cases h
    · cases h
  | nilCheck x =>
    simp only [evalOp] at h
    split at h
    · rename_i id i off hx
      simp only [Option.some.injEq, Prod.mk.injEq, true_and] at h
      obtain ⟨rfl, rfl⟩ := h
      have hr := hC.look x
      rw [hx] at hr
      obtain ⟨blk, sz, _, he⟩ := rep_hp hr
      refine OpOk.of_val hC hd (s := pure (a.eval x)) ⟨_, rfl, hr⟩ ?_
      simp only [execOp, he]; rfl
    · rename_i cs hx
      simp only [Option.some.injEq, Prod.mk.injEq, true_and] at h
      obtain ⟨rfl, rfl⟩ := h
      have hr := hC.look x
      rw [hx] at hr
      obtain ⟨b, o, f, he, _⟩ := rep_ref hr
      refine OpOk.of_val hC hd (s := pure (a.eval x)) ⟨_, rfl, hr⟩ ?_
      simp only [execOp, he]; rfl
    · cases h
  | load t x =>
    obtain ⟨h9, rfl⟩ := val_some h
    exact OpOk.of_val hC hd (evalLoad_sound hT hC.world (hC.look x) h9) rfl
  | store t x y =>
    obtain ⟨id, o, w', rfl, rfl, hrun, hw⟩ := evalStore_sound hT hC.world (hC.look x) (hC.look y) h
    exact OpOk.of_world hC hd (.inr ⟨by simp [execOp, hrun], rfl⟩) (GhLe.refl _) Rep.undef hw
  | alloc t =>
    simp only [evalOp, evalAlloc] at h
    split at h
    · rename_i ti d ht
      split at h
      · rename_i hod
        simp only [Option.some.injEq, Prod.mk.injEq, Bool.and_eq_true, Option.getD_none] at h
        obtain ⟨⟨⟨h0, h1⟩, h2⟩, rfl, rfl⟩ := h
        obtain ⟨i, d', hi, _, hz, _⟩ := hT.facts ht
        obtain ⟨γ', hle, hrun, hr, hw⟩ := alloc_sound (P := P) hC.world (t := t) (rep_ofConst γ ti.zero) (ti := ti) hod (hd _ rfl) (by simpa [mapTag] using h0) (Nat.eq_of_beq_eq_true h1) h2
        refine OpOk.of_world hC hd (.inl ?_) hle hr hw
        simp [execOp, Instr.alloc, run_zeroValue hi hz, hrun]
      · cases h
    · cases h
  | box t x =>
    simp only [evalOp, evalAlloc] at h
    split at h
    · rename_i ti d ht
      split at h
      · rename_i hod
        simp only [Option.some.injEq, Prod.mk.injEq, Bool.and_eq_true, Option.getD_some] at h
        obtain ⟨⟨⟨h0, h1⟩, h2⟩, rfl, rfl⟩ := h
        obtain ⟨γ', hle, hrun, hr, hw⟩ := alloc_sound (P := P) hC.world (t := t) (hC.look x) (ti := ti) hod (hd _ rfl) (by simpa [mapTag] using h0) (Nat.eq_of_beq_eq_true h1) h2
        refine OpOk.of_world hC hd (.inl ?_) hle hr hw
        simp [execOp, Instr.box, hrun]
      · cases h
    · cases h
  | makeSlice t l c =>
    simp only [evalOp] at h
    cases dst with
    | none => simp [evalMakeSlice] at h
    | some d =>
      obtain ⟨γ', own', u, w', hrun, hle, hr, hw⟩ := evalMakeSlice_sound hT hC.world (hC.look l) (hC.look c) (hd _ rfl) h
      exact OpOk.of_world hC hd (.inl (by simp [execOp, hrun])) hle hr hw
  | call c =>
    obtain ⟨callee, args, argTypes⟩ := c
    cases callee with
    | builtin b =>
      by_cases hb : b = .append
      · subst hb
        simp only [evalOp] at h
        split at h
        · rename_i s x t t2 hargs htypes
          cases htt : Nat.beq t t2 with
          | false => rw [htt] at h; cases h
          | true =>
            rw [htt] at h
            have := Nat.eq_of_beq_eq_true htt
            subst this
            simp only [cond_true] at h
            cases dst with
            | none => simp [evalAppend] at h
            | some d =>
              obtain ⟨kill, e, size, γ', own', u, w', rfl, hrun, hle, hr, hw⟩ := evalAppend_sound (ty := type) hT hC.world (hC.look s) (hC.look x) h
              refine OpOk.of_world hC hd (.inl ?_) hle hr hw
              have e1 : args = #[s, x] := by rw [← Array.toArray_toList (xs := args), hargs]
              have e2 : argTypes = #[t, t] := by rw [← Array.toArray_toList (xs := argTypes), htypes]
              subst e1; subst e2
              simp [execOp, resolve, invoke, builtin, hrun]
        · cases h
      · have h' : val (evalBuiltin T b argTypes.toList (args.toList.map st.look)) = some (true, v, eff) := by
          cases b <;> first | exact absurd rfl hb | exact h
        obtain ⟨h8, rfl⟩ := val_some h'
        obtain ⟨u, hrun, hr⟩ := evalBuiltin_sound hT w (args_rep hC args) h8 (ty := type) (consts := args.map fun | .const _ => true | _ => false)
        refine OpOk.of_world (eff := .none) hC hd (.inl ?_) (GhLe.refl _) hr hC.world
        simp only [execOp, resolve, Sem.run_bind, Sem.run_pure, Result.andThen_ok, invoke]
        rw [Array.toArray_toList, Array.toArray_toList] at hrun
        exact hrun
    | value f => simp [evalOp] at h
    | invoke r m => simp [evalOp] at h
  | _ => simp [evalOp] at h

end Go.PS

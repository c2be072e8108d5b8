/-
  Every operation of the pure layer stands for the model's own: comparisons, structs, slices, addresses, loads.
-/
import Derived.Test.YtojgjdcciojpeaaPure5
import Derived.Laws.StructEq
namespace Go.PS
open Go Go.RowKit

variable {P : Program} {T : Nat → Option TI}

theorem eqField_sound {γ : Gh} (w : World) {k : TK} {x y : PV} {b : Bool} {t : TypeId} {d : TypeDesc} (hd : P.underlying t = some d) (hk : TK.of d = k) (n : Nat) {u v : Value}
    (hx : Rep γ x u) (hy : Rep γ y v) (h : eqField k x y = some b) : (Op.equalIn (n + 1) t u v).run P w = .ok b w := by
  unfold eqField at h
  split at h
  · rename_i a c
    cases h
    rw [rep_bool hx, rep_bool hy]
    cases d <;> simp only [TK.of, reduceCtorEq] at hk
    exact run_equalIn_bool w n t _ _ hd
  · rename_i k0 k1 a k2 c
    split at h
    · rename_i hkk
      subst hkk
      cases h
      rw [rep_int hx, rep_int hy]
      cases d <;> simp only [TK.of, reduceCtorEq] at hk
      rw [run_equalIn_int w n t k1 _ a c hd, show (a == c) = decide (a = c) by rw [Bool.eq_iff_iff]; simp]
    · cases h
  · rename_i a c
    cases h
    rw [rep_str hx, rep_str hy]
    cases d <;> simp only [TK.of, reduceCtorEq] at hk
    rw [run_equalIn_string w n t _ _ hd, ba_toList, ba_toList, show (a == c) = decide (a = c) by rw [Bool.eq_iff_iff]; simp]
  · cases h

theorem eqFields_sound (hT : TabOk P T) {γ : Gh} (w : World) (n : Nat) {xs ys : List PV} {us vs : List Value} (hx : RepL γ xs us) (hy : RepL γ ys vs) :
    ∀ (fs : List Field) (b : Bool), (fs.all fun f => f.name != "_") = true → eqFields T xs ys (fs.map fun f => (f.offset, f.type)) = some b → (Op.eqFields (n + 1) us.toArray vs.toArray fs).run P w = .ok b w
  | [], b, _, h => by simp only [List.map_nil, eqFields, Option.some.injEq] at h; subst h; rfl
  | f :: fs, b, hn, h => by
    simp only [List.all_cons, Bool.and_eq_true] at hn
    simp only [List.map_cons, eqFields] at h
    split at h
    · rename_i ti x y ht hxo hyo
      split at h
      · rename_i b1 b2 h1 h2
        simp only [Option.some.injEq] at h
        subst h
        obtain ⟨i, d, hi, hd, hz, hsz, hb, hk, _⟩ := hT.facts ht
        have hname : f.name ≠ "_" := by simpa using hn.1
        have hxl : f.offset < us.length := by rw [← hx.1]; exact (List.getElem?_eq_some_iff.1 hxo).1
        have hyl : f.offset < vs.length := by rw [← hy.1]; exact (List.getElem?_eq_some_iff.1 hyo).1
        have hagg : ti.k.agg = false := by
          cases hti : ti.k <;> rw [hti] at h1 <;> simp [eqField] at h1 <;> rfl
        have p1 : (part f.type us.toArray f.offset).run P w = .ok us[f.offset] w := by
          simp [part, run_isAgg hd, hk, hagg, hxl]
        have p2 : (part f.type vs.toArray f.offset).run P w = .ok vs[f.offset] w := by
          simp [part, run_isAgg hd, hk, hagg, hyl]
        have e1 := eqField_sound w hd hk n (hx.2 _ _ _ hxo (List.getElem?_eq_getElem hxl)) (hy.2 _ _ _ hyo (List.getElem?_eq_getElem hyl)) h1
        have ih := eqFields_sound hT w n hx hy fs b2 hn.2 h2
        simp only [Op.eqFields, hname, ne_eq, not_false_eq_true, if_true, Sem.run_bind, p1, p2, e1, Result.andThen_ok]
        cases b1 <;> simp [ih]
      · cases h
    · cases h

theorem run_equalIn_fnil (w : World) (n : Nat) (t : TypeId) (f : Fn) (x y : Array Value) {a b c} (h : P.underlying t = some (.func a b c)) : (Op.equalIn (n + 1) t (.func f x y) .nilFunc).run P w = .ok false w := by
  simp [Op.equalIn, run_underlying h]
theorem run_equalIn_nilnil (w : World) (n : Nat) (t : TypeId) {a b c} (h : P.underlying t = some (.func a b c)) : (Op.equalIn (n + 1) t .nilFunc .nilFunc).run P w = .ok true w := by
  simp [Op.equalIn, run_underlying h]
/-- A function held against nil. -/
theorem eqFn_sound (hT : TabOk P T) {γ : Gh} (w : World) {op : BinOp} {t : TypeId} {u v : Value} {r : PV} (xo yo : Operand) {q : Bool}
    (hq : ∀ a b c, P.underlying t = some (.func a b c) → (Op.equal t u v).run P w = .ok q w)
    (h : (match T t, op with
      | some ⟨_, _, .func, _, _⟩, .eql => some (true, PV.d (.bool q))
      | some ⟨_, _, .func, _, _⟩, .neq => some (true, PV.d (.bool !q))
      | _, _ => none) = some (true, r)) (hu : (∃ f a b, u = .func f a b) ∨ u = .nilFunc) (hv : v = .nilFunc) : ValOk P γ w (do eqGuard op t xo yo u v; binOp op t u v) r := by
  subst hv
  split at h
  · rename_i ht
    obtain ⟨i, d, hi, hd, _, _, _, hk, _⟩ := hT.facts ht
    cases d <;> simp only [TK.of, reduceCtorEq] at hk
    cases h
    have he := hq _ _ _ hd
    refine ⟨.bool q, ?_, .d (.bool _)⟩
    rcases hu with ⟨f, a, b, rfl⟩ | rfl <;> simp [eqGuard, binOp, he]
  · rename_i ht
    obtain ⟨i, d, hi, hd, _, _, _, hk, _⟩ := hT.facts ht
    cases d <;> simp only [TK.of, reduceCtorEq] at hk
    cases h
    have he := hq _ _ _ hd
    refine ⟨.bool (!q), ?_, .d (.bool _)⟩
    rcases hu with ⟨f, a, b, rfl⟩ | rfl <;> simp [eqGuard, binOp, he]
  · cases h

theorem evalBin_sound (hT : TabOk P T) {γ : Gh} (w : World) {op : BinOp} {t : TypeId} {x y : PV} {u v : Value} {r : PV} (xo yo : Operand) (hx : Rep γ x u) (hy : Rep γ y v)
    (h : evalBin T op t x y = some (true, r)) : ValOk P γ w (do eqGuard op t xo yo u v; binOp op t u v) r := by
  unfold evalBin at h
  split at h
  · rename_i k a k' b
    split at h
    · rename_i hkk
      subst hkk
      simp only [Option.map_eq_some_iff, Prod.mk.injEq] at h
      obtain ⟨⟨c, d⟩, h1, h2, h3⟩ := h
      simp only at h2 h3
      subst h2; subst h3
      rw [rep_int hx, rep_int hy]
      obtain ⟨z, hz, hr⟩ := evalInt_sound (P := P) (γ := γ) w (xt := t) h1
      refine ⟨z, ?_, hr⟩
      have hg : (eqGuard op t xo yo (.int k a) (.int k b)).run P w = .ok () w := by cases op <;> simp [eqGuard]
      simp [hg, hz]
    · cases h
  · rename_i a b
    simp only [Option.map_eq_some_iff, Prod.mk.injEq] at h
    obtain ⟨⟨c, d⟩, h1, h2, h3⟩ := h
    simp only at h2 h3
    subst h2; subst h3
    rw [rep_str hx, rep_str hy]
    obtain ⟨z, hz, hr⟩ := evalStr_sound (P := P) (γ := γ) w (xt := t) h1
    refine ⟨z, ?_, hr⟩
    have hg : (eqGuard op t xo yo (.string ⟨a.toArray⟩) (.string ⟨b.toArray⟩)).run P w = .ok () w := by cases op <;> simp [eqGuard]
    simp [hg, hz]
  · rename_i a b
    split at h
    · rename_i ht
      obtain ⟨i, d, hi, hd, _, _, _, hk, _⟩ := hT.facts ht
      cases d <;> simp only [TK.of, reduceCtorEq] at hk
      rw [rep_bool hx, rep_bool hy]
      simp only [Option.map_eq_some_iff, Prod.mk.injEq] at h
      obtain ⟨⟨c, d⟩, h1, h2, h3⟩ := h
      simp only at h2 h3
      subst h2; subst h3
      have he : (Op.equal t (.bool a) (.bool b)).run P w = .ok (a == b) w := run_equalIn_bool w 9999 t a b hd
      cases op <;> simp only [evalBool, Option.some.injEq, Prod.mk.injEq, reduceCtorEq, true_and] at h1
      · subst h1
        exact ⟨.bool _, by simp [eqGuard, binOp, he], .d (.bool _)⟩
      · subst h1
        exact ⟨.bool _, by simp [eqGuard, binOp, he], .d (.bool _)⟩
    · cases h
  · rename_i xs ys
    split at h
    · rename_i fs z ht
      obtain ⟨i, d, hi, hd, _, _, _, hk, hes⟩ := hT.facts ht
      cases d <;> simp only [TK.of, reduceCtorEq, TK.struct.injEq] at hk
      rename_i fields
      simp only [eqSimple, hd] at hes
      have hes' := hes.symm
      simp only [Bool.and_eq_true, Bool.not_eq_true'] at hes'
      obtain ⟨⟨hst, hnames⟩, hgt⟩ := hes'
      obtain ⟨us, rfl, hxr, _⟩ := Rep.agg_iff.1 hx
      obtain ⟨vs, rfl, hyr, _⟩ := Rep.agg_iff.1 hy
      have hfo : P.fieldsOf t = fields := by simp [Program.fieldsOf, hd]
      have hst' := run_equalIn_struct (P := P) w 9999 t us.toArray vs.toArray (by rw [hfo]; exact hd) hst
      have hg := run_eqGuard_agg (P := P) w op t xo yo us.toArray vs.toArray hgt
      split at h
      · rename_i b hf
        simp only [Option.some.injEq, Prod.mk.injEq, true_and] at h
        subst h
        rw [← hk] at hf
        have he := eqFields_sound hT w 9998 hxr hyr fields.toList b hnames hf
        refine ⟨.bool b, ?_, .d (.bool b)⟩
        rw [Sem.run_bind, hg, Result.andThen_ok, run_eql_struct, hst', hfo, he]
        rfl
      · rename_i b hf
        simp only [Option.some.injEq, Prod.mk.injEq, true_and] at h
        subst h
        rw [← hk] at hf
        have he := eqFields_sound hT w 9998 hxr hyr fields.toList b hnames hf
        refine ⟨.bool (!b), ?_, .d (.bool _)⟩
        rw [Sem.run_bind, hg, Result.andThen_ok, run_neq_struct, hst', hfo, he]
        rfl
      · cases h
    · cases h
  · rename_i f a b
    have hy' : v = .nilFunc := by cases hy with | d h => cases h; rfl
    obtain ⟨vf, vc, rfl⟩ : ∃ vf vc, u = .func f vf vc := by cases hx; exact ⟨_, _, rfl⟩
    subst hy'
    exact eqFn_sound (q := false) hT w xo yo (fun _ _ _ hd => run_equalIn_fnil w 9999 t _ _ _ hd) h (.inl ⟨_, _, _, rfl⟩) rfl
  · rename_i f a b
    have hy' : v = .nilFunc := by cases hy with | d h => cases h; rfl
    obtain ⟨vf, vc, rfl⟩ : ∃ vf vc, u = .func f vf vc := by cases hx with | d h => cases h; exact ⟨_, _, rfl⟩
    subst hy'
    exact eqFn_sound (q := false) hT w xo yo (fun _ _ _ hd => run_equalIn_fnil w 9999 t _ _ _ hd) h (.inl ⟨_, _, _, rfl⟩) rfl
  · have hx' : u = .nilFunc := by cases hx with | d h => cases h; rfl
    have hy' : v = .nilFunc := by cases hy with | d h => cases h; rfl
    subst hx'; subst hy'
    exact eqFn_sound (q := true) hT w xo yo (fun _ _ _ hd => run_equalIn_nilnil w 9999 t hd) h (.inr rfl) rfl
  · cases h

theorem evalUn_sound {γ : Gh} (w : World) {op : UnOp} {x r : PV} {u : Value} (hx : Rep γ x u) (h : evalUn op x = some (true, r)) : ValOk P γ w (Op.unary op u) r := by
  unfold evalUn at h
  split at h
  · split at h
    · cases h; rw [rep_bool hx]; exact ⟨.bool _, by simp [Op.unary], .d (.bool _)⟩
    · cases h
  · split at h
    · rename_i k n _
      simp only [Option.some.injEq, Prod.mk.injEq] at h
      obtain ⟨h1, rfl⟩ := h
      rw [rep_int hx]; exact ⟨.int k (0 - n), by simp only [Op.unary, Op.intArith, wrap_id h1, Sem.run_pure], .d (.int _ _)⟩
    · cases h
  · cases h

/-! ### Structs -/

theorem setSub_len (l : List PV) (off : Nat) : ∀ cs : List PV, (setSub l off cs).length = l.length
  | [] => rfl
  | c :: cs => by rw [setSub, setSub_len _ _ cs]; simp
  termination_by cs => cs.length

theorem RepL.set {γ : Gh} {cs : List PV} {vs : List Value} (h : RepL γ cs vs) (i : Nat) {c : PV} {v : Value} (hc : Rep γ c v) : RepL γ (cs.set i c) (vs.set i v) :=
  ⟨by simp [h.1], fun j c' v' h1 h2 => by
    rw [List.getElem?_set] at h1 h2
    by_cases hij : i = j
    · subst hij
      rw [if_pos rfl] at h1 h2
      split at h1
      · split at h2
        · cases h1; cases h2; exact hc
        · cases h2
      · cases h1
    · rw [if_neg hij] at h1 h2
      exact h.2 j c' v' h1 h2⟩

/-- What the model's fold writes. -/
theorem fold_set (off : Nat) : ∀ (vs : List Value) (k : Nat) (cs : Array Value), ((vs.zipIdx k).foldl (fun cs (x : Value × Nat) => cs.setIfInBounds (off + x.2) x.1) cs) = (vs.zipIdx k).foldl (fun cs (x : Value × Nat) => cs.setIfInBounds (off + x.2) x.1) cs := fun _ _ _ => rfl

def setSubV (l : List Value) (off : Nat) : List Value → List Value
  | [] => l
  | c :: cs => setSubV (l.set off c) (off + 1) cs

theorem foldl_setSubV (off : Nat) : ∀ (vs : List Value) (k : Nat) (cs : Array Value),
    ((vs.zipIdx k).foldl (fun (cs : Array Value) (x : Value × Nat) => cs.setIfInBounds (off + x.2) x.1) cs) = (setSubV cs.toList (off + k) vs).toArray
  | [], k, cs => by simp [setSubV]
  | v :: vs, k, cs => by
    simp only [List.zipIdx_cons, List.foldl_cons]
    rw [foldl_setSubV off vs (k + 1) _]
    simp [setSubV, Nat.add_assoc]

theorem RepL.setSub {γ : Gh} : ∀ {us : List Value} {xs : List PV} {cs : List PV} {vs : List Value} (off : Nat), RepL γ cs vs → RepL γ xs us → RepL γ (PS.setSub cs off xs) (setSubV vs off us)
  | [], xs, cs, vs, off, h, hx => by
    have : xs = [] := List.eq_nil_of_length_eq_zero (by simpa using hx.1)
    subst this
    exact h
  | u :: us, xs, cs, vs, off, h, hx => by
    cases xs with
    | nil => have := hx.1; simp at this
    | cons x xs =>
      obtain ⟨v, vs', e, h1, h2⟩ := hx.cons_inv
      cases e
      exact RepL.setSub (off + 1) (h.set off h1) h2

theorem setSubV_mem {p : Value → Prop} : ∀ {us vs : List Value} (off : Nat), (∀ v ∈ vs, p v) → (∀ u ∈ us, p u) → ∀ v ∈ setSubV vs off us, p v
  | [], vs, off, h, _ => h
  | u :: us, vs, off, h, hu => setSubV_mem (off + 1) (fun v hv => by
      rcases List.mem_or_eq_of_mem_set hv with h' | h'
      · exact h v h'
      · subst h'; exact hu _ (by simp)) (fun x hx => hu x (by simp [hx]))

theorem setSubV_len : ∀ (us vs : List Value) (off : Nat), (setSubV vs off us).length = vs.length
  | [], vs, off => rfl
  | u :: us, vs, off => by rw [setSubV, setSubV_len us]; simp

theorem fillP_sound {γ : Gh} (place : Nat → Option (Nat × Nat)) : ∀ {parts : List (Nat × PV)} {vparts : List (Nat × Value)} {cells r : List PV} {vs : List Value},
    parts.length = vparts.length → (∀ (i : Nat) (p : Nat × PV) (q : Nat × Value), parts[i]? = some p → vparts[i]? = some q → p.1 = q.1 ∧ Rep γ p.2 q.2) →
    RepL γ cells vs → (∀ v ∈ vs, v.oneCell' = true) → fillP place cells parts = some r →
    ∃ us : List Value, Instr.fill place vs.toArray vparts = some us.toArray ∧ RepL γ r us ∧ (∀ v ∈ us, v.oneCell' = true) ∧ us.length = vs.length
  | [], vparts, cells, r, vs, hl, _, hr, h1, h => by
    have : vparts = [] := List.eq_nil_of_length_eq_zero (by simpa using hl.symm)
    subst this
    simp only [fillP, Option.some.injEq] at h
    subst h
    exact ⟨vs, rfl, hr, h1, rfl⟩
  | (i, x) :: parts, vparts, cells, r, vs, hl, hp, hr, h1, h => by
    cases vparts with
    | nil => simp at hl
    | cons q vparts =>
      obtain ⟨j, v⟩ := q
      obtain ⟨hij, hxv⟩ := hp 0 (i, x) (j, v) rfl rfl
      simp only at hij hxv
      subst hij
      simp only [fillP] at h
      cases hpl : place i with
      | none => simp [hpl] at h
      | some os =>
        obtain ⟨off, size⟩ := os
        simp only [hpl] at h
        cases hc : (Nat.beq x.cells.length size && Nat.ble (off + size) cells.length && x.cells.all PV.cell) with
        | false => simp [hc] at h
        | true =>
          simp only [hc, cond_true] at h
          simp only [Bool.and_eq_true] at hc
          obtain ⟨⟨hc1, hc2⟩, hc3⟩ := hc
          have hsz := Nat.eq_of_beq_eq_true hc1
          have hle := Nat.le_of_ble_eq_true hc2
          obtain ⟨hrc, h1c⟩ := hxv.cells hc3
          have hvs : v.cells.size = size := by rw [← Array.length_toList, ← hrc.1]; exact hsz
          obtain ⟨us, hu, h2, h3, h4⟩ := fillP_sound place (by simpa using hl) (fun k p q hk hq => hp (k + 1) p q (by simpa using hk) (by simpa using hq)) (hr.setSub off hrc) (setSubV_mem off h1 h1c) h
          refine ⟨us, ?_, h2, h3, by rw [h4, setSubV_len]⟩
          have hno : ¬ (v.cells.size ≠ size ∨ off + v.cells.size > vs.length) := by
            rw [← hr.1, hvs]; omega
          have hf := foldl_setSubV off v.cells.toList 0 vs.toArray
          simp only [Nat.add_zero] at hf
          simp only [Instr.fill, hpl]
          rw [if_neg (by simpa using hno)]
          rw [← hu]
          congr 1
          rw [← hf, ← Array.toList_zipIdx, Array.foldl_toList]

theorem placesOf_run (hT : TabOk P T) (w : World) : ∀ (fs : List Field) (ps : List (Nat × Nat)), placesOf T (fs.map fun f => (f.offset, f.type)) = some ps →
    (fs.mapM (fun f => do pure (f.offset, ← sizeOf f.type) : Field → Sem (Nat × Nat))).run P w = .ok ps w
  | [], ps, h => by simp only [List.map_nil, placesOf, Option.some.injEq] at h; subst h; rfl
  | f :: fs, ps, h => by
    simp only [List.map_cons, placesOf] at h
    split at h
    · rename_i ti r ht hr
      simp only [Option.some.injEq] at h
      subst h
      obtain ⟨i, d, hi, hd, hz, hs, _⟩ := hT.facts ht
      have ih := placesOf_run hT w fs r hr
      simp only [List.mapM_cons, Sem.run_bind, run_sizeOf hi, Result.andThen_ok, Sem.run_pure, ih, hs]
    · cases h

theorem evalBuild_sound (hT : TabOk P T) {γ : Gh} (w : World) {t : TypeId} {parts : List (Nat × PV)} {vparts : Array (Nat × Value)} {r : PV} (hl : parts.length = vparts.toList.length)
    (hp : ∀ (i : Nat) (p : Nat × PV) (q : Nat × Value), parts[i]? = some p → vparts.toList[i]? = some q → p.1 = q.1 ∧ Rep γ p.2 q.2) (h : evalBuild T t parts = some r) : ValOk P γ w (Instr.build t vparts) r := by
  unfold evalBuild at h
  split at h
  · rename_i fs z e ht
    obtain ⟨i, d, hi, hd, hz, hs, _, hk, _⟩ := hT.facts ht
    cases d <;> simp only [TK.of, reduceCtorEq, TK.struct.injEq] at hk
    rename_i fields
    split at h
    · rename_i ps zc hps hzc
      simp only [Option.map_eq_some_iff] at h
      obtain ⟨cells, hf, rfl⟩ := h
      rw [← hk] at hps
      have hrz := rep_ofConst γ z
      rw [hzc] at hrz
      obtain ⟨vs, rfl, hrz, h1z⟩ := Rep.agg_iff.1 hrz
      obtain ⟨us, hu, h2, h3, _⟩ := fillP_sound (fun i => ps[i]?) hl hp hrz h1z hf
      refine ⟨.agg us.toArray, ?_, Rep.agg_iff.2 ⟨us, rfl, h2, h3⟩⟩
      have hpl := placesOf_run hT w fields.toList ps hps
      have hpl' : (fields.mapM (fun f => do pure (f.offset, ← sizeOf f.type) : Field → Sem (Nat × Nat))).run P w = .ok ps.toArray w := by
        rw [Array.mapM_eq_mapM_toList, Sem.run_map, hpl]
        rfl
      have hu' : Instr.fill (fun x => ps.toArray[x]?) vs.toArray vparts.toList = some us.toArray := by simpa using hu
      simp only [Instr.build, Sem.run_bind, run_zeroValue hi hz, Result.andThen_ok, run_underlying hd, hpl', Value.cells, hu', Sem.run_pure]
    · cases h
  · rename_i n e z es ht
    obtain ⟨i, d, hi, hd, hz, hs, _, hk, _⟩ := hT.facts ht
    cases d <;> simp only [TK.of, reduceCtorEq, TK.array.injEq] at hk
    obtain ⟨rfl, rfl⟩ := hk
    split at h
    · rename_i te zc hte hzc
      simp only [Option.map_eq_some_iff] at h
      obtain ⟨cells, hf, rfl⟩ := h
      obtain ⟨i', d', hi', hd', hz', hs', _⟩ := hT.facts hte
      have hrz := rep_ofConst γ z
      rw [hzc] at hrz
      obtain ⟨vs, rfl, hrz, h1z⟩ := Rep.agg_iff.1 hrz
      obtain ⟨us, hu, h2, h3, _⟩ := fillP_sound (fun i => some (i * te.size, te.size)) hl hp hrz h1z hf
      refine ⟨.agg us.toArray, ?_, Rep.agg_iff.2 ⟨us, rfl, h2, h3⟩⟩
      simp only [Instr.build, Sem.run_bind, run_zeroValue hi hz, Result.andThen_ok, run_underlying hd, run_sizeOf hi', hs', Value.cells, hu, Sem.run_pure]
    · cases h
  · cases h

end Go.PS

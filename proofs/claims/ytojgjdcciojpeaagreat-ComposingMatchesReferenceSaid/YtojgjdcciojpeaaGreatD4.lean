/-
  A part of the walks of this seat: each theorem says what a function of the program gives. No condition beyond its own premises.
-/
import Derived.MapKept
import Derived.Laws.RangeString
import Derived.Laws.BytesString
import Derived.Laws.Cells
import Derived.Test.YtojgjdcciojpeaaGreatD3
namespace Go.PS
open Go Go.RowKit Go.MapKept

variable {P : Program} {T : Nat → Option TI}
variable {E : Env} {γ : Gh} {own : Nat → Option Nat} {ob : Nat → Option OB} {tk : Nat → TS} {w : World}

theorem isKey_of {γ : Gh} {d : TypeDesc} {key : D} {kv : Value} (h : RepD γ.K key kv) (hk : keyOk (TK.of d) key = true) : IsKey d kv := by
  cases d <;> cases key <;> simp only [TK.of, keyOk, Bool.false_eq_true, decide_eq_true_eq] at hk <;> cases h <;> first | exact trivial | exact hk

theorem key_same {γ : Gh} {d : TypeDesc} {key k : D} {kv ku : Value} (h : RepD γ.K key kv) (h' : RepD γ.K k ku) (hk : keyOk (TK.of d) key = true) {r : Bool} (he : eqKey k key = some r) :
    Instr.sameNow d kv ku = some r ∧ (r = true → ku = kv) := by
  cases d <;> cases key <;> simp only [TK.of, keyOk, Bool.false_eq_true, decide_eq_true_eq] at hk <;> cases k <;> simp only [eqKey, reduceCtorEq] at he <;> cases h <;> cases h'
  · rename_i a b
    simp only [Option.some.injEq] at he
    subst he
    cases a <;> cases b <;> simp [Instr.sameNow]
  · rename_i k1 k2 a k3 b
    subst hk
    split at he
    · rename_i hkk
      subst hkk
      simp only [Option.some.injEq] at he
      subst he
      refine ⟨?_, fun h => by rw [of_decide_eq_true h]⟩
      have : (a == b) = decide (b = a) := by
        by_cases h : b = a
        · subst h; simp
        · simp [h, Ne.symm h]
      simp [Instr.sameNow, this]
    · cases he
  · rename_i a b
    simp only [Option.some.injEq] at he
    subst he
    refine ⟨?_, fun h => by rw [of_decide_eq_true h]⟩
    have : ((⟨a.toArray⟩ : ByteArray) == ⟨b.toArray⟩) = decide (b = a) := by
      by_cases h : b = a
      · subst h; simp [bytes_beq]
      · have : ¬ ((⟨a.toArray⟩ : ByteArray) == ⟨b.toArray⟩) = true := fun hh => h (by
          have := (bytes_beq _ _).1 hh
          injection this with this
          have := congrArg Array.toList this
          simpa using this.symm)
        simp [h, this]
    simp only [Instr.sameNow, this]

/-- A key among the entries. -/
theorem findP_sound {γ : Gh} {d : TypeDesc} {key : D} {kv : Value} (h : RepD γ.K key kv) (hk : keyOk (TK.of d) key = true) : ∀ (els : List PV) (cs : List Value) (n i : Nat), RepL γ (flat els) cs →
    (findP key els = some none → Instr.findNow d kv (entriesOf n cs) i = some none) ∧
    (∀ j v, findP key els = some (some (j, v)) → ∃ u, Instr.findNow d kv (entriesOf n cs) i = some (some (i + j, u)) ∧ Rep γ v u ∧ (entriesOf n cs)[j]? = some ⟨kv, u, n + j⟩)
  | [], cs, n, i, hr => by
    have : cs = [] := List.eq_nil_of_length_eq_zero (by simpa [flat] using hr.1.symm)
    subst this
    exact ⟨fun _ => rfl, fun j v h => by simp [findP] at h⟩
  | e :: r, cs, n, i, hr => by
    have hform : ∀ x, findP key (e :: r) = some x → ∃ k v, e = .agg [.d k, v] ∧ (∃ b, eqKey k key = some b) := by
      intro x hx
      unfold findP at hx
      split at hx
      · rename_i heq; cases heq
      · rename_i k v r' heq
        simp only [List.cons.injEq] at heq
        obtain ⟨rfl, rfl⟩ := heq
        refine ⟨k, v, rfl, ?_⟩
        split at hx
        · rename_i he; exact ⟨_, he⟩
        · rename_i he; exact ⟨_, he⟩
        · cases hx
      · cases hx
    have main : ∀ k v, e = .agg [.d k, v] → ∀ b, eqKey k key = some b →
        (findP key (e :: r) = some none → Instr.findNow d kv (entriesOf n cs) i = some none) ∧
        (∀ j v, findP key (e :: r) = some (some (j, v)) → ∃ u, Instr.findNow d kv (entriesOf n cs) i = some (some (i + j, u)) ∧ Rep γ v u ∧ (entriesOf n cs)[j]? = some ⟨kv, u, n + j⟩) := by
      intro k v he b hb
      subst he
      have hfl : flat (PV.agg [.d k, v] :: r) = PV.d k :: v :: flat r := by simp [flat, PV.cells]
      rw [hfl] at hr
      obtain ⟨ku, cs1, rfl, hk1, hr1⟩ := hr.cons_inv
      obtain ⟨vu, cs2, rfl, hv1, hr2⟩ := hr1.cons_inv
      have hkk : RepD γ.K k ku := by cases hk1 with | d h => exact h
      obtain ⟨hs, hs2⟩ := key_same h hkk hk hb
      have ih := findP_sound h hk r cs2 (n + 1) (i + 1) hr2
      cases b with
      | true =>
        obtain rfl := hs2 rfl
        refine ⟨fun hx => by simp [findP, hb] at hx, fun j v' hx => ?_⟩
        simp only [findP, hb, Option.some.injEq, Prod.mk.injEq] at hx
        obtain ⟨rfl, rfl⟩ := hx
        exact ⟨vu, by simp [entriesOf, Instr.findNow, hs], hv1, by simp [entriesOf]⟩
      | false =>
        refine ⟨fun hx => ?_, fun j v' hx => ?_⟩
        · simp only [findP, hb] at hx
          split at hx
          · rename_i h9
            simp [entriesOf, Instr.findNow, hs, ih.1 h9]
          · cases hx
          · cases hx
        · simp only [findP, hb] at hx
          split at hx
          · cases hx
          · rename_i j' u' h9
            simp only [Option.some.injEq, Prod.mk.injEq] at hx
            obtain ⟨rfl, rfl⟩ := hx
            obtain ⟨u, h1, h2, h3⟩ := ih.2 _ _ h9
            refine ⟨u, ?_, h2, ?_⟩
            · simp only [entriesOf, Instr.findNow, hs, h1]; congr 3; omega
            · simp only [entriesOf, List.getElem?_cons_succ, h3]; congr 2; omega
          · cases hx
    refine ⟨fun hx => ?_, fun j v hx => ?_⟩
    · obtain ⟨k, v, he, b, hb⟩ := hform _ hx
      exact (main k v he b hb).1 hx
    · obtain ⟨k, v', he, b, hb⟩ := hform _ hx
      exact (main k v' he b hb).2 j v hx

theorem pairsP_rep {γ : Gh} : ∀ (kvs : List D) (vs : List Value), RepDL γ.K kvs vs → ∃ vs', RepL γ (flat (pairsP kvs)) vs' ∧ ∀ n, entriesOf n vs' = entriesOf n vs
  | [], vs, h => by
    have : vs = [] := List.eq_nil_of_length_eq_zero (by simpa using h.1.symm)
    subst this; exact ⟨[], .nil, fun _ => rfl⟩
  | [x], vs, h => by
    obtain ⟨v, vs', rfl, h1, h2⟩ := h.cons_inv
    have : vs' = [] := List.eq_nil_of_length_eq_zero (by simpa using h2.1.symm)
    subst this; exact ⟨[], .nil, fun _ => rfl⟩
  | k :: v :: r, vs, h => by
    obtain ⟨ku, vs1, rfl, h1, h2⟩ := h.cons_inv
    obtain ⟨vu, vs2, rfl, h3, h4⟩ := h2.cons_inv
    obtain ⟨vs', h5, h6⟩ := pairsP_rep r vs2 h4
    refine ⟨ku :: vu :: vs', ?_, fun n => by simp [entriesOf, h6]⟩
    have hfl : flat (pairsP (k :: v :: r)) = PV.d k :: PV.d v :: flat (pairsP r) := by simp [pairsP, flat, PV.cells]
    rw [hfl]
    exact .cons (.d h1) (.cons (.d h3) h5)

theorem pairs_even : ∀ (n : Nat) (cs : List Value), cs.length = 2 * n → (entriesOf 0 cs).length = n := by
  have key : ∀ (n k : Nat) (cs : List Value), cs.length = 2 * n → (entriesOf k cs).length = n := by
    intro n
    induction n with
    | zero => intro k cs h; have : cs = [] := List.eq_nil_of_length_eq_zero (by simpa using h); subst this; rfl
    | succ n ih =>
      intro k cs h
      match cs with
      | a :: b :: r => simp only [entriesOf, List.length_cons]; rw [ih (k + 1) r (by simp at h; omega)]
      | [a] => simp at h; omega
      | [] => simp at h
  exact fun n cs h => key n 0 cs h

theorem entries_append : ∀ (n k : Nat) (cs : List Value) (a b : Value), cs.length = 2 * n → entriesOf k (cs ++ [a, b]) = entriesOf k cs ++ [⟨a, b, k + n⟩]
  | 0, k, cs, a, b, h => by
    have : cs = [] := List.eq_nil_of_length_eq_zero (by simpa using h)
    subst this; rfl
  | n + 1, k, cs, a, b, h => by
    match cs with
    | x :: y :: r =>
      have ih := entries_append n (k + 1) r a b (by simp at h; omega)
      simp only [List.cons_append, entriesOf, ih]
      congr 2
      simp; omega
    | [x] => simp at h; omega
    | [] => simp at h

theorem entries_set : ∀ (j n k : Nat) (cs : List Value) (a b : Value), cs.length = 2 * n → j < n → entriesOf k ((cs.set (2 * j) a).set (2 * j + 1) b) = (entriesOf k cs).set j ⟨a, b, k + j⟩
  | 0, n, k, cs, a, b, h, hj => by
    match cs with
    | x :: y :: r => simp [entriesOf]
    | [x] => simp at h; omega
    | [] => simp at h; omega
  | j + 1, n + 1, k, cs, a, b, h, hj => by
    match cs with
    | x :: y :: r =>
      have ih := entries_set j n (k + 1) r a b (by simp at h; omega) (by omega)
      have e1 : 2 * (j + 1) = 2 * j + 1 + 1 := by omega
      have e2 : 2 * (j + 1) + 1 = 2 * j + 1 + 1 + 1 := by omega
      rw [e2, e1]
      simp only [List.set_cons_succ, entriesOf, ih]
      congr 2
      simp; omega
    | [x] => simp at h; omega
    | [] => simp at h
  | _ + 1, 0, _, _, _, _, _, hj => by omega

/-- What a map's value stands for. -/
theorem mapElems_rep (hw : ConcW E γ own ob tk w) {m : PV} {mv : Value} {els : List PV} (hm : Rep γ m mv) (h : mapElems m ob = some els) :
    (mv = .map none ∧ els = []) ∨ ∃ b cs, mv = .map (some b) ∧ w.heap[b]? = some (mapObj cs) ∧ ∃ cs', RepL γ (flat els) cs' ∧ ∀ n, entriesOf n cs' = entriesOf n cs := by
  unfold mapElems at h
  split at h
  · rename_i id
    split at h
    · rename_i o ho
      cases hb : Nat.beq o.ty 4000000000 with
      | false => rw [hb] at h; cases h
      | true =>
        rw [hb] at h
        simp only [cond_true, Option.some.injEq] at h
        subst h
        obtain ⟨blk, cs, hmb, hok⟩ := hw.obj id o ho
        obtain ⟨spare, hheap⟩ := hok.heap
        cases hm with
        | hmap hg =>
          rw [hmb] at hg; cases hg
          have : Nat.beq o.ty mapTag = true := hb
          simp only [objOf, this, cond_true] at hheap
          exact .inr ⟨blk, cs.toList, rfl, hheap, cs.toList, hok.rep, fun _ => rfl⟩
    · cases h
  · rename_i kvs
    simp only [Option.some.injEq] at h
    subst h
    cases hm with
    | d hm =>
      cases hm with
      | map _ b vs hk hl hr =>
        have := hw.ksub _ _ _ hk
        simp only [Held] at this
        obtain ⟨vs', h1, h2⟩ := pairsP_rep (γ := γ) kvs vs ⟨hl, hr⟩
        exact .inr ⟨b, vs, rfl, by simpa using this, vs', h1, h2⟩
  · simp only [Option.some.injEq] at h
    subst h
    cases hm with
    | d hm => cases hm; exact .inl ⟨rfl, rfl⟩
  · cases h

theorem evalLookup_sound (hT : TabOk P T) (hw : ConcW E γ own ob tk w) {t : TypeId} {m k v : PV} {mv kv : Value} {ok : Bool} (hm : Rep γ m mv) (hk : Rep γ k kv) (h : evalLookup T t m k ok ob = some (true, v)) :
    ValOk P γ w (Instr.lookup t mv kv ok) v := by
  unfold evalLookup at h
  split at h
  · rename_i kt et z es key els ht hels
    obtain ⟨inf, d, hinf, hd, _, _, _, hkd, _⟩ := hT.facts ht
    cases d <;> simp only [TK.of, reduceCtorEq, TK.map.injEq] at hkd
    obtain ⟨hkd1, hkd2⟩ := hkd
    rw [hkd1, hkd2] at hd
    have hkr : RepD γ.K key kv := by cases hk with | d h => exact h
    have main : ∀ (tk0 te : TI), T kt = some tk0 → T et = some te → ∀ r, findP key els = some r → keyOk tk0.k key = true →
        ∃ u b, (Instr.lookup t mv kv ok).run P w = .ok (if ok then .tuple #[u, .bool b] else u) w ∧ b = r.isSome ∧ Rep γ (match r with | some (_, v) => v | none => ofConst te.zero) u := by
      intro tk0 te htk hte r hf hko
      obtain ⟨i0, d0, _, hd0, _, _, _, hk0, _⟩ := hT.facts htk
      obtain ⟨i1, d1, hi1, _, hz1, _, _, _, _⟩ := hT.facts hte
      rw [← hk0] at hko
      have hik := isKey_of hkr hko
      have hz := run_zeroValue (P := P) (w := w) hi1 hz1
      have fin : ∀ (b : Option Nat) (esl : List MapEntry) (clock : Nat), mv = .map b → (b = none ∧ esl = [] ∨ ∃ b', b = some b' ∧ w.heap[b']? = some (.map esl.toArray clock)) → ∀ rr, Instr.findNow d0 kv esl 0 = some rr →
          (Instr.lookup t mv kv ok).run P w = .ok (if ok then .tuple #[(match rr with | some (_, u) => u | none => te.zero), .bool rr.isSome] else (match rr with | some (_, u) => u | none => te.zero)) w := by
        intro b esl clock hmv hb rr hfn
        subst hmv
        have hck : ∀ e, (Instr.checkKey e 10000 kt kv).run P w = .ok () w := fun e => run_checkKey hd0 hik e 9999
        have hfk : (Instr.findKey kt kv esl).run P w = .ok rr w := run_findKey hd0 hfn
        rcases hb with ⟨rfl, rfl⟩ | ⟨b', rfl, hheap⟩
        · cases rr with
          | none => simp [Instr.lookup, run_underlying hd, hck, hfk, hz, Result.andThen]
          | some x => simp [Instr.findNow] at hfn
        · have hgo := MapKept.run_getObj_map (P := P) hheap
          cases rr with
          | none => cases ok <;> simp [Instr.lookup, run_underlying hd, hgo, hck, hfk, hz, Result.andThen]
          | some x => obtain ⟨x1, x2⟩ := x; cases ok <;> simp [Instr.lookup, run_underlying hd, hgo, hck, hfk, hz, Result.andThen]
      rcases mapElems_rep hw hm hels with ⟨rfl, rfl⟩ | ⟨b, cs, rfl, hheap, cs', hrep, hent⟩
      · simp only [findP, Option.some.injEq] at hf
        subst hf
        refine ⟨te.zero, false, ?_, rfl, rep_ofConst γ _⟩
        have := fin none [] 0 rfl (.inl ⟨rfl, rfl⟩) none rfl
        simpa using this
      · obtain ⟨f1, f2⟩ := findP_sound (d := d0) hkr hko els cs' 0 0 hrep
        rw [hent] at f1 f2
        cases r with
        | none =>
          refine ⟨te.zero, false, ?_, rfl, rep_ofConst γ _⟩
          have := fin (some b) _ _ rfl (.inr ⟨b, rfl, hheap⟩) none (f1 hf)
          simpa using this
        | some x =>
          obtain ⟨j, v0⟩ := x
          obtain ⟨u, h1, h2, h3⟩ := f2 j v0 hf
          refine ⟨u, true, ?_, rfl, h2⟩
          have := fin (some b) _ _ rfl (.inr ⟨b, rfl, hheap⟩) _ h1
          simpa using this
    split at h
    · rename_i tk0 te htk hte hf
      simp only [Option.some.injEq, Prod.mk.injEq] at h
      obtain ⟨hko, rfl⟩ := h
      obtain ⟨u, b, hrun, hb, hr⟩ := main tk0 te htk hte none hf hko
      subst hb
      refine ⟨_, hrun, ?_⟩
      cases ok with
      | true => exact Rep.tup_iff.2 ⟨[_, _], rfl, .cons hr (.cons (.d (.bool _)) .nil)⟩
      | false => exact hr
    · rename_i tk0 te j v0 htk hte hf
      simp only [Option.some.injEq, Prod.mk.injEq] at h
      obtain ⟨hko, rfl⟩ := h
      obtain ⟨u, b, hrun, hb, hr⟩ := main tk0 _ htk hte _ hf hko
      subst hb
      refine ⟨_, hrun, ?_⟩
      cases ok with
      | true => exact Rep.tup_iff.2 ⟨[_, _], rfl, .cons hr (.cons (.d (.bool _)) .nil)⟩
      | false => exact hr
    · cases h
  · cases h

theorem evalMakeMap_sound (hw : ConcW E γ own ob tk w) {dst : Option Nat} {t : TypeId} {v : PV} {eff : HEff} (hd : ∀ d, dst = some d → d < E.n) (h : evalMakeMap dst ob = some (true, v, eff)) :
    ∃ γ' u w', (Instr.makeMap t none).run P w = .ok u w' ∧ GhLe γ γ' ∧ Rep γ' v u ∧ ConcW E γ' own (eff.obA ob) (eff.tkA tk) w' := by
  unfold evalMakeMap at h
  split at h
  · rename_i d
    split at h
    · rename_i hod
      simp only [Option.some.injEq, Prod.mk.injEq, true_and] at h
      obtain ⟨rfl, rfl⟩ := h
      obtain ⟨γ', hle, hm, hw'⟩ := hw.newObj hod (hd d rfl) (o := ⟨4000000000, 2, []⟩) (cs := #[]) .nil (by simp) (by simp)
      refine ⟨γ', _, _, rfl, hle, .hmap hm, hw'⟩
    · cases h
  · cases h

theorem evalMapUpdate_sound (hT : TabOk P T) (hw : ConcW E γ own ob tk w) {t : TypeId} {m k x v : PV} {mv kv xv : Value} {eff : HEff} (hm : Rep γ m mv) (hk : Rep γ k kv) (hx : Rep γ x xv) (h : evalMapUpdate T t m k x ob = some (true, v, eff)) :
    ∃ id o w', v = .tup [] ∧ eff = .obj id o ∧ (Instr.mapUpdate t mv kv xv).run P w = .ok () w' ∧ ConcW E γ own (upd ob id (some o)) tk w' := by
  unfold evalMapUpdate at h
  split at h
  · rename_i kt et z es id key ht
    obtain ⟨inf, d, hinf, hd, _, _, _, hkd, _⟩ := hT.facts ht
    cases d <;> simp only [TK.of, reduceCtorEq, TK.map.injEq] at hkd
    obtain ⟨hkd1, hkd2⟩ := hkd
    rw [hkd1, hkd2] at hd
    split at h
    · rename_i tk0 o htk ho
      obtain ⟨i0, d0, _, hd0, _, _, _, hk0, _⟩ := hT.facts htk
      have hkr : RepD γ.K key kv := by cases hk with | d h => exact h
      obtain ⟨blk, cs, hmb, hok⟩ := hw.obj id o ho
      obtain ⟨spare, hheap⟩ := hok.heap
      cases hm with
      | hmap hg =>
      rw [hmb] at hg; cases hg
      have common : ∀ (els' : List PV), (keyOk tk0.k key && x.cell && Nat.beq o.ty 4000000000 && Nat.beq o.sz 2) = true →
          (∀ (hko : keyOk (TK.of d0) key = true) (hh : w.heap[blk]? = some (mapObj cs.toList)), ∃ cs' : List Value, (Instr.mapUpdate t (.map (some blk)) kv xv).run P w = .ok () { w with heap := w.heap.setIfInBounds blk (mapObj cs') } ∧ RepL γ (flat els') cs' ∧ (∀ u ∈ cs', u.oneCell' = true) ∧ ∀ e ∈ els', e.cells.length = 2) →
          ∃ w', (Instr.mapUpdate t (.map (some blk)) kv xv).run P w = .ok () w' ∧ ConcW E γ own (upd ob id (some ⟨o.ty, o.sz, els'⟩)) tk w' := by
        intro els' hc hstep
        simp only [Bool.and_eq_true] at hc
        obtain ⟨⟨⟨hko, hxc⟩, hty⟩, hsz⟩ := hc
        have hty' : Nat.beq o.ty mapTag = true := hty
        have hh := hheap
        simp only [objOf, hty', cond_true] at hh
        rw [← hk0] at hko
        obtain ⟨cs', hrun, hrep, h1, hs2⟩ := hstep hko hh
        refine ⟨_, hrun, hw.setObj ho hmb hok (o' := ⟨o.ty, o.sz, els'⟩) rfl (cs' := cs'.toArray) (by simpa using hrep) (by simpa using h1) (fun e he => by rw [hs2 e he]; exact (Nat.eq_of_beq_eq_true hsz).symm) (spare := #[])
          (by rw [(heap_set (o' := mapObj cs') hh).1]; simp [objOf, hty']) (fun k hk => (heap_set hh).2 k hk) rfl rfl rfl (by simp)⟩
      have hlen : Nat.beq o.sz 2 = true → cs.toList.length = 2 * o.elems.length := fun hs => by
        have h2 := Nat.eq_of_beq_eq_true hs
        rw [← hok.rep.1]
        have := flatMap_len PV.cells o.sz o.elems hok.size
        rw [flat, this, h2]; omega
      split at h
      · rename_i hf
        simp only [Option.some.injEq, Prod.mk.injEq] at h
        obtain ⟨hc, rfl, rfl⟩ := h
        have hc' := hc
        simp only [Bool.and_eq_true] at hc'
        obtain ⟨⟨⟨_, hxc⟩, _⟩, hsz⟩ := hc'
        obtain ⟨w', h1, h2⟩ := common _ hc (fun hko hh => by
          have hik := isKey_of hkr hko
          have hfn := (findP_sound (d := d0) hkr hko o.elems cs.toList 0 0 hok.rep).1 hf
          refine ⟨cs.toList ++ [kv, xv], ?_, ?_, ?_, ?_⟩
          · have hgo := MapKept.run_getObj_map (P := P) hh
            have hck := MapKept.run_checkKey (P := P) (w := w) hd0 hik false 9999
            have hfk : (Instr.findKey kt kv (entriesOf 0 cs.toList)).run P w = .ok none w := run_findKey hd0 hfn
            have hso := fun o => MapKept.run_setObj_map (P := P) o hh
            have hent := entries_append o.elems.length 0 cs.toList kv xv (hlen hsz)
            have hel := pairs_even o.elems.length cs.toList (hlen hsz)
            have hobj : mapObj (cs.toList ++ [kv, xv]) = .map ((entriesOf 0 cs.toList).toArray.push ⟨kv, xv, (entriesOf 0 cs.toList).length⟩) ((entriesOf 0 cs.toList).length + 1) := by
              simp [mapObj, hent, hel]
            simp only [Instr.mapUpdate, Sem.run_bind, run_underlying hd, Result.andThen_ok, hgo, mapObj, hck, hfk, hso]
            rw [← hobj]; rfl
          · have hfl : flat (o.elems ++ [PV.agg [.d key, x]]) = flat o.elems ++ [.d key, x] := by simp [flat, PV.cells]
            rw [hfl]
            exact hok.rep.append (.cons hk (.cons hx .nil))
          · intro u hu
            rcases List.mem_append.1 hu with h | h
            · exact hok.one u h
            · simp only [List.mem_cons, List.not_mem_nil, or_false] at h
              rcases h with rfl | rfl
              · cases key <;> cases d0 <;> simp only [TK.of, keyOk, Bool.false_eq_true] at hko <;> cases hkr <;> rfl
              · exact hx.oneCell hxc
          · intro e he
            rcases List.mem_append.1 he with h | h
            · rw [hok.size e h]; exact Nat.eq_of_beq_eq_true hsz
            · simp only [List.mem_singleton] at h; subst h; rfl)
        exact ⟨id, _, w', rfl, rfl, h1, h2⟩
      · rename_i j v0 hf
        simp only [Option.some.injEq, Prod.mk.injEq] at h
        obtain ⟨hc, rfl, rfl⟩ := h
        have hc' := hc
        simp only [Bool.and_eq_true] at hc'
        obtain ⟨⟨⟨_, hxc⟩, _⟩, hsz⟩ := hc'
        obtain ⟨w', h1, h2⟩ := common _ hc (fun hko hh => by
          have hik := isKey_of hkr hko
          obtain ⟨u0, hfn, hv0, hat⟩ := (findP_sound (d := d0) hkr hko o.elems cs.toList 0 0 hok.rep).2 j v0 hf
          have hel := pairs_even o.elems.length cs.toList (hlen hsz)
          have hj : j < o.elems.length := by rw [← hel]; exact (List.getElem?_eq_some_iff.1 hat).1
          have hs2 : ∀ e ∈ o.elems, e.cells.length = 2 := fun e he => by rw [hok.size e he]; exact Nat.eq_of_beq_eq_true hsz
          have hfs := flat_set 2 o.elems j (PV.agg [.d key, x]) hs2 rfl hj
          have hset : (cs.toList.set (2 * j) kv).set (2 * j + 1) xv = cs.toList.take (j * 2) ++ [kv, xv] ++ cs.toList.drop (j * 2 + 2) := by
            have := setSubV_split [kv, xv] cs.toList (2 * j) (by rw [hlen hsz]; simp; omega)
            simp only [setSubV, List.length_cons, List.length_nil] at this
            rw [this, show 2 * j = j * 2 by omega]
          refine ⟨(cs.toList.set (2 * j) kv).set (2 * j + 1) xv, ?_, ?_, ?_, ?_⟩
          · have hgo := MapKept.run_getObj_map (P := P) hh
            have hck := MapKept.run_checkKey (P := P) (w := w) hd0 hik false 9999
            have hfk : (Instr.findKey kt kv (entriesOf 0 cs.toList)).run P w = .ok (some (0 + j, u0)) w := run_findKey hd0 hfn
            have hso := fun o => MapKept.run_setObj_map (P := P) o hh
            have hent := entries_set j o.elems.length 0 cs.toList kv xv (hlen hsz) hj
            have hks := MapKept.run_keyThatStays (P := P) (w := w) hik
            have hat' : (entriesOf 0 cs.toList).toArray[j]? = some ⟨kv, u0, 0 + j⟩ := by simpa using hat
            have hmod : ((entriesOf 0 cs.toList).toArray.modify j fun e => { e with key := kv, val := xv }) = ((entriesOf 0 cs.toList).set j ⟨kv, xv, 0 + j⟩).toArray := by
              apply Array.ext'
              rw [Array.toList_modify]
              apply List.ext_getElem?
              intro i
              simp only [List.getElem?_modify, List.getElem?_set]
              by_cases hij : j = i
              · subst hij
                rw [hat]; simp [show j < (entriesOf 0 cs.toList).length by omega]
              · simp [hij]
            have hobj : mapObj ((cs.toList.set (2 * j) kv).set (2 * j + 1) xv) = .map ((entriesOf 0 cs.toList).toArray.modify j fun e => { e with key := kv, val := xv }) (entriesOf 0 cs.toList).length := by
              rw [hmod]; simp [mapObj, hent]
            rw [hobj]
            simp only [Instr.mapUpdate, Sem.run_bind, run_underlying hd, Result.andThen_ok, hgo, mapObj, hck, hfk, Nat.zero_add, hat', Option.map_some, Option.getD_some, hks, hso]
          · rw [hfs, hset]
            refine RepL.append (RepL.append ?_ (.cons hk (.cons hx .nil))) ?_
            · exact ⟨by simp [hok.rep.1], fun i c v hc hv => by
                rw [List.getElem?_take] at hc hv
                split at hc
                · rename_i hlt; rw [if_pos hlt] at hv; exact hok.rep.2 i c v hc hv
                · cases hc⟩
            · exact hok.rep.drop _
          · intro u hu
            rcases List.mem_or_eq_of_mem_set hu with h | h
            · rcases List.mem_or_eq_of_mem_set h with h | h
              · exact hok.one u h
              · subst h
                cases key <;> cases d0 <;> simp only [TK.of, keyOk, Bool.false_eq_true] at hko <;> cases hkr <;> rfl
            · subst h; exact hx.oneCell hxc
          · intro e he
            rcases List.mem_or_eq_of_mem_set he with h | h
            · exact hs2 e h
            · subst h; rfl)
        exact ⟨id, _, w', rfl, rfl, h1, h2⟩
      · cases h
    · cases h
  · cases h


/-! ### Walks over texts -/
theorem objOf_iter (cs spare : Array Value) : objOf 4000000001 cs spare = iterObj cs.toList := by
  have h1 : Nat.beq 4000000001 mapTag = false := rfl
  have h2 : Nat.beq 4000000001 iterTag = true := rfl
  simp only [objOf, h1, h2, cond_true, cond_false]
theorem evalRange_sound (hT : TabOk P T) (hw : ConcW E γ own ob tk w) {dst : Option Nat} {t : TypeId} {x v : PV} {xv : Value} {eff : HEff} (hd : ∀ d, dst = some d → d < E.n) (hx : Rep γ x xv) (h : evalRange T dst t x ob = some (true, v, eff)) :
    ∃ γ' u w', (Instr.range t xv).run P w = .ok u w' ∧ GhLe γ γ' ∧ Rep γ' v u ∧ ConcW E γ' own (eff.obA ob) (eff.tkA tk) w' := by
  unfold evalRange at h
  split at h
  · rename_i l d ht
    split at h
    · rename_i hod
      simp only [Option.some.injEq, Prod.mk.injEq, true_and] at h
      obtain ⟨rfl, rfl⟩ := h
      obtain ⟨i1, d1, _, hd1, _, _, _, hk1, _⟩ := hT.facts ht
      cases d1 <;> simp only [TK.of, reduceCtorEq] at hk1
      have hxi := rep_str hx
      obtain ⟨γ', hle, hm, hw'⟩ := hw.newObj hod (hd d rfl) (o := ⟨4000000001, 2, [.agg [.d (.str l), .d (.int .i64 0)]]⟩) (cs := #[.string ⟨l.toArray⟩, .int .i64 0])
        (by show RepL γ [.d (.str l), .d (.int .i64 0)] [.string ⟨l.toArray⟩, .int .i64 0]; exact .cons (.d (.str _)) (.cons (.d (.int _ _)) .nil)) (by simp [Value.oneCell']) (by simp [PV.cells])
      refine ⟨γ', _, _, ?_, hle, .hp hm, hw'⟩
      rw [hxi, run_range_string w t _ hd1]
      simp only [World.iter, objOf_iter, iterObj, Nat.zero_mul, Nat.zero_add]
      rfl
    · cases h
  · cases h

theorem evalNext_sound (hw : ConcW E γ own ob tk w) {it v : PV} {iv : Value} {ty : TypeId} {eff : HEff} (hi : Rep γ it iv) (h : evalNext it ob = some (true, v, eff)) :
    ∃ u w', (Instr.next iv true ty).run P w = .ok u w' ∧ Rep γ v u ∧ ConcW E γ own (eff.obA ob) (eff.tkA tk) w' := by
  unfold evalNext at h
  split at h
  · rename_i id
    split at h
    · rename_i ty0 sz l p ho
      obtain ⟨blk, cs, hmb, hok⟩ := hw.obj id _ ho
      obtain ⟨spare, hheap⟩ := hok.heap
      cases hi with
      | hp hg =>
      rw [hmb] at hg; cases hg
      have hcs : cs.toList = [.string ⟨l.toArray⟩, .int .i64 p] := by
        have hr := hok.rep
        simp only [flat, List.flatMap_cons, PV.cells, List.flatMap_nil, List.append_nil] at hr
        obtain ⟨a1, r1, e1, h1, hr⟩ := hr.cons_inv
        obtain ⟨a2, r2, e2, h2, hr⟩ := hr.cons_inv
        have : r2 = [] := List.eq_nil_of_length_eq_zero (by simpa using hr.1.symm)
        subst this
        rw [e1, e2, rep_str h1, rep_int h2]
      cases hc : decide (p < l.length) with
      | true =>
        rw [hc] at h
        simp only [cond_true, Option.some.injEq, Prod.mk.injEq, Bool.and_eq_true, decide_eq_true_eq] at h
        obtain ⟨⟨⟨hty, hsz⟩, hp0⟩, rfl, rfl⟩ := h
        have hty := Nat.eq_of_beq_eq_true hty
        subst hty
        have hh : w.heap[blk]? = some (.stringIter ⟨l.toArray⟩ p.toNat) := by
          rw [hheap, objOf_iter, hcs]; rfl
        have hlt : p.toNat < (⟨l.toArray⟩ : ByteArray).size := by
          have := of_decide_eq_true hc
          show p.toNat < l.toArray.size
          simp only [List.size_toArray]; omega
        refine ⟨.tuple #[.bool true, .int .i64 p, .int .i32 ((runeAt l p.toNat).1 : Int)], { w with heap := w.heap.setIfInBounds blk (.stringIter ⟨l.toArray⟩ (p.toNat + (runeAt l p.toNat).2)) }, ?_, ?_, ?_⟩
        · have hz : 0 * sz + 0 = 0 := by simp
          simp only [Instr.next, hz, getObj, setObj, Sem.run_bind, Sem.run, hh, Result.andThen, hlt, if_true, goInt]
          simp [Sem.run, hh, runeAt, Int.toNat_of_nonneg hp0, goInt]
        · exact Rep.tup_iff.2 ⟨[_, _, _], rfl, .cons (.d (.bool _)) (.cons (.d (.int _ _)) (.cons (.d (.int _ _)) .nil))⟩
        · have hsz' := Nat.eq_of_beq_eq_true hsz
          refine hw.setObj ho hmb hok (o' := ⟨4000000001, sz, _⟩) rfl (cs' := #[.string ⟨l.toArray⟩, .int .i64 (p + ((runeAt l p.toNat).2 : Int))])
            (by show RepL γ [.d (.str l), .d (.int .i64 _)] [.string ⟨l.toArray⟩, .int .i64 _]; exact .cons (.d (.str _)) (.cons (.d (.int _ _)) .nil)) (by simp [Value.oneCell']) (by simp [PV.cells, hsz']) (spare := #[])
            ?_ (fun k hk => (heap_set hh).2 k hk) rfl rfl rfl (by simp)
          rw [(heap_set (o' := Obj.stringIter ⟨l.toArray⟩ (p.toNat + (runeAt l p.toNat).2)) hh).1]
          have : (p + ((runeAt l p.toNat).2 : Int)).toNat = p.toNat + (runeAt l p.toNat).2 := by omega
          rw [objOf_iter]; simp only [iterObj, this]
      | false =>
        rw [hc] at h
        simp only [cond_false, Option.some.injEq, Prod.mk.injEq, Bool.and_eq_true, decide_eq_true_eq] at h
        obtain ⟨⟨hty, hp0⟩, rfl, rfl⟩ := h
        have hty := Nat.eq_of_beq_eq_true hty
        subst hty
        have hh : w.heap[blk]? = some (.stringIter ⟨l.toArray⟩ p.toNat) := by
          rw [hheap, objOf_iter, hcs]; rfl
        have hlt : ¬ p.toNat < (⟨l.toArray⟩ : ByteArray).size := by
          have := of_decide_eq_false hc
          show ¬ p.toNat < l.toArray.size
          simp only [List.size_toArray]; omega
        refine ⟨_, w, ?_, Rep.tup_iff.2 ⟨[_], rfl, .cons (.d (.bool _)) .nil⟩, hw⟩
        have hz : 0 * sz + 0 = 0 := by simp
        simp only [Instr.next, hz, getObj, Sem.run_bind, Sem.run, hh, Result.andThen, hlt, if_false]
        rfl
    · cases h
  · cases h

end Go.PS
namespace Go.PS
open Go Go.RowKit

variable {P : Program} {T : Nat → Option TI}
variable {E : Env} {γ : Gh} {own : Nat → Option Nat} {st : St} {a : Act} {w : World}

/-- What the model's operation comes to, and the state that it stands for. -/
def OpOk (P : Program) (E : Env) (γ : Gh) (o : Oper) (a : Act) (w : World) (st' : St) : Prop :=
  ∃ u w' γ' own', ((execOp a.eval o).run P w = .ok (.value u) w' ∨ ((execOp a.eval o).run P w = .ok .skip w' ∧ u = undef)) ∧ GhLe γ γ' ∧ Conc E γ' own' st' (a.put o.dst u) w'

theorem OpOk.of_val (hC : Conc E γ own st a w) {o : Oper} {v : PV} (hd : ∀ d, o.dst = some d → d < E.n) {s : Sem Value} (hv : ValOk P γ w s v)
    (he : execOp a.eval o = (do pure (.value (← s)))) : OpOk P E γ o a w ((st.eff .none).put o.dst v) := by
  obtain ⟨u, hu, hr⟩ := hv
  exact ⟨u, w, γ, own, .inl (by rw [he]; simp [hu]), GhLe.refl _, hC.put hr hd⟩

theorem OpOk.of_world (hC : Conc E γ own st a w) {o : Oper} {v : PV} {eff : HEff} (hd : ∀ d, o.dst = some d → d < E.n) {u : Value} {w' : World} {γ' : Gh} {own' : Nat → Option Nat}
    (hrun : (execOp a.eval o).run P w = .ok (.value u) w' ∨ ((execOp a.eval o).run P w = .ok .skip w' ∧ u = undef)) (hle : GhLe γ γ') (hr : Rep γ' v u)
    (hw : ConcW E γ' own' (eff.obA st.ob) (eff.tkA st.tk) w') : OpOk P E γ o a w ((st.eff eff).put o.dst v) :=
  ⟨u, w', γ', own', hrun, hle, (hC.upworld hle hw).put hr hd⟩

theorem val_some {r : Option (Bool × PV)} {c : Bool} {v : PV} {e : HEff} (h : val r = some (c, v, e)) : r = some (c, v) ∧ e = .none := by
  unfold val at h
  split at h
  · simp only [Option.some.injEq, Prod.mk.injEq] at h
    obtain ⟨rfl, rfl, rfl⟩ := h
    exact ⟨rfl, rfl⟩
  · cases h

theorem parts_rep (hC : Conc E γ own st a w) (ps : Array (Nat × Operand)) :
    (ps.toList.map fun p => (p.1, st.look p.2)).length = (ps.map fun (i, x) => (i, a.eval x)).toList.length ∧
    ∀ (i : Nat) (p : Nat × PV) (q : Nat × Value), (ps.toList.map fun p => (p.1, st.look p.2))[i]? = some p → (ps.map fun (i, x) => (i, a.eval x)).toList[i]? = some q → p.1 = q.1 ∧ Rep γ p.2 q.2 := by
  refine ⟨by simp, fun i p q hp hq => ?_⟩
  simp only [Array.toList_map, List.getElem?_map, Option.map_eq_some_iff] at hp hq
  obtain ⟨x, hx, rfl⟩ := hp
  obtain ⟨y, hy, rfl⟩ := hq
  rw [hx] at hy
  cases hy
  exact ⟨rfl, hC.look _⟩

theorem args_rep (hC : Conc E γ own st a w) (xs : Array Operand) : RepL γ (xs.toList.map st.look) (xs.map a.eval).toList :=
  ⟨by simp, fun i c v hc hv => by
    simp only [Array.toList_map, List.getElem?_map, Option.map_eq_some_iff] at hc hv
    obtain ⟨x, hx, rfl⟩ := hc
    obtain ⟨y, hy, rfl⟩ := hv
    rw [hx] at hy
    cases hy
    exact hC.look _⟩

theorem opt_rep (hC : Conc E γ own st a w) (x : Option Operand) : (∀ y, x.map st.look = some y → ∃ u, x.map a.eval = some u ∧ Rep γ y u) ∧ (x.map st.look = none → x.map a.eval = none) := by
  cases x with
  | none => exact ⟨fun y h => by simp at h, fun _ => rfl⟩
  | some x => exact ⟨fun y h => by simp at h; subst h; exact ⟨_, rfl, hC.look x⟩, fun h => by simp at h⟩

/-- No cut with a greatest bound and no end. -/
def Op.cutOk : Op → Bool
  | .slice _ _ _ none (some _) => false
  | _ => true

theorem bytesOf_inv : ∀ (xs : List D) (ns : List Int), bytesOf xs = some ns → xs = ns.map (D.int .u8)
  | [], ns, h => by simp only [bytesOf, Option.some.injEq] at h; subst h; rfl
  | x :: r, ns, h => by
    unfold bytesOf at h
    split at h
    · rename_i e; cases e
    · rename_i n r' e
      cases e
      simp only [Option.map_eq_some_iff] at h
      obtain ⟨ns', h1, rfl⟩ := h
      rw [List.map_cons, ← bytesOf_inv r ns' h1]
    · cases h
theorem push_bytes (ns : List Int) : ∀ l : List UInt8, ns.foldl (fun r n => r.push (UInt8.ofNat n.toNat)) (ByteArray.mk l.toArray) = ⟨(l ++ ns.map fun n => UInt8.ofNat n.toNat).toArray⟩ := by
  induction ns with
  | nil => intro l; simp
  | cons n ns ih =>
    intro l
    have e : (ByteArray.mk l.toArray).push (UInt8.ofNat n.toNat) = ByteArray.mk (l ++ [UInt8.ofNat n.toNat]).toArray := by
      apply ByteArray.ext
      simp [ByteArray.push]
    rw [List.foldl_cons, e, ih]
    simp
theorem evalConv_sound {ob : Nat → Option OB} {tk : Nat → TS} (hT : TabOk P T) (hw : ConcW E γ own ob tk w) {src dt : TypeId} {x v : PV} {xv : Value} (hx : Rep γ x xv) (h : evalConv T src dt x = some (true, v)) : ValOk P γ w (convert src dt xv) v := by
  unfold evalConv at h
  split at h
  · rename_i h1 h2
    simp only [Option.some.injEq, Prod.mk.injEq, true_and] at h
    subst h
    have hxi := rep_int hx
    obtain ⟨i1, d1, _, hd1, _, _, _, hk1, _⟩ := hT.facts h1
    obtain ⟨i2, d2, _, hd2, _, _, _, hk2, _⟩ := hT.facts h2
    cases d2 <;> simp only [TK.of, reduceCtorEq, TK.int.injEq] at hk2
    subst hk2
    rename_i k2 n _ _ _ _ _ _
    refine ⟨.int .u8 _, ?_, .d (.int _ _)⟩
    simp [convert, run_underlying hd1, run_underlying hd2, hxi, Conv.intToInt]
    simp [IntKind.wrap, IntKind.bits, IntKind.signed]
  · rename_i h1 h2
    simp only [Option.some.injEq, Prod.mk.injEq] at h
    obtain ⟨hr, rfl⟩ := h
    have hxi := rep_int hx
    obtain ⟨i1, d1, _, hd1, _⟩ := hT.facts h1
    obtain ⟨i2, d2, _, hd2, _, _, _, hk2, _⟩ := hT.facts h2
    cases d2 <;> simp only [TK.of, reduceCtorEq, TK.int.injEq] at hk2
    subst hk2
    refine ⟨.int _ _, ?_, .d (.int _ _)⟩
    simp [convert, run_underlying hd1, run_underlying hd2, hxi, Conv.intToInt, wrap_id hr]
  · rename_i h1 h2
    simp only [Option.some.injEq, Prod.mk.injEq, true_and] at h
    subst h
    have hxi := rep_str hx
    obtain ⟨i1, d1, _, hd1, _⟩ := hT.facts h1
    obtain ⟨i2, d2, _, hd2, _, _, _, hk2, _⟩ := hT.facts h2
    cases d2 <;> simp only [TK.of, reduceCtorEq] at hk2
    refine ⟨.string _, ?_, .d (.str _)⟩
    simp [convert, run_underlying hd1, run_underlying hd2, hxi]
  · rename_i h1 h2 hns0
    split at h
    · rename_i sz xs h3 hxs
      split at h
      · rename_i ns hns
        simp only [Option.some.injEq, Prod.mk.injEq, Bool.and_eq_true] at h
        obtain ⟨⟨hsz, hne⟩, rfl⟩ := h
        have hsz' : sz = 1 := by simpa using hsz
        subst hsz'
        have hxs2 := bytesOf_inv _ _ hns
        subst hxs2
        have hr := asSl_rep hx hxs
        obtain ⟨i1, d1, _, hd1, _, _, _, hk1, _⟩ := hT.facts h1
        obtain ⟨i2, d2, _, hd2, _, _, _, hk2, _⟩ := hT.facts h2
        obtain ⟨i3, d3, _, hd3, _, _, _, hk3, _⟩ := hT.facts h3
        cases d1 <;> simp only [TK.of, reduceCtorEq, TK.slice.injEq] at hk1
        subst hk1
        cases d2 <;> simp only [TK.of, reduceCtorEq] at hk2
        cases d3 <;> simp only [TK.of, reduceCtorEq, TK.int.injEq] at hk3
        subst hk3
        generalize hzs : ns.map (D.int .u8) = zs at hr
        cases hr with
        | sl _ _ a c b o f hc ha hs hk h1' hrr =>
          have hlen : zs.length = ns.length := by rw [← hzs]; simp
          have hne2 : zs ≠ [] := by
            intro e0
            rw [hzs, e0] at hne
            simp at hne
          have hav := ha hne2
          subst hav
          have hcell : ∀ j, j < ns.length → w.cell? ((⟨b, o, none⟩ : Addr).add j) = some (.int .u8 (ns.getD j 0)) := by
            intro j hj
            have hz : zs[j]? = some (.int .u8 (ns.getD j 0)) := by rw [← hzs]; simp [hj]
            have hk' := hk j 0 _ _ hz (by rfl)
            have h1'' := h1' j 0 _ _ hz (by rfl)
            have hr' := hrr j 0 _ _ hz (by rfl)
            have hf : f j 0 = .int .u8 (ns.getD j 0) := by
              generalize f j 0 = q at hr'
              cases hr'; rfl
            have := (hw.ksub _ _ _ hk').cell h1''
            rw [addr_add]
            rw [hf] at this
            simpa using this
          have hl := run_loadCells_list (P := P) (w := w) ⟨b, o, none⟩ (ns.map (Value.int .u8)) (fun j v hv => by
            rw [List.getElem?_map, Option.map_eq_some_iff] at hv
            obtain ⟨n, hn, rfl⟩ := hv
            have hj : j < ns.length := (List.getElem?_eq_some_iff.1 hn).1
            rw [hcell j hj]
            simp [List.getD, hn])
          rw [List.length_map] at hl
          refine ⟨_, ?_, .d (.str _)⟩
          rw [run_convert_bytes_string w src dt _ _ _ _ hd1 hd3 hd2, hlen, run_bytesToString w _ _ _ ns hl]
          have hp := push_bytes ns []
          rw [show ByteArray.mk ([] : List UInt8).toArray = ByteArray.empty from rfl, List.nil_append] at hp
          rw [hp]
      · cases h
    · cases h
  · cases h

theorem evalOp_sound (hT : TabOk P T) (hC : Conc E γ own st a w) {o : Oper} {v : PV} {eff : HEff} (hcut : Op.cutOk o.op = true) (h : evalOp T o.dst o.op st.look st.ob st.tk = some (true, v, eff)) (hd : ∀ d, o.dst = some d → d < E.n) :
    OpOk P E γ o a w ((st.eff eff).put o.dst v) := by
  obtain ⟨dst, op, type, pos, after, guard⟩ := o
  simp only at h hd hcut ⊢
  cases op with
  | move x =>
    simp only [evalOp, Option.some.injEq, Prod.mk.injEq, true_and] at h
    obtain ⟨rfl, rfl⟩ := h
    exact OpOk.of_val hC hd (s := pure (a.eval x)) ⟨_, rfl, hC.look x⟩ rfl
  | assign x =>
    simp only [evalOp, Option.some.injEq, Prod.mk.injEq, true_and] at h
    obtain ⟨rfl, rfl⟩ := h
    exact OpOk.of_val hC hd (s := pure (a.eval x)) ⟨_, rfl, hC.look x⟩ rfl
  | pick c x y =>
    simp only [evalOp] at h
    split at h
    · rename_i t ht
      simp only [Option.some.injEq, Prod.mk.injEq, true_and] at h
      obtain ⟨rfl, rfl⟩ := h
      have hc := hC.look c
      rw [ht] at hc
      have hcb := rep_bool hc
      refine OpOk.of_val hC hd (s := do pure (if ← asBool (a.eval c) then a.eval x else a.eval y)) ⟨if t then a.eval x else a.eval y, by simp [hcb, asBool], ?_⟩ (by simp [execOp])
      cases t
      · exact hC.look y
      · exact hC.look x
    · cases h
  | build t parts =>
    simp only [evalOp] at h
    split at h
    · rename_i r hr
      simp only [Option.some.injEq, Prod.mk.injEq, true_and] at h
      obtain ⟨rfl, rfl⟩ := h
      obtain ⟨h1, h2⟩ := parts_rep hC parts
      exact OpOk.of_val hC hd (evalBuild_sound hT w h1 h2 hr) rfl
    · cases h
  | buildSlice t n parts =>
    obtain ⟨h9, rfl⟩ := val_some h
    obtain ⟨h1, h2⟩ := parts_rep hC parts
    obtain ⟨γ', u, w', hrun, hle, hr, hw⟩ := evalBuildSlice_sound hT hC.world h1 h2 h9
    exact OpOk.of_world hC hd (.inl (by simp only [execOp]; simp [hrun])) hle hr hw
  | binOp op t x y yt =>
    obtain ⟨h9, rfl⟩ := val_some h
    exact OpOk.of_val hC hd (evalBin_sound hT w x y (hC.look x) (hC.look y) h9) rfl
  | unOp op t x =>
    obtain ⟨h9, rfl⟩ := val_some h
    exact OpOk.of_val hC hd (evalUn_sound w (hC.look x) h9) rfl
  | convert src dt x =>
    obtain ⟨h9, rfl⟩ := val_some h
    exact OpOk.of_val hC hd (evalConv_sound hT hC.world (hC.look x) h9) rfl
  | makeFunc f first caps =>
    simp only [evalOp, Option.some.injEq, Prod.mk.injEq, true_and] at h
    obtain ⟨rfl, rfl⟩ := h
    have h1 := args_rep hC first
    have h2 := args_rep hC caps
    refine OpOk.of_val hC hd (s := Instr.makeFunc f (first.map a.eval) (caps.map a.eval)) ⟨.func f (first.map a.eval) (caps.map a.eval), rfl, ?_⟩ rfl
    have := Rep.fn f _ _ _ _ h1.1 h2.1 h1.2 h2.2
    rw [Array.toArray_toList, Array.toArray_toList] at this
    exact this
  | slice t x lo hi mx =>
    simp only [evalOp] at h
    obtain ⟨l1, l2⟩ := opt_rep hC lo
    obtain ⟨h1, h2⟩ := opt_rep hC hi
    obtain ⟨m1, m2⟩ := opt_rep hC mx
    have hmm : mx.map st.look ≠ none → hi.map st.look ≠ none := by
      intro hm
      cases mx with
      | none => exact absurd rfl hm
      | some m => cases hi with
        | none => simp [Op.cutOk] at hcut
        | some _ => simp
    split at h
    · rename_i hx
      obtain ⟨h9, rfl⟩ := val_some h
      have hr := hC.look x
      rw [hx] at hr
      exact OpOk.of_val hC hd (evalSliceH_sound hT w hr l1 l2 h1 h2 m1 m2 hmm h9) rfl
    · obtain ⟨h9, rfl⟩ := val_some h
      exact OpOk.of_val hC hd (evalSlice_sound hT w (hC.look x) l1 l2 h1 h2 m1 m2 hmm h9) rfl
  | makeMap t r =>
    cases r with
    | some r => simp [evalOp] at h
    | none =>
      simp only [evalOp] at h
      obtain ⟨γ', u, w', hrun, hle, hr, hw⟩ := evalMakeMap_sound (P := P) (t := t) hC.world hd h
      exact OpOk.of_world hC hd (.inl (by simp [execOp, hrun])) hle hr hw
  | lookup t m k ok =>
    obtain ⟨h9, rfl⟩ := val_some h
    exact OpOk.of_val hC hd (evalLookup_sound hT hC.world (hC.look m) (hC.look k) h9) rfl
  | range t x =>
    obtain ⟨γ', u, w', hrun, hle, hr, hw⟩ := evalRange_sound (P := P) hT hC.world hd (hC.look x) h
    exact OpOk.of_world hC hd (.inl (by simp [execOp, hrun])) hle hr hw
  | next x b =>
    cases b with
    | false => simp [evalOp] at h
    | true =>
      simp only [evalOp] at h
      obtain ⟨u, w', hrun, hr, hw⟩ := evalNext_sound (P := P) (ty := type) hC.world (hC.look x) h
      exact OpOk.of_world hC hd (.inl (by simp [execOp, hrun])) (GhLe.refl _) hr hw
  | insert t m k x =>
    obtain ⟨id, o, w', rfl, rfl, hrun, hw⟩ := evalMapUpdate_sound hT hC.world (hC.look m) (hC.look k) (hC.look x) h
    exact OpOk.of_world hC hd (.inr ⟨by simp [execOp, hrun], rfl⟩) (GhLe.refl _) Rep.undef hw
  | mapUpdate t m k x =>
    obtain ⟨id, o, w', rfl, rfl, hrun, hw⟩ := evalMapUpdate_sound hT hC.world (hC.look m) (hC.look k) (hC.look x) h
    exact OpOk.of_world hC hd (.inr ⟨by simp [execOp, hrun], rfl⟩) (GhLe.refl _) Rep.undef hw
  | fieldAddr s x f =>
    obtain ⟨h9, rfl⟩ := val_some h
    exact OpOk.of_val hC hd (evalFieldAddr_sound hT w (hC.look x) h9) rfl
  | field s x f =>
    obtain ⟨h9, rfl⟩ := val_some h
    exact OpOk.of_val hC hd (evalField_sound hT w (hC.look x) h9) rfl
  | indexAddr t x i =>
    obtain ⟨h9, rfl⟩ := val_some h
    exact OpOk.of_val hC hd (evalIndexAddr_sound hT w (hC.look x) (hC.look i) h9) rfl
  | index t x i =>
    obtain ⟨h9, rfl⟩ := val_some h
    exact OpOk.of_val hC hd (evalIndex_sound hT w (hC.look x) (hC.look i) h9) rfl
  | extract x i =>
    simp only [evalOp] at h
    split at h
    · rename_i cs hx
      split at h
      · rename_i c hc
        simp only [Option.some.injEq, Prod.mk.injEq, true_and] at h
        obtain ⟨rfl, rfl⟩ := h
        have hr := hC.look x
        rw [hx] at hr
        obtain ⟨vs, he, hl⟩ := Rep.tup_iff.1 hr
        have hlt : i < vs.length := by rw [← hl.1]; exact (List.getElem?_eq_some_iff.1 hc).1
        refine OpOk.of_val hC hd (s := Instr.extract (a.eval x) i) ⟨vs[i], ?_, hl.2 i _ _ hc (List.getElem?_eq_getElem hlt)⟩ rfl
        simp [Instr.extract, he, hlt]
      · cases h
    · cases h
  | nilCheck x =>
    simp only [evalOp] at h
    split at h
    · rename_i id i off hx
      simp only [Option.some.injEq, Prod.mk.injEq, true_and] at h
      obtain ⟨rfl, rfl⟩ := h
      have hr := hC.look x
      rw [hx] at hr
      obtain ⟨blk, sz, _, he⟩ := rep_hp hr
      refine OpOk.of_val hC hd (s := pure (a.eval x)) ⟨_, rfl, hr⟩ ?_
      simp only [execOp, he]; rfl
    · rename_i cs hx
      simp only [Option.some.injEq, Prod.mk.injEq, true_and] at h
      obtain ⟨rfl, rfl⟩ := h
      have hr := hC.look x
      rw [hx] at hr
      obtain ⟨b, o, f, he, _⟩ := rep_ref hr
      refine OpOk.of_val hC hd (s := pure (a.eval x)) ⟨_, rfl, hr⟩ ?_
      simp only [execOp, he]; rfl
    · cases h
  | load t x =>
    obtain ⟨h9, rfl⟩ := val_some h
    exact OpOk.of_val hC hd (evalLoad_sound hT hC.world (hC.look x) h9) rfl
  | store t x y =>
    obtain ⟨id, o, w', rfl, rfl, hrun, hw⟩ := evalStore_sound hT hC.world (hC.look x) (hC.look y) h
    exact OpOk.of_world hC hd (.inr ⟨by simp [execOp, hrun], rfl⟩) (GhLe.refl _) Rep.undef hw
  | alloc t =>
    simp only [evalOp, evalAlloc] at h
    split at h
    · rename_i ti d ht
      split at h
      · rename_i hod
        simp only [Option.some.injEq, Prod.mk.injEq, Bool.and_eq_true, Option.getD_none] at h
        obtain ⟨⟨⟨h0, h1⟩, h2⟩, rfl, rfl⟩ := h
        obtain ⟨i, d', hi, _, hz, _⟩ := hT.facts ht
        obtain ⟨γ', hle, hrun, hr, hw⟩ := alloc_sound (P := P) hC.world (t := t) (rep_ofConst γ ti.zero) (ti := ti) hod (hd _ rfl) (by simpa [mapTag] using h0) (Nat.eq_of_beq_eq_true h1) h2
        refine OpOk.of_world hC hd (.inl ?_) hle hr hw
        simp [execOp, Instr.alloc, run_zeroValue hi hz, hrun]
      · cases h
    · cases h
  | box t x =>
    simp only [evalOp, evalAlloc] at h
    split at h
    · rename_i ti d ht
      split at h
      · rename_i hod
        simp only [Option.some.injEq, Prod.mk.injEq, Bool.and_eq_true, Option.getD_some] at h
        obtain ⟨⟨⟨h0, h1⟩, h2⟩, rfl, rfl⟩ := h
        obtain ⟨γ', hle, hrun, hr, hw⟩ := alloc_sound (P := P) hC.world (t := t) (hC.look x) (ti := ti) hod (hd _ rfl) (by simpa [mapTag] using h0) (Nat.eq_of_beq_eq_true h1) h2
        refine OpOk.of_world hC hd (.inl ?_) hle hr hw
        simp [execOp, Instr.box, hrun]
      · cases h
    · cases h
  | makeSlice t l c =>
    simp only [evalOp] at h
    cases dst with
    | none => simp [evalMakeSlice] at h
    | some d =>
      obtain ⟨γ', own', u, w', hrun, hle, hr, hw⟩ := evalMakeSlice_sound hT hC.world (hC.look l) (hC.look c) (hd _ rfl) h
      exact OpOk.of_world hC hd (.inl (by simp [execOp, hrun])) hle hr hw
  | call c =>
    obtain ⟨callee, args, argTypes⟩ := c
    cases callee with
    | builtin b =>
      by_cases hb : b = .append
      · subst hb
        simp only [evalOp] at h
        split at h
        · rename_i s x t t2 hargs htypes
          cases htt : Nat.beq t t2 with
          | false => rw [htt] at h; cases h
          | true =>
            rw [htt] at h
            have := Nat.eq_of_beq_eq_true htt
            subst this
            simp only [cond_true] at h
            cases dst with
            | none => simp [evalAppend] at h
            | some d =>
              obtain ⟨kill, e, size, γ', own', u, w', rfl, hrun, hle, hr, hw⟩ := evalAppend_sound (ty := type) hT hC.world (hC.look s) (hC.look x) h
              refine OpOk.of_world hC hd (.inl ?_) hle hr hw
              have e1 : args = #[s, x] := by rw [← Array.toArray_toList (xs := args), hargs]
              have e2 : argTypes = #[t, t] := by rw [← Array.toArray_toList (xs := argTypes), htypes]
              subst e1; subst e2
              simp [execOp, resolve, invoke, builtin, hrun]
        · cases h
      · by_cases hb2 : b = .copy
        · subst hb2
          simp only [evalOp] at h
          split at h
          · rename_i s x t t2 hargs htypes
            obtain ⟨w', n, rfl, hrun, hw⟩ := evalCopy_sound (t2 := t2) (ty := type) hT hC.world (hC.look s) (hC.look x) h
            refine OpOk.of_world hC hd (.inl ?_) (GhLe.refl _) (.d (.int _ _)) hw
            have e1 : args = #[s, x] := by rw [← Array.toArray_toList (xs := args), hargs]
            have e2 : argTypes = #[t, t2] := by rw [← Array.toArray_toList (xs := argTypes), htypes]
            subst e1; subst e2
            simp [execOp, resolve, invoke, builtin, hrun]
          · cases h
        have h' : val (evalBuiltin T b argTypes.toList (args.toList.map st.look)) = some (true, v, eff) := by
          cases b <;> first | exact absurd rfl hb | exact absurd rfl hb2 | exact h
        obtain ⟨h8, rfl⟩ := val_some h'
        obtain ⟨u, hrun, hr⟩ := evalBuiltin_sound hT w (args_rep hC args) h8 (ty := type) (consts := args.map fun | .const _ => true | _ => false)
        refine OpOk.of_world (eff := .none) hC hd (.inl ?_) (GhLe.refl _) hr hC.world
        simp only [execOp, resolve, Sem.run_bind, Sem.run_pure, Result.andThen_ok, invoke]
        rw [Array.toArray_toList, Array.toArray_toList] at hrun
        exact hrun
    | value f => simp [evalOp] at h
    | invoke r m => simp [evalOp] at h
  | _ => simp [evalOp] at h

end Go.PS

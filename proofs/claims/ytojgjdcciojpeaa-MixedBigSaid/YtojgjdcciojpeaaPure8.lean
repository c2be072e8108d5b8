/-
  Every operation of the pure layer stands for the model's own: cuts of slices, builtins, what makes or writes memory.
-/
import Derived.Test.YtojgjdcciojpeaaPure7
namespace Go.PS
open Go Go.RowKit

variable {P : Program} {T : Nat → Option TI}

theorem RepD.cut {K} {sz : Nat} {xs : List D} {a : Option Addr} {c : Nat} (h : RepD K (.sl sz xs) (.slice a xs.length c)) {lo hi cc : Nat} (hlo : lo ≤ hi) (hhi : hi ≤ xs.length) {size : Nat} (hsz : sz = size ∨ xs = []) (p : Prop) [Decidable p]
    (hp : p → hi = lo) (hcc : hi - lo ≤ cc) : RepD K (.sl size ((xs.drop lo).take (hi - lo))) (.slice (if p then a else a.map (·.add (lo * size))) (hi - lo) cc) := by
  by_cases he : hi = lo
  · subst he
    simp only [Nat.sub_self, List.take_zero]
    exact .sl_nil _ _ _
  · rw [if_neg (fun h => he (hp h))]
    have hne : xs ≠ [] := fun e => by subst e; simp at hhi; omega
    have hsz' : sz = size := hsz.resolve_right hne
    subst hsz'
    have hlen : ((xs.drop lo).take (hi - lo)).length = hi - lo := by simp; omega
    cases h with
    | sl _ _ _ _ b o f _ ha hs hk h1 hr =>
      have hgx : ∀ (i : Nat) (x : D), ((xs.drop lo).take (hi - lo))[i]? = some x → xs[lo + i]? = some x := by
        intro i x hi'
        rw [List.getElem?_take] at hi'
        split at hi'
        · rwa [List.getElem?_drop] at hi'
        · cases hi'
      have key : RepD K (.sl sz ((xs.drop lo).take (hi - lo))) (.slice (some ⟨b, o + lo * sz, none⟩) ((xs.drop lo).take (hi - lo)).length cc) := by
        refine .sl sz _ _ cc b (o + lo * sz) (fun i j => f (lo + i) j) (by rw [hlen]; exact hcc) (fun _ => rfl) (fun i x hi' => hs _ x (hgx i x hi')) ?_ ?_ ?_
        · intro i j x d hi' hd
          have := hk _ j x d (hgx i x hi') hd
          rw [Nat.add_mul] at this
          rw [← this]; congr 1; omega
        · intro i j x d hi' hd; exact h1 _ j x d (hgx i x hi') hd
        · intro i j x d hi' hd; exact hr _ j x d (hgx i x hi') hd
      rw [hlen] at key
      rw [ha hne]
      simp only [Option.map_some, addr_add]
      exact key

theorem boundI_run {γ : Gh} {b : Option PV} {bv : Option Value} {dflt r : Int} (hb : ∀ x, b = some x → ∃ u, bv = some u ∧ Rep γ x u) (hn : b = none → bv = none) (h : boundI b dflt = some r) :
    (b = none ∧ bv = none ∧ r = dflt) ∨ ∃ k, bv = some (.int k r) := by
  cases b with
  | none => simp only [boundI, Option.some.injEq] at h; exact .inl ⟨rfl, hn rfl, h.symm⟩
  | some x =>
    right
    obtain ⟨u, rfl, hr⟩ := hb x rfl
    unfold boundI at h
    split at h
    · rename_i heq; cases heq
    · rename_i k i heq; cases heq; cases h; exact ⟨k, by rw [rep_int hr]⟩
    · cases h

theorem run_sliceBound {w : World} {k : IntKind} {i : Int} {y : Nat} {code : BoundsCode} (h0 : 0 ≤ i) (h1 : i ≤ y) : (Instr.sliceBound (.int k i) y code).run P w = .ok i.toNat w := by
  simp [Instr.sliceBound, asIntOf, h0, h1]

/-- The bounds of a cut, where they fit. -/
theorem run_sliceBounds {w : World} {sl : Bool} {len cap : Nat} {lo hi mx : Option Value} {a b : Int} (hla : (lo = none ∧ a = 0) ∨ ∃ k, lo = some (.int k a)) (hhb : (hi = none ∧ b = len) ∨ ∃ k, hi = some (.int k b))
    (h0 : 0 ≤ a) (h1 : a ≤ b) (h2 : b ≤ len) (hc : len ≤ cap) (hm : mx = none ∨ (hi ≠ none ∧ ∃ k, mx = some (.int k b))) :
    (Instr.sliceBounds sl len cap lo hi mx).run P w = .ok (a.toNat, b.toNat, if mx.isSome then b.toNat else cap) w := by
  have hb0 : 0 ≤ b := by omega
  have hbc : b ≤ (cap : Int) := by omega
  have e1 : ∀ k code, (Instr.sliceBound (.int k b) cap code).run P w = .ok b.toNat w := fun k code => run_sliceBound hb0 hbc
  have e2 : ∀ k code, (Instr.sliceBound (.int k a) b.toNat code).run P w = .ok a.toNat w := fun k code => run_sliceBound h0 (by omega)
  have e4 : ∀ k code, (Instr.sliceBound (.int k b) b.toNat code).run P w = .ok b.toNat w := fun k code => run_sliceBound hb0 (by omega)
  rcases hm with rfl | ⟨hne, km, rfl⟩
  · rcases hla with ⟨rfl, rfl⟩ | ⟨ka, rfl⟩ <;> rcases hhb with ⟨rfl, rfl⟩ | ⟨kb, rfl⟩ <;>
      (try simp only [Int.toNat_natCast] at e1 e2 e4) <;>
      simp [Instr.sliceBounds, e1, e2]
  · rcases hhb with ⟨rfl, rfl⟩ | ⟨kb, rfl⟩
    · exact absurd rfl hne
    · rcases hla with ⟨rfl, rfl⟩ | ⟨ka, rfl⟩ <;> simp [Instr.sliceBounds, e1, e2, e4]

theorem evalSliceH_sound (hT : TabOk P T) {γ : Gh} (w : World) {t : TypeId} {id sz l n cap : Nat} {xv : Value} {lo hi mx : Option PV} {lov hiv mxv : Option Value} {v : PV} (hx : Rep γ (.hrow id sz l n cap) xv)
    (hlo : ∀ y, lo = some y → ∃ u, lov = some u ∧ Rep γ y u) (hlon : lo = none → lov = none) (hhi : ∀ y, hi = some y → ∃ u, hiv = some u ∧ Rep γ y u) (hhin : hi = none → hiv = none)
    (hmx : ∀ y, mx = some y → ∃ u, mxv = some u ∧ Rep γ y u) (hmxn : mx = none → mxv = none)
    (hhm : mx ≠ none → hi ≠ none)
    (h : evalSliceH T t id sz l n cap lo hi mx = some (true, v)) : ValOk P γ w (Instr.sliceAt t xv lov hiv mxv) v := by
  unfold evalSliceH at h
  split at h
  · rename_i e z es ht
    obtain ⟨inf, d, hinf, hd, _, _, _, hk, _⟩ := hT.facts ht
    cases d <;> simp only [TK.of, reduceCtorEq, TK.slice.injEq] at hk
    subst hk
    cases hx with
    | hrow hm hcc hlc =>
    rename_i c blk
    split at h
    · rename_i te hte
      obtain ⟨i', d', hi', hd', _, hsz, _, _, _⟩ := hT.facts hte
      have run : ∀ (a b : Int), boundI lo 0 = some a → boundI hi n = some b → 0 ≤ a → a ≤ b → b ≤ n → (a = 0 ∨ a < b) → (mxv = none ∨ (hiv ≠ none ∧ ∃ k, mxv = some (.int k b))) →
          (Instr.sliceAt t (.slice (some ⟨blk, l * sz, none⟩) n c) lov hiv mxv).run P w = .ok (.slice (some ⟨blk, l * sz + a.toNat * te.size, none⟩) (b.toNat - a.toNat) ((if mxv.isSome then b.toNat else c) - a.toNat)) w := by
        intro a b ha hb h0 h1 h2 hab hm
        have hla := boundI_run hlo hlon ha
        have hlb := boundI_run hhi hhin hb
        have hbs := run_sliceBounds (P := P) (w := w) (sl := true) (len := n) (cap := c) (lo := lov) (hi := hiv) (mx := mxv) (a := a) (b := b)
          (hla.imp (fun h => ⟨h.2.1, h.2.2⟩) (fun h => h)) (hlb.imp (fun h => ⟨h.2.1, h.2.2⟩) (fun h => h)) h0 h1 h2 hlc hm
        simp only [Instr.sliceAt, Sem.run_bind, run_underlying hd, Instr.slice, Result.andThen_ok, hbs, run_sizeOf hi', hsz, Sem.run_pure]
        by_cases hp : (if mxv.isSome then b.toNat else c) = a.toNat
        · rcases hab with rfl | hab
          · simp [hp]
          · exfalso
            split at hp <;> omega
        · simp [hp, addr_add]
      split at h
      · rename_i a b ha hb
        have hmn := hmxn rfl
        simp only [Option.some.injEq, Prod.mk.injEq, Bool.and_eq_true, Bool.or_eq_true, decide_eq_true_eq] at h
        obtain ⟨⟨⟨⟨⟨hs, h0⟩, h1⟩, h2⟩, hab⟩, rfl⟩ := h
        have hs' := Nat.eq_of_beq_eq_true hs
        subst hs'
        refine ⟨_, run a b ha hb h0 h1 h2 hab (.inl hmn), ?_⟩
        have key := Rep.hrow (lo := l + a.toNat) (len := b.toNat - a.toNat) (cap := cap - a.toNat) (c := c - a.toNat) hm (by omega) (by omega)
        rw [Nat.add_mul] at key
        simpa [hmn] using key
      · rename_i a b k m ha hb
        simp only [Option.some.injEq, Prod.mk.injEq, Bool.and_eq_true, Bool.or_eq_true, decide_eq_true_eq] at h
        obtain ⟨⟨⟨⟨⟨⟨hs, h0⟩, h1⟩, h2⟩, hab⟩, hbc⟩, rfl⟩ := h
        have hs' := Nat.eq_of_beq_eq_true hs
        subst hs'
        subst hbc
        obtain ⟨u, hmu, hur⟩ := hmx _ rfl
        have hum := rep_int hur
        subst hum
        have hin : hiv ≠ none := by
          have := hhm (by simp)
          cases hi with
          | none => exact absurd rfl this
          | some y => obtain ⟨u, hu, _⟩ := hhi y rfl; rw [hu]; simp
        refine ⟨_, run a b ha hb h0 h1 h2 hab (.inr ⟨hin, _, hmu⟩), ?_⟩
        have key := Rep.hrow (lo := l + a.toNat) (len := b.toNat - a.toNat) (cap := b.toNat - a.toNat) (c := b.toNat - a.toNat) hm (by omega) (by omega)
        rw [Nat.add_mul] at key
        simpa [hmu] using key
      · cases h
    · cases h
  · cases h

theorem evalSlice_sound (hT : TabOk P T) {γ : Gh} (w : World) {t : TypeId} {x : PV} {xv : Value} {lo hi mx : Option PV} {lov hiv mxv : Option Value} {v : PV} (hx : Rep γ x xv)
    (hlo : ∀ y, lo = some y → ∃ u, lov = some u ∧ Rep γ y u) (hlon : lo = none → lov = none) (hhi : ∀ y, hi = some y → ∃ u, hiv = some u ∧ Rep γ y u) (hhin : hi = none → hiv = none)
    (hmx : ∀ y, mx = some y → ∃ u, mxv = some u ∧ Rep γ y u) (hmxn : mx = none → mxv = none)
    (hhm : mx ≠ none → hi ≠ none)
    (h : evalSlice T t x lo hi mx = some (true, v)) : ValOk P γ w (Instr.sliceAt t xv lov hiv mxv) v := by
  unfold evalSlice at h
  split at h
  · rename_i z es ht
    obtain ⟨inf, d, hinf, hd, _, _, _, hk, _⟩ := hT.facts ht
    cases d <;> simp only [TK.of, reduceCtorEq] at hk
    split at h
    · rename_i l
      have := hmxn rfl
      subst this
      split at h
      · rename_i a b ha hb
        simp only [Option.some.injEq, Prod.mk.injEq, Bool.and_eq_true, decide_eq_true_eq] at h
        obtain ⟨⟨⟨h0, h1⟩, h2⟩, rfl⟩ := h
        rw [rep_str hx]
        have hla := boundI_run hlo hlon ha
        have hlb := boundI_run hhi hhin hb
        have hbs := run_sliceBounds (P := P) (w := w) (sl := false) (len := l.length) (cap := l.length) (lo := lov) (hi := hiv) (mx := none) (a := a) (b := b)
          (hla.imp (fun h => ⟨h.2.1, h.2.2⟩) id) (hlb.imp (fun h => ⟨h.2.1, h.2.2⟩) id) h0 h1 h2 (Nat.le_refl _) (.inl rfl)
        have hsz : (ByteArray.mk l.toArray).size = l.length := by simp [ByteArray.size]
        refine ⟨.string ((ByteArray.mk l.toArray).extract a.toNat b.toNat), ?_, ?_⟩
        · simp [Instr.sliceAt, run_underlying hd, Instr.slice, hsz, hbs]
        · have e : (ByteArray.mk l.toArray).extract a.toNat b.toNat = ByteArray.mk ((l.drop a.toNat).take (b.toNat - a.toNat)).toArray := by
            apply ByteArray.ext
            rw [ByteArray.data_extract]
            simp
          rw [e]
          exact .d (.str _)
      · cases h
    · cases h
  · rename_i e z es ht
    obtain ⟨inf, d, hinf, hd, _, _, _, hk, _⟩ := hT.facts ht
    cases d <;> simp only [TK.of, reduceCtorEq, TK.slice.injEq] at hk
    subst hk
    split at h
    · rename_i te sz xs hte hsl
      obtain ⟨i', d', hi', hd', _, hsz, _, _, _⟩ := hT.facts hte
      have hr := asSl_rep hx hsl
      obtain ⟨ao, c, rfl, hc, _, hne⟩ := hr.sl_flat
      have run : ∀ (a b : Int), boundI lo 0 = some a → boundI hi xs.length = some b → 0 ≤ a → a ≤ b → b ≤ xs.length → (mxv = none ∨ (hiv ≠ none ∧ ∃ k, mxv = some (.int k b))) →
          (Instr.sliceAt t (.slice ao xs.length c) lov hiv mxv).run P w = .ok (.slice (if (if mxv.isSome then b.toNat else c) = a.toNat then ao else ao.map (·.add (a.toNat * te.size))) (b.toNat - a.toNat) ((if mxv.isSome then b.toNat else c) - a.toNat)) w := by
        intro a b ha hb h0 h1 h2 hm
        have hla := boundI_run hlo hlon ha
        have hlb := boundI_run hhi hhin hb
        have hbs := run_sliceBounds (P := P) (w := w) (sl := true) (len := xs.length) (cap := c) (lo := lov) (hi := hiv) (mx := mxv) (a := a) (b := b)
          (hla.imp (fun h => ⟨h.2.1, h.2.2⟩) id) (hlb.imp (fun h => ⟨h.2.1, h.2.2⟩) id) h0 h1 h2 hc hm
        simp [Instr.sliceAt, run_underlying hd, Instr.slice, hbs, run_sizeOf hi', hsz]
      have hemp : ∀ b : Bool, (b || xs.isEmpty) = true → (b = true ∨ xs = []) := fun b hb => by simpa using hb
      split at h
      · rename_i a b ha hb
        have hmn := hmxn rfl
        simp only [Option.some.injEq, Prod.mk.injEq, Bool.and_eq_true, decide_eq_true_eq] at h
        obtain ⟨⟨⟨⟨hs, h0⟩, h1⟩, h2⟩, rfl⟩ := h
        refine ⟨_, run a b ha hb h0 h1 h2 (.inl hmn), .d ?_⟩
        refine hr.cut (by omega) (by omega) ((hemp _ hs).imp Nat.eq_of_beq_eq_true id) _ (fun hp => ?_) ?_
        · simp only [hmn, Option.isSome_none, Bool.false_eq_true, if_false] at hp
          omega
        · simp only [hmn, Option.isSome_none, Bool.false_eq_true, if_false]
          omega
      · rename_i a b k m ha hb
        simp only [Option.some.injEq, Prod.mk.injEq, Bool.and_eq_true, decide_eq_true_eq] at h
        obtain ⟨⟨⟨⟨⟨hs, h0⟩, h1⟩, hbc⟩, h2⟩, rfl⟩ := h
        subst hbc
        obtain ⟨u, hu, hur⟩ := hmx _ rfl
        have hum := rep_int hur
        subst hum
        have hhn : hiv ≠ none := by
          cases hi with
          | none => exact absurd rfl (hhm (by simp))
          | some y => obtain ⟨u, hu, _⟩ := hhi y rfl; rw [hu]; simp
        have hrun := run a b ha hb h0 h1 h2 (.inr ⟨hhn, k, hu⟩)
        simp only [hu, Option.isSome_some, if_true] at hrun ⊢
        refine ⟨_, hrun, .own (hr.cut (by omega) (by omega) ((hemp _ hs).imp Nat.eq_of_beq_eq_true id) _ (fun hp => hp) (Nat.le_refl _)) ?_⟩
        cases hao : (if b.toNat = a.toNat then ao else ao.map (·.add (a.toNat * te.size))) with
        | none =>
          left
          have : b.toNat - a.toNat = 0 := by
            split at hao
            · omega
            · have hx0 : xs = [] := by
                rcases List.eq_nil_or_concat xs with h | ⟨_, _, h⟩
                · exact h
                · obtain ⟨b', o', _, hh, _⟩ := hne (by rw [h]; simp)
                  rw [hh] at hao; cases hao
              subst hx0
              simp at h2; omega
          rw [this]
        | some x => exact .inr ⟨x, _, rfl⟩
      · cases h
    · cases h
  · cases h

theorem foldI_sound {γ : Gh} (w : World) (mx : Bool) {k : IntKind} : ∀ (r : List PV) (vs : List Value) (a : Int) (d : D), RepL γ r vs → foldI (if mx then max else min) k a r = some d →
    ∃ u, (vs.foldlM (if mx then Builtin.max2 else Builtin.min2) (.int k a)).run P w = .ok u w ∧ RepD γ.K d u
  | [], vs, a, d, h, hd => by
    have : vs = [] := List.eq_nil_of_length_eq_zero (by simpa using h.1.symm)
    subst this
    simp only [foldI, Option.some.injEq] at hd
    subst hd
    exact ⟨_, rfl, .int _ _⟩
  | x :: r, vs, a, d, h, hd => by
    obtain ⟨v, vs, rfl, h1, h2⟩ := h.cons_inv
    have hx : ∃ b, x = .d (.int k b) ∧ foldI (if mx then max else min) k ((if mx then max else min) a b) r = some d := by
      cases x with
      | d y =>
        cases y with
        | int k' b =>
          simp only [foldI] at hd
          by_cases hk : k = k'
          · subst hk; rw [if_pos rfl] at hd; exact ⟨b, rfl, hd⟩
          · rw [if_neg hk] at hd; cases hd
        | _ => simp [foldI] at hd
      | _ => simp [foldI] at hd
    obtain ⟨b, rfl, hd'⟩ := hx
    rw [rep_int h1]
    obtain ⟨u, hu, hr⟩ := foldI_sound w mx r vs _ d h2 hd'
    refine ⟨u, ?_, hr⟩
    rw [← hu]
    cases mx
    · simp only [Bool.false_eq_true, if_false, List.foldlM_cons, Sem.run_bind, Builtin.min2, Sem.run_pure, Result.andThen_ok]
      rw [show (if b < a then b else a) = min a b by simp only [Int.min_def]; split <;> split <;> omega]
    · simp only [if_true, List.foldlM_cons, Sem.run_bind, Builtin.max2, Sem.run_pure, Result.andThen_ok]
      rw [show (if b > a then b else a) = max a b by simp only [Int.max_def]; split <;> split <;> omega]

/-- A builtin that only reckons. -/
theorem evalBuiltin_sound (hT : TabOk P T) {γ : Gh} (w : World) {b : Builtin} {ts : List TypeId} {ty : TypeId} {args : List PV} {vs : List Value} {consts : Array Bool} {v : PV} (ha : RepL γ args vs)
    (h : evalBuiltin T b ts args = some (true, v)) : ∃ u, (builtin b ts.toArray ty consts vs.toArray).run P w = .ok (.value u) w ∧ Rep γ v u := by
  unfold evalBuiltin at h
  split at h
  · rename_i t ts x args
    obtain ⟨xv, vs, rfl, hx, _⟩ := ha.cons_inv
    split at h
    · rename_i ti ht
      obtain ⟨i, d, hi, hd, _, _, _, hk, _⟩ := hT.facts ht
      split at h
      · rename_i l hti
        simp only [Option.some.injEq, Prod.mk.injEq, true_and] at h
        subst h
        rw [hti] at hk
        cases d <;> simp only [TK.of, reduceCtorEq] at hk
        rw [rep_str hx]
        have hsz : (ByteArray.mk l.toArray).size = l.length := by simp [ByteArray.size]
        exact ⟨.int .i64 l.length, by simp [builtin, Builtin.len_, run_underlying hd, goInt, hsz], .d (.int _ _)⟩
      · rename_i e sz xs hti
        simp only [Option.some.injEq, Prod.mk.injEq, true_and] at h
        subst h
        rw [hti] at hk
        cases d <;> simp only [TK.of, reduceCtorEq] at hk
        obtain ⟨a, c, rfl, _⟩ := (asSl_rep hx rfl).sl_flat
        exact ⟨.int .i64 xs.length, by simp [builtin, Builtin.len_, run_underlying hd, goInt], .d (.int _ _)⟩
      · rename_i e sz xs tk hti
        simp only [Option.some.injEq, Prod.mk.injEq, true_and] at h
        subst h
        rw [hti] at hk
        cases d <;> simp only [TK.of, reduceCtorEq] at hk
        obtain ⟨a, c, rfl, _⟩ := (asSl_rep hx rfl).sl_flat
        exact ⟨.int .i64 xs.length, by simp [builtin, Builtin.len_, run_underlying hd, goInt], .d (.int _ _)⟩
      · rename_i e id sz lo n cap hti
        simp only [Option.some.injEq, Prod.mk.injEq, true_and] at h
        subst h
        rw [hti] at hk
        cases d <;> simp only [TK.of, reduceCtorEq] at hk
        cases hx
        exact ⟨.int .i64 n, by simp [builtin, Builtin.len_, run_underlying hd, goInt], .d (.int _ _)⟩
      · rename_i n e hti
        simp only [Option.some.injEq, Prod.mk.injEq, true_and] at h
        subst h
        rw [hti] at hk
        cases d <;> simp only [TK.of, reduceCtorEq, TK.array.injEq] at hk
        obtain ⟨rfl, rfl⟩ := hk
        exact ⟨.int .i64 _, by simp [builtin, Builtin.len_, run_underlying hd, goInt], .d (.int _ _)⟩
      · cases h
    · cases h
  · rename_i ts k a r
    simp only [Option.map_eq_some_iff, Prod.mk.injEq, true_and] at h
    obtain ⟨d, hf, rfl⟩ := h
    obtain ⟨xv, vs, rfl, hx, hr⟩ := ha.cons_inv
    rw [rep_int hx]
    obtain ⟨u, hu, hur⟩ := foldI_sound (P := P) w true r vs a d hr hf
    simp only [if_true] at hu
    exact ⟨u, by simp [builtin, Builtin.max_, hu], .d hur⟩
  · rename_i ts k a r
    simp only [Option.map_eq_some_iff, Prod.mk.injEq, true_and] at h
    obtain ⟨d, hf, rfl⟩ := h
    obtain ⟨xv, vs, rfl, hx, hr⟩ := ha.cons_inv
    rw [rep_int hx]
    obtain ⟨u, hu, hur⟩ := foldI_sound (P := P) w false r vs a d hr hf
    simp only [Bool.false_eq_true, if_false] at hu
    exact ⟨u, by simp [builtin, Builtin.min_, hu], .d hur⟩
  · cases h

end Go.PS

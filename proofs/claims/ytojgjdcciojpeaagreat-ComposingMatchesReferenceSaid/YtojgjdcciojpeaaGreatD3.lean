/-
  A part of the walks of this seat: each theorem says what a function of the program gives. No condition beyond its own premises.
-/
import Derived.Test.YtojgjdcciojpeaaGreatD2
namespace Go.PS
open Go Go.RowKit

variable {P : Program} {T : Nat → Option TI}

theorem RepD.cut {K} {sz : Nat} {xs : List D} {a : Option Addr} {c : Nat} (h : RepD K (.sl sz xs) (.slice a xs.length c)) {lo hi cc : Nat} (hlo : lo ≤ hi) (hhi : hi ≤ xs.length) {size : Nat} (hsz : sz = size ∨ xs = []) (p : Prop) [Decidable p]
    (hp : p → hi = lo) (hcc : hi - lo ≤ cc) : RepD K (.sl size ((xs.drop lo).take (hi - lo))) (.slice (if p then a else a.map (·.add (lo * size))) (hi - lo) cc) := by
  by_cases he : hi = lo
  · subst he
    simp only [Nat.sub_self, List.take_zero]
    exact .sl_nil _ _ _
  · rw [if_neg (fun h => he (hp h))]
    have hne : xs ≠ [] := fun e => by subst e; simp at hhi; omega
    have hsz' : sz = size := hsz.resolve_right hne
    subst hsz'
    have hlen : ((xs.drop lo).take (hi - lo)).length = hi - lo := by simp; omega
    cases h with
    | sl _ _ _ _ b o f _ ha hs hk h1 hr =>
      have hgx : ∀ (i : Nat) (x : D), ((xs.drop lo).take (hi - lo))[i]? = some x → xs[lo + i]? = some x := by
        intro i x hi'
        rw [List.getElem?_take] at hi'
        split at hi'
        · rwa [List.getElem?_drop] at hi'
        · cases hi'
      have key : RepD K (.sl sz ((xs.drop lo).take (hi - lo))) (.slice (some ⟨b, o + lo * sz, none⟩) ((xs.drop lo).take (hi - lo)).length cc) := by
        refine .sl sz _ _ cc b (o + lo * sz) (fun i j => f (lo + i) j) (by rw [hlen]; exact hcc) (fun _ => rfl) (fun i x hi' => hs _ x (hgx i x hi')) ?_ ?_ ?_
        · intro i j x d hi' hd
          have := hk _ j x d (hgx i x hi') hd
          rw [Nat.add_mul] at this
          rw [← this]; congr 1; omega
        · intro i j x d hi' hd; exact h1 _ j x d (hgx i x hi') hd
        · intro i j x d hi' hd; exact hr _ j x d (hgx i x hi') hd
      rw [hlen] at key
      rw [ha hne]
      simp only [Option.map_some, addr_add]
      exact key

theorem boundI_run {γ : Gh} {b : Option PV} {bv : Option Value} {dflt r : Int} (hb : ∀ x, b = some x → ∃ u, bv = some u ∧ Rep γ x u) (hn : b = none → bv = none) (h : boundI b dflt = some r) :
    (b = none ∧ bv = none ∧ r = dflt) ∨ ∃ k, bv = some (.int k r) := by
  cases b with
  | none => simp only [boundI, Option.some.injEq] at h; exact .inl ⟨rfl, hn rfl, h.symm⟩
  | some x =>
    right
    obtain ⟨u, rfl, hr⟩ := hb x rfl
    unfold boundI at h
    split at h
    · rename_i heq; cases heq
    · rename_i k i heq; cases heq; cases h; exact ⟨k, by rw [rep_int hr]⟩
    · cases h

theorem run_sliceBound {w : World} {k : IntKind} {i : Int} {y : Nat} {code : BoundsCode} (h0 : 0 ≤ i) (h1 : i ≤ y) : (Instr.sliceBound (.int k i) y code).run P w = .ok i.toNat w := by
  simp [Instr.sliceBound, asIntOf, h0, h1]

/-- The bounds of a cut, where they fit. -/
theorem run_sliceBounds {w : World} {sl : Bool} {len cap : Nat} {lo hi mx : Option Value} {a b : Int} (hla : (lo = none ∧ a = 0) ∨ ∃ k, lo = some (.int k a)) (hhb : (hi = none ∧ b = len) ∨ ∃ k, hi = some (.int k b))
    (h0 : 0 ≤ a) (h1 : a ≤ b) (h2 : b ≤ len) (hc : len ≤ cap) (hm : mx = none ∨ (hi ≠ none ∧ ∃ k, mx = some (.int k b))) :
    (Instr.sliceBounds sl len cap lo hi mx).run P w = .ok (a.toNat, b.toNat, if mx.isSome then b.toNat else cap) w := by
  have hb0 : 0 ≤ b := by omega
  have hbc : b ≤ (cap : Int) := by omega
  have e1 : ∀ k code, (Instr.sliceBound (.int k b) cap code).run P w = .ok b.toNat w := fun k code => run_sliceBound hb0 hbc
  have e2 : ∀ k code, (Instr.sliceBound (.int k a) b.toNat code).run P w = .ok a.toNat w := fun k code => run_sliceBound h0 (by omega)
  have e4 : ∀ k code, (Instr.sliceBound (.int k b) b.toNat code).run P w = .ok b.toNat w := fun k code => run_sliceBound hb0 (by omega)
  rcases hm with rfl | ⟨hne, km, rfl⟩
  · rcases hla with ⟨rfl, rfl⟩ | ⟨ka, rfl⟩ <;> rcases hhb with ⟨rfl, rfl⟩ | ⟨kb, rfl⟩ <;>
      (try simp only [Int.toNat_natCast] at e1 e2 e4) <;>
      simp [Instr.sliceBounds, e1, e2]
  · rcases hhb with ⟨rfl, rfl⟩ | ⟨kb, rfl⟩
    · exact absurd rfl hne
    · rcases hla with ⟨rfl, rfl⟩ | ⟨ka, rfl⟩ <;> simp [Instr.sliceBounds, e1, e2, e4]

theorem evalSliceH_sound (hT : TabOk P T) {γ : Gh} (w : World) {t : TypeId} {id sz l n cap : Nat} {xv : Value} {lo hi mx : Option PV} {lov hiv mxv : Option Value} {v : PV} (hx : Rep γ (.hrow id sz l n cap) xv)
    (hlo : ∀ y, lo = some y → ∃ u, lov = some u ∧ Rep γ y u) (hlon : lo = none → lov = none) (hhi : ∀ y, hi = some y → ∃ u, hiv = some u ∧ Rep γ y u) (hhin : hi = none → hiv = none)
    (hmx : ∀ y, mx = some y → ∃ u, mxv = some u ∧ Rep γ y u) (hmxn : mx = none → mxv = none)
    (hhm : mx ≠ none → hi ≠ none)
    (h : evalSliceH T t id sz l n cap lo hi mx = some (true, v)) : ValOk P γ w (Instr.sliceAt t xv lov hiv mxv) v := by
  unfold evalSliceH at h
  split at h
  · rename_i e z es ht
    obtain ⟨inf, d, hinf, hd, _, _, _, hk, _⟩ := hT.facts ht
    cases d <;> simp only [TK.of, reduceCtorEq, TK.slice.injEq] at hk
    subst hk
    cases hx with
    | hrow hm hcc hlc =>
    rename_i c blk
    split at h
    · rename_i te hte
      obtain ⟨i', d', hi', hd', _, hsz, _, _, _⟩ := hT.facts hte
      have run : ∀ (a b : Int), boundI lo 0 = some a → boundI hi n = some b → 0 ≤ a → a ≤ b → b ≤ n → (a = 0 ∨ a < b) → (mxv = none ∨ (hiv ≠ none ∧ ∃ k, mxv = some (.int k b))) →
          (Instr.sliceAt t (.slice (some ⟨blk, l * sz, none⟩) n c) lov hiv mxv).run P w = .ok (.slice (some ⟨blk, l * sz + a.toNat * te.size, none⟩) (b.toNat - a.toNat) ((if mxv.isSome then b.toNat else c) - a.toNat)) w := by
        intro a b ha hb h0 h1 h2 hab hm
        have hla := boundI_run hlo hlon ha
        have hlb := boundI_run hhi hhin hb
        have hbs := run_sliceBounds (P := P) (w := w) (sl := true) (len := n) (cap := c) (lo := lov) (hi := hiv) (mx := mxv) (a := a) (b := b)
          (hla.imp (fun h => ⟨h.2.1, h.2.2⟩) (fun h => h)) (hlb.imp (fun h => ⟨h.2.1, h.2.2⟩) (fun h => h)) h0 h1 h2 hlc hm
        simp only [Instr.sliceAt, Sem.run_bind, run_underlying hd, Instr.slice, Result.andThen_ok, hbs, run_sizeOf hi', hsz, Sem.run_pure]
        by_cases hp : (if mxv.isSome then b.toNat else c) = a.toNat
        · rcases hab with rfl | hab
          · simp [hp]
          · exfalso
            split at hp <;> omega
        · simp [hp, addr_add]
      split at h
      · rename_i a b ha hb
        have hmn := hmxn rfl
        simp only [Option.some.injEq, Prod.mk.injEq, Bool.and_eq_true, decide_eq_true_eq] at h
        obtain ⟨⟨⟨⟨hs, h0⟩, h1⟩, h2⟩, rfl⟩ := h
        have hs' := Nat.eq_of_beq_eq_true hs
        subst hs'
        by_cases hab : a = 0 ∨ a < b
        · have hd0 : (decide (a = b) && !decide (a = 0)) = false := by
            rcases hab with h | h
            · subst h; simp
            · rw [decide_eq_false (by omega)]; rfl
          rw [hd0]
          refine ⟨_, run a b ha hb h0 h1 h2 hab (.inl hmn), ?_⟩
          have key := Rep.hrow (lo := l + a.toNat) (len := b.toNat - a.toNat) (cap := cap - a.toNat) (c := c - a.toNat) hm (by omega) (by omega)
          rw [Nat.add_mul] at key
          simpa [hmn] using key
        · have hab1 : a = b := by omega
          have hd0 : (decide (a = b) && !decide (a = 0)) = true := by
            rw [decide_eq_true hab1, decide_eq_false (by omega)]; rfl
          rw [hd0]
          have hla := boundI_run hlo hlon ha
          have hlb := boundI_run hhi hhin hb
          have hbs := run_sliceBounds (P := P) (w := w) (sl := true) (len := n) (cap := c) (lo := lov) (hi := hiv) (mx := mxv) (a := a) (b := b)
            (hla.imp (fun h => ⟨h.2.1, h.2.2⟩) (fun h => h)) (hlb.imp (fun h => ⟨h.2.1, h.2.2⟩) (fun h => h)) h0 h1 h2 hlc (.inl hmn)
          have hz : b.toNat - a.toNat = 0 := by omega
          by_cases hp : c = a.toNat
          · refine ⟨.slice (some ⟨blk, l * te.size, none⟩) 0 (c - a.toNat), ?_, .d (.sl_nil _ _ _)⟩
            simp only [Instr.sliceAt, Sem.run_bind, run_underlying hd, Instr.slice, Result.andThen_ok, hbs, run_sizeOf hi', hsz, Sem.run_pure]
            simp [hmn, hp, hz]
          · refine ⟨.slice (some ⟨blk, l * te.size + a.toNat * te.size, none⟩) 0 (c - a.toNat), ?_, .d (.sl_nil _ _ _)⟩
            simp only [Instr.sliceAt, Sem.run_bind, run_underlying hd, Instr.slice, Result.andThen_ok, hbs, run_sizeOf hi', hsz, Sem.run_pure]
            simp [hmn, hp, hz, addr_add]
      · rename_i a b k m ha hb
        simp only [Option.some.injEq, Prod.mk.injEq, Bool.and_eq_true, Bool.or_eq_true, decide_eq_true_eq] at h
        obtain ⟨⟨⟨⟨⟨⟨hs, h0⟩, h1⟩, h2⟩, hab⟩, hbc⟩, rfl⟩ := h
        have hs' := Nat.eq_of_beq_eq_true hs
        subst hs'
        subst hbc
        obtain ⟨u, hmu, hur⟩ := hmx _ rfl
        have hum := rep_int hur
        subst hum
        have hin : hiv ≠ none := by
          have := hhm (by simp)
          cases hi with
          | none => exact absurd rfl this
          | some y => obtain ⟨u, hu, _⟩ := hhi y rfl; rw [hu]; simp
        refine ⟨_, run a b ha hb h0 h1 h2 hab (.inr ⟨hin, _, hmu⟩), ?_⟩
        have key := Rep.hrow (lo := l + a.toNat) (len := b.toNat - a.toNat) (cap := b.toNat - a.toNat) (c := b.toNat - a.toNat) hm (by omega) (by omega)
        rw [Nat.add_mul] at key
        simpa [hmu] using key
      · cases h
    · cases h
  · cases h

theorem evalSlice_sound (hT : TabOk P T) {γ : Gh} (w : World) {t : TypeId} {x : PV} {xv : Value} {lo hi mx : Option PV} {lov hiv mxv : Option Value} {v : PV} (hx : Rep γ x xv)
    (hlo : ∀ y, lo = some y → ∃ u, lov = some u ∧ Rep γ y u) (hlon : lo = none → lov = none) (hhi : ∀ y, hi = some y → ∃ u, hiv = some u ∧ Rep γ y u) (hhin : hi = none → hiv = none)
    (hmx : ∀ y, mx = some y → ∃ u, mxv = some u ∧ Rep γ y u) (hmxn : mx = none → mxv = none)
    (hhm : mx ≠ none → hi ≠ none)
    (h : evalSlice T t x lo hi mx = some (true, v)) : ValOk P γ w (Instr.sliceAt t xv lov hiv mxv) v := by
  unfold evalSlice at h
  split at h
  · rename_i z es ht
    obtain ⟨inf, d, hinf, hd, _, _, _, hk, _⟩ := hT.facts ht
    cases d <;> simp only [TK.of, reduceCtorEq] at hk
    split at h
    · rename_i l
      have := hmxn rfl
      subst this
      split at h
      · rename_i a b ha hb
        simp only [Option.some.injEq, Prod.mk.injEq, Bool.and_eq_true, decide_eq_true_eq] at h
        obtain ⟨⟨⟨h0, h1⟩, h2⟩, rfl⟩ := h
        rw [rep_str hx]
        have hla := boundI_run hlo hlon ha
        have hlb := boundI_run hhi hhin hb
        have hbs := run_sliceBounds (P := P) (w := w) (sl := false) (len := l.length) (cap := l.length) (lo := lov) (hi := hiv) (mx := none) (a := a) (b := b)
          (hla.imp (fun h => ⟨h.2.1, h.2.2⟩) id) (hlb.imp (fun h => ⟨h.2.1, h.2.2⟩) id) h0 h1 h2 (Nat.le_refl _) (.inl rfl)
        have hsz : (ByteArray.mk l.toArray).size = l.length := by simp [ByteArray.size]
        refine ⟨.string ((ByteArray.mk l.toArray).extract a.toNat b.toNat), ?_, ?_⟩
        · simp [Instr.sliceAt, run_underlying hd, Instr.slice, hsz, hbs]
        · have e : (ByteArray.mk l.toArray).extract a.toNat b.toNat = ByteArray.mk ((l.drop a.toNat).take (b.toNat - a.toNat)).toArray := by
            apply ByteArray.ext
            rw [ByteArray.data_extract]
            simp
          rw [e]
          exact .d (.str _)
      · cases h
    · cases h
  · rename_i e z es ht
    obtain ⟨inf, d, hinf, hd, _, _, _, hk, _⟩ := hT.facts ht
    cases d <;> simp only [TK.of, reduceCtorEq, TK.slice.injEq] at hk
    subst hk
    split at h
    · rename_i te sz xs hte hsl
      obtain ⟨i', d', hi', hd', _, hsz, _, _, _⟩ := hT.facts hte
      have hr := asSl_rep hx hsl
      obtain ⟨ao, c, rfl, hc, _, hne⟩ := hr.sl_flat
      have run : ∀ (a b : Int), boundI lo 0 = some a → boundI hi xs.length = some b → 0 ≤ a → a ≤ b → b ≤ xs.length → (mxv = none ∨ (hiv ≠ none ∧ ∃ k, mxv = some (.int k b))) →
          (Instr.sliceAt t (.slice ao xs.length c) lov hiv mxv).run P w = .ok (.slice (if (if mxv.isSome then b.toNat else c) = a.toNat then ao else ao.map (·.add (a.toNat * te.size))) (b.toNat - a.toNat) ((if mxv.isSome then b.toNat else c) - a.toNat)) w := by
        intro a b ha hb h0 h1 h2 hm
        have hla := boundI_run hlo hlon ha
        have hlb := boundI_run hhi hhin hb
        have hbs := run_sliceBounds (P := P) (w := w) (sl := true) (len := xs.length) (cap := c) (lo := lov) (hi := hiv) (mx := mxv) (a := a) (b := b)
          (hla.imp (fun h => ⟨h.2.1, h.2.2⟩) id) (hlb.imp (fun h => ⟨h.2.1, h.2.2⟩) id) h0 h1 h2 hc hm
        simp [Instr.sliceAt, run_underlying hd, Instr.slice, hbs, run_sizeOf hi', hsz]
      have hemp : ∀ b : Bool, (b || xs.isEmpty) = true → (b = true ∨ xs = []) := fun b hb => by simpa using hb
      split at h
      · rename_i a b ha hb
        have hmn := hmxn rfl
        simp only [Option.some.injEq, Prod.mk.injEq, Bool.and_eq_true, decide_eq_true_eq] at h
        obtain ⟨⟨⟨⟨hs, h0⟩, h1⟩, h2⟩, rfl⟩ := h
        refine ⟨_, run a b ha hb h0 h1 h2 (.inl hmn), .d ?_⟩
        refine hr.cut (by omega) (by omega) ((hemp _ hs).imp Nat.eq_of_beq_eq_true id) _ (fun hp => ?_) ?_
        · simp only [hmn, Option.isSome_none, Bool.false_eq_true, if_false] at hp
          omega
        · simp only [hmn, Option.isSome_none, Bool.false_eq_true, if_false]
          omega
      · rename_i a b k m ha hb
        simp only [Option.some.injEq, Prod.mk.injEq, Bool.and_eq_true, decide_eq_true_eq] at h
        obtain ⟨⟨⟨⟨⟨hs, h0⟩, h1⟩, hbc⟩, h2⟩, rfl⟩ := h
        subst hbc
        obtain ⟨u, hu, hur⟩ := hmx _ rfl
        have hum := rep_int hur
        subst hum
        have hhn : hiv ≠ none := by
          cases hi with
          | none => exact absurd rfl (hhm (by simp))
          | some y => obtain ⟨u, hu, _⟩ := hhi y rfl; rw [hu]; simp
        have hrun := run a b ha hb h0 h1 h2 (.inr ⟨hhn, k, hu⟩)
        simp only [hu, Option.isSome_some, if_true] at hrun ⊢
        refine ⟨_, hrun, .own (hr.cut (by omega) (by omega) ((hemp _ hs).imp Nat.eq_of_beq_eq_true id) _ (fun hp => hp) (Nat.le_refl _)) ?_⟩
        cases hao : (if b.toNat = a.toNat then ao else ao.map (·.add (a.toNat * te.size))) with
        | none =>
          left
          have : b.toNat - a.toNat = 0 := by
            split at hao
            · omega
            · have hx0 : xs = [] := by
                rcases List.eq_nil_or_concat xs with h | ⟨_, _, h⟩
                · exact h
                · obtain ⟨b', o', _, hh, _⟩ := hne (by rw [h]; simp)
                  rw [hh] at hao; cases hao
              subst hx0
              simp at h2; omega
          rw [this]
        | some x => exact .inr ⟨x, _, rfl⟩
      · cases h
    · cases h
  · cases h

theorem foldI_sound {γ : Gh} (w : World) (mx : Bool) {k : IntKind} : ∀ (r : List PV) (vs : List Value) (a : Int) (d : D), RepL γ r vs → foldI (if mx then max else min) k a r = some d →
    ∃ u, (vs.foldlM (if mx then Builtin.max2 else Builtin.min2) (.int k a)).run P w = .ok u w ∧ RepD γ.K d u
  | [], vs, a, d, h, hd => by
    have : vs = [] := List.eq_nil_of_length_eq_zero (by simpa using h.1.symm)
    subst this
    simp only [foldI, Option.some.injEq] at hd
    subst hd
    exact ⟨_, rfl, .int _ _⟩
  | x :: r, vs, a, d, h, hd => by
    obtain ⟨v, vs, rfl, h1, h2⟩ := h.cons_inv
    have hx : ∃ b, x = .d (.int k b) ∧ foldI (if mx then max else min) k ((if mx then max else min) a b) r = some d := by
      cases x with
      | d y =>
        cases y with
        | int k' b =>
          simp only [foldI] at hd
          by_cases hk : k = k'
          · subst hk; rw [if_pos rfl] at hd; exact ⟨b, rfl, hd⟩
          · rw [if_neg hk] at hd; cases hd
        | _ => simp [foldI] at hd
      | _ => simp [foldI] at hd
    obtain ⟨b, rfl, hd'⟩ := hx
    rw [rep_int h1]
    obtain ⟨u, hu, hr⟩ := foldI_sound w mx r vs _ d h2 hd'
    refine ⟨u, ?_, hr⟩
    rw [← hu]
    cases mx
    · simp only [Bool.false_eq_true, if_false, List.foldlM_cons, Sem.run_bind, Builtin.min2, Sem.run_pure, Result.andThen_ok]
      rw [show (if b < a then b else a) = min a b by simp only [Int.min_def]; split <;> split <;> omega]
    · simp only [if_true, List.foldlM_cons, Sem.run_bind, Builtin.max2, Sem.run_pure, Result.andThen_ok]
      rw [show (if b > a then b else a) = max a b by simp only [Int.max_def]; split <;> split <;> omega]

/-- A builtin that only reckons. -/
theorem evalBuiltin_sound (hT : TabOk P T) {γ : Gh} (w : World) {b : Builtin} {ts : List TypeId} {ty : TypeId} {args : List PV} {vs : List Value} {consts : Array Bool} {v : PV} (ha : RepL γ args vs)
    (h : evalBuiltin T b ts args = some (true, v)) : ∃ u, (builtin b ts.toArray ty consts vs.toArray).run P w = .ok (.value u) w ∧ Rep γ v u := by
  unfold evalBuiltin at h
  split at h
  · rename_i t ts x args
    obtain ⟨xv, vs, rfl, hx, _⟩ := ha.cons_inv
    split at h
    · rename_i ti ht
      obtain ⟨i, d, hi, hd, _, _, _, hk, _⟩ := hT.facts ht
      split at h
      · rename_i l hti
        simp only [Option.some.injEq, Prod.mk.injEq, true_and] at h
        subst h
        rw [hti] at hk
        cases d <;> simp only [TK.of, reduceCtorEq] at hk
        rw [rep_str hx]
        have hsz : (ByteArray.mk l.toArray).size = l.length := by simp [ByteArray.size]
        exact ⟨.int .i64 l.length, by simp [builtin, Builtin.len_, run_underlying hd, goInt, hsz], .d (.int _ _)⟩
      · rename_i e sz xs hti
        simp only [Option.some.injEq, Prod.mk.injEq, true_and] at h
        subst h
        rw [hti] at hk
        cases d <;> simp only [TK.of, reduceCtorEq] at hk
        obtain ⟨a, c, rfl, _⟩ := (asSl_rep hx rfl).sl_flat
        exact ⟨.int .i64 xs.length, by simp [builtin, Builtin.len_, run_underlying hd, goInt], .d (.int _ _)⟩
      · rename_i e sz xs tk hti
        simp only [Option.some.injEq, Prod.mk.injEq, true_and] at h
        subst h
        rw [hti] at hk
        cases d <;> simp only [TK.of, reduceCtorEq] at hk
        obtain ⟨a, c, rfl, _⟩ := (asSl_rep hx rfl).sl_flat
        exact ⟨.int .i64 xs.length, by simp [builtin, Builtin.len_, run_underlying hd, goInt], .d (.int _ _)⟩
      · rename_i e id sz lo n cap hti
        simp only [Option.some.injEq, Prod.mk.injEq, true_and] at h
        subst h
        rw [hti] at hk
        cases d <;> simp only [TK.of, reduceCtorEq] at hk
        cases hx
        exact ⟨.int .i64 n, by simp [builtin, Builtin.len_, run_underlying hd, goInt], .d (.int _ _)⟩
      · rename_i n e hti
        simp only [Option.some.injEq, Prod.mk.injEq, true_and] at h
        subst h
        rw [hti] at hk
        cases d <;> simp only [TK.of, reduceCtorEq, TK.array.injEq] at hk
        obtain ⟨rfl, rfl⟩ := hk
        exact ⟨.int .i64 _, by simp [builtin, Builtin.len_, run_underlying hd, goInt], .d (.int _ _)⟩
      · cases h
    · cases h
  · rename_i ts k a r
    simp only [Option.map_eq_some_iff, Prod.mk.injEq, true_and] at h
    obtain ⟨d, hf, rfl⟩ := h
    obtain ⟨xv, vs, rfl, hx, hr⟩ := ha.cons_inv
    rw [rep_int hx]
    obtain ⟨u, hu, hur⟩ := foldI_sound (P := P) w true r vs a d hr hf
    simp only [if_true] at hu
    exact ⟨u, by simp [builtin, Builtin.max_, hu], .d hur⟩
  · rename_i ts k a r
    simp only [Option.map_eq_some_iff, Prod.mk.injEq, true_and] at h
    obtain ⟨d, hf, rfl⟩ := h
    obtain ⟨xv, vs, rfl, hx, hr⟩ := ha.cons_inv
    rw [rep_int hx]
    obtain ⟨u, hu, hur⟩ := foldI_sound (P := P) w false r vs a d hr hf
    simp only [Bool.false_eq_true, if_false] at hu
    exact ⟨u, by simp [builtin, Builtin.min_, hu], .d hur⟩
  · cases h

end Go.PS
namespace Go.PS
open Go Go.RowKit

variable {P : Program} {T : Nat → Option TI}
variable {E : Env} {γ : Gh} {own : Nat → Option Nat} {ob : Nat → Option OB} {tk : Nat → TS} {w : World}

theorem flat_one (x : PV) : flat [x] = x.cells := by simp [flat]

/-- 'new': an object of one element. -/
theorem alloc_sound (hw : ConcW E γ own ob tk w) {d : Nat} {t : TypeId} {x : PV} {u : Value} (hx : Rep γ x u) {ti : TI} (hd : ob d = none) (hdn : d < E.n) (hty : Nat.ble mapTag t = false)
    (hl : x.cells.length = ti.size) (hc : x.cells.all PV.cell = true) :
    ∃ γ', GhLe γ γ' ∧ (newVar t u).run P w = .ok ⟨w.heap.size, 0, none⟩ (w.alloc (.cells u.cells t)) ∧ Rep γ' (.hp d 0 0) (.pointer (some ⟨w.heap.size, 0, none⟩)) ∧
      ConcW E γ' own (upd ob d (some ⟨t, ti.size, [x]⟩)) tk (w.alloc (.cells u.cells t)) := by
  obtain ⟨hr, h1⟩ := hx.cells hc
  obtain ⟨γ', hle, hm, hw'⟩ := hw.newObj hd hdn (o := ⟨t, ti.size, [x]⟩) (cs := u.cells) (by rw [flat_one]; exact hr) h1 (by simpa using hl)
  rw [objOf_cells (ty := t) hty] at hw'
  simp only [Array.append_empty] at hw'
  refine ⟨γ', hle, by simp [newVar, newRow], ?_, hw'⟩
  have := Rep.hp (γ := γ') (i := 0) (off := 0) hm
  simpa using this

/-- A store into an object of the walk's own. -/
theorem setSubV_get : ∀ (us vs : List Value) (off j : Nat), off + us.length ≤ vs.length → (setSubV vs off us)[j]? = if off ≤ j ∧ j < off + us.length then us[j - off]? else vs[j]?
  | [], vs, off, j, _ => by
    rw [if_neg (by simp)]; rfl
  | u :: us, vs, off, j, h => by
    simp only [List.length_cons] at h
    rw [setSubV, setSubV_get us (vs.set off u) (off + 1) j (by simp; omega)]
    simp only [List.length_cons]
    by_cases hj : j = off
    · subst hj
      rw [if_neg (by omega), if_pos (by omega)]
      simp [show j < vs.length by omega]
    · by_cases h1 : off + 1 ≤ j ∧ j < off + 1 + us.length
      · rw [if_pos h1, if_pos (by omega), show j - off = (j - (off + 1)) + 1 by omega]
        simp
      · rw [if_neg h1, if_neg (by omega), List.getElem?_set_ne (Ne.symm hj)]

theorem setSubV_split (us vs : List Value) (off : Nat) (h : off + us.length ≤ vs.length) : setSubV vs off us = vs.take off ++ us ++ vs.drop (off + us.length) := by
  apply List.ext_getElem?
  intro j
  rw [setSubV_get us vs off j h]
  simp only [List.getElem?_append, List.length_append, List.length_take, List.getElem?_take, List.getElem?_drop]
  have hm : min off vs.length = off := by omega
  rw [hm]
  by_cases h1 : j < off
  · rw [if_neg (by omega), if_pos (by omega), if_pos h1, if_pos h1]
  · by_cases h2 : j < off + us.length
    · rw [if_pos (by omega), if_pos h2, if_neg h1]
    · rw [if_neg (by omega), if_neg h2]
      congr 1; omega

theorem flat_set (sz : Nat) : ∀ (l : List PV) (i : Nat) (x : PV), (∀ e ∈ l, e.cells.length = sz) → x.cells.length = sz → i < l.length →
    flat (l.set i x) = (flat l).take (i * sz) ++ x.cells ++ (flat l).drop (i * sz + sz)
  | [], i, x, _, _, h => by simp at h
  | e :: l, 0, x, hl, hx, _ => by
    have he := hl e (by simp)
    simp only [flat, List.set_cons_zero, List.flatMap_cons, Nat.zero_mul, List.take_zero, List.nil_append, Nat.zero_add]
    rw [List.drop_append_of_le_length (by omega), List.drop_of_length_le (by omega)]
    simp
  | e :: l, i + 1, x, hl, hx, h => by
    have he := hl e (by simp)
    have ih := flat_set sz l i x (fun y hy => hl y (by simp [hy])) hx (by simpa using h)
    simp only [flat, List.set_cons_succ, List.flatMap_cons] at ih ⊢
    rw [ih, Nat.add_mul, Nat.one_mul]
    rw [List.take_append, List.drop_append]
    rw [List.take_of_length_le (show e.cells.length ≤ i * sz + sz by omega), List.drop_of_length_le (show e.cells.length ≤ i * sz + sz + sz by omega)]
    rw [show i * sz + sz - e.cells.length = i * sz by omega, show i * sz + sz + sz - e.cells.length = i * sz + sz by omega]
    simp [List.append_assoc]

theorem setSub_all (xs : List PV) : ∀ (cs : List PV) (off : Nat), cs.all PV.cell = true → xs.all PV.cell = true → (setSub xs off cs).all PV.cell = true := by
  intro cs
  induction cs generalizing xs with
  | nil => intro off _ h; exact h
  | cons c cs ih =>
    intro off h1 h2
    simp only [List.all_cons, Bool.and_eq_true] at h1
    refine ih (xs.set off c) (off + 1) h1.2 ?_
    rw [List.all_eq_true] at h2 ⊢
    intro y hy
    rcases List.mem_or_eq_of_mem_set hy with h | h
    · exact h2 y h
    · subst h; exact h1.1

theorem replSub_cells {x y : PV} {off : Nat} (h : off + y.cells.length ≤ x.cells.length) : (replSub x off y).cells = setSub x.cells off y.cells := by
  unfold replSub
  cases hc : (Nat.beq off 0 && Nat.beq y.cells.length x.cells.length) with
  | true =>
    simp only [Bool.and_eq_true] at hc
    have h0 := Nat.eq_of_beq_eq_true hc.1
    have hl := Nat.eq_of_beq_eq_true hc.2
    subst h0
    simp only [cond_true]
    have key : ∀ (a b c : List PV), a.length = b.length → setSub (c ++ a) c.length b = c ++ b := by
      intro a
      induction a with
      | nil => intro b c hl; cases b with
        | nil => rfl
        | cons _ _ => simp at hl
      | cons x a ih => intro b c hl; cases b with
        | nil => simp at hl
        | cons y b =>
          simp only [setSub]
          have := ih b (c ++ [y]) (by simpa using hl)
          simpa using this
    simpa using (key x.cells y.cells [] hl.symm).symm
  | false => rfl

theorem evalStore_sound (hT : TabOk P T) (hw : ConcW E γ own ob tk w) {t : TypeId} {a x v : PV} {au xu : Value} {eff : HEff} (ha : Rep γ a au) (hx : Rep γ x xu) (h : evalStore T t a x ob = some (true, v, eff)) :
    ∃ id o w', v = .tup [] ∧ eff = .obj id o ∧ (Instr.storeAt t au xu).run P w = .ok () w' ∧ ConcW E γ own (upd ob id (some o)) tk w' := by
  unfold evalStore at h
  split at h
  · rename_i ti id i off ht
    split at h
    · rename_i o ho
      simp only [Option.some.injEq, Prod.mk.injEq, Bool.and_eq_true] at h
      obtain ⟨⟨⟨⟨⟨h0, h1⟩, h2⟩, h3⟩, h4⟩, rfl, rfl⟩ := h
      have hty : Nat.ble mapTag o.ty = false := by simpa [mapTag] using h0
      have hi := Nat.lt_of_lt_of_le (Nat.lt_succ_self _) (Nat.le_of_ble_eq_true (by simpa [Nat.blt] using h1))
      have hxl := Nat.eq_of_beq_eq_true h2
      have hle := Nat.le_of_ble_eq_true h4
      obtain ⟨inf, d, hinf, hd, hz, hs, hb, hk, _⟩ := hT.facts ht
      obtain ⟨blk, cs, hm, hok⟩ := hw.obj id o ho
      obtain ⟨blk', sz', hm', rfl⟩ := rep_hp ha
      rw [hm] at hm'; cases hm'
      have hxm : o.elems[i]? = some (o.elems.getD i .any) := by simp [List.getD, hi]
      have hsz := hok.size _ (List.mem_of_getElem? hxm)
      have hfl := flatMap_len PV.cells o.sz o.elems hok.size
      have hcl : cs.toList.length = o.elems.length * o.sz := by rw [← hok.rep.1]; exact hfl
      have hle2 : i * o.sz + o.sz ≤ o.elems.length * o.sz := by rw [← Nat.succ_mul]; exact Nat.mul_le_mul_right _ hi
      obtain ⟨hxr, hx1⟩ := hx.cells h3
      have hxlen : xu.cells.toList.length = ti.size := by rw [← hxr.1]; exact hxl
      have hfit : i * o.sz + off + xu.cells.toList.length ≤ cs.toList.length := by rw [hxlen]; omega
      obtain ⟨spare, hheap⟩ := hok.heap
      rw [objOf_cells hty] at hheap
      have hrun := run_storeCells_at P blk (i * o.sz + off) o.ty xu.cells.toList 0 (cs ++ spare) w hheap (by simp only [Array.size_append]; simp only [Array.length_toList] at hfit ⊢; omega) hx1
      simp only [Nat.add_zero] at hrun
      have hcs' : ((cs ++ spare).toList.take (i * o.sz + off) ++ xu.cells.toList ++ (cs ++ spare).toList.drop (i * o.sz + off + xu.cells.toList.length)).toArray = (setSubV cs.toList (i * o.sz + off) xu.cells.toList).toArray ++ spare := by
        rw [setSubV_split _ _ _ hfit]
        apply Array.ext'
        simp only [Array.toList_append, List.append_assoc]
        rw [List.take_append_of_le_length (by omega), List.drop_append_of_le_length (by omega)]
      refine ⟨id, _, _, rfl, rfl, ?_, hw.setObj ho hm hok rfl (cs' := (setSubV cs.toList (i * o.sz + off) xu.cells.toList).toArray) (spare := spare) ?_ ?_ ?_ ((setRow_heap w blk (cs ++ spare) _ o.ty (0, 0) hheap).trans (by rw [objOf_cells hty])) (fun k hk => setRow_other w blk k _ hk) rfl rfl rfl (by simp [World.setRow])⟩
      · simp only [Instr.storeAt, Instr.sureAddr, Sem.run_bind, Sem.run_pure, Result.andThen_ok, storeVar, run_sizeOf hinf, hs]
        rw [if_neg (by rw [← Array.length_toList, hxlen]; simp), hrun, hcs']
      · have hxr2 : (replSub (o.elems.getD i .any) off x).cells = setSub (o.elems.getD i .any).cells off x.cells := replSub_cells (by rw [hxl]; exact hle)
        have hxr3 : (replSub (o.elems.getD i .any) off x).cells.length = o.sz := by rw [hxr2, setSub_len]; exact hsz
        have hfs : flat (o.elems.set i (replSub (o.elems.getD i .any) off x)) = setSub (flat o.elems) (i * o.sz + off) x.cells := by
          rw [flat_set o.sz o.elems i _ hok.size hxr3 hi, hxr2]
          have e1 : flat o.elems = (flat o.elems).take (i * o.sz) ++ (o.elems.getD i .any).cells ++ (flat o.elems).drop (i * o.sz + o.sz) := by
            have := flat_set o.sz o.elems i (o.elems.getD i .any) hok.size hsz hi
            rw [← this]
            congr 1
            apply List.ext_getElem?
            intro j
            rw [List.getElem?_set]
            by_cases hij : i = j
            · subst hij; rw [if_pos rfl, if_pos hi]; exact hxm
            · rw [if_neg hij]
          have hp : ((flat o.elems).take (i * o.sz)).length = i * o.sz := by rw [List.length_take]; unfold flat; rw [hfl]; omega
          generalize hA : (flat o.elems).take (i * o.sz) = A at *
          generalize hB : (flat o.elems).drop (i * o.sz + o.sz) = Bq at *
          generalize hX : (o.elems.getD i .any).cells = X at *
          rw [e1]
          have key : ∀ (cs : List PV) (A X B : List PV) (off : Nat), off + cs.length ≤ X.length → setSub (A ++ X ++ B) (A.length + off) cs = A ++ setSub X off cs ++ B := by
            intro cs
            induction cs with
            | nil => intro A X B off _; rfl
            | cons c cs ih =>
              intro A X B off hlen
              simp only [List.length_cons] at hlen
              simp only [setSub]
              have : (A ++ X ++ B).set (A.length + off) c = A ++ X.set off c ++ B := by
                rw [List.append_assoc, List.set_append_right _ _ (by omega), Nat.add_sub_cancel_left, List.set_append_left _ _ (by omega), List.append_assoc]
              rw [this]
              have := ih A (X.set off c) B (off + 1) (by simp; omega)
              rw [← Nat.add_assoc] at this
              exact this
          have := key x.cells A X Bq off (by omega)
          rw [hp] at this
          exact this.symm
        simp only [hfs]
        simpa using hok.rep.setSub (i * o.sz + off) hxr
      · simpa using setSubV_mem (p := fun u => u.oneCell' = true) (i * o.sz + off) (fun v hv => hok.one v hv) hx1
      · intro e he
        rcases List.mem_or_eq_of_mem_set he with h | h
        · exact hok.size e h
        · subst h
          rw [replSub_cells (by rw [hxl]; exact hle), setSub_len]; exact hsz
    · cases h
  · cases h

theorem flat_ofD1' : ∀ l : List D, flat (l.map PV.ofD.PV.ofD1) = (l.flatMap D.cells).map .d
  | [] => rfl
  | x :: l => by
    have ih := flat_ofD1' l
    simp only [flat] at ih
    cases x <;> simp [flat, PV.cells, D.cells, PV.ofD.PV.ofD1, ih]
theorem RepL.takeN {γ : Gh} {cs : List PV} {vs : List Value} (h : RepL γ cs vs) (n : Nat) : RepL γ (cs.take n) (vs.take n) := by
  refine ⟨by simp [h.1], fun i x v hx hv => ?_⟩
  rw [List.getElem?_take] at hx hv
  split at hx
  · rw [if_pos (by assumption)] at hv
    exact h.2 i x v hx hv
  · cases hx
theorem lenOf_slice (b : Option Addr) (n c : Nat) : (Builtin.lenOf (.slice b n c)).run P w = .ok n w := by simp [Builtin.lenOf]
theorem evalCopy_sound (hT : TabOk P T) (hw : ConcW E γ own ob tk w) {t t2 ty : TypeId} {d s v : PV} {du su : Value} {eff : HEff} (hd : Rep γ d du) (hs : Rep γ s su) (h : evalCopy T t d s ob = some (true, v, eff)) :
    ∃ w' n, v = .d (.int .i64 n) ∧ (Builtin.copy_ #[t, t2] ty #[du, su]).run P w = .ok (.int .i64 n) w' ∧ ConcW E γ own (eff.obA ob) (eff.tkA tk) w' := by
  unfold evalCopy at h
  split at h
  · rename_i e id sz lo len cap sz2 ys ht hsl
    split at h
    · rename_i te o hte ho
      simp only [Option.some.injEq, Prod.mk.injEq, Bool.and_eq_true] at h
      obtain ⟨⟨⟨⟨⟨h0, h1⟩, h2⟩, h3⟩, h4⟩, rfl, rfl⟩ := h
      have hty : Nat.ble mapTag o.ty = false := by simpa [mapTag] using h0
      have hosz := Nat.eq_of_beq_eq_true h1
      have hyl := Nat.le_of_ble_eq_true h3
      have hll := Nat.le_of_ble_eq_true h4
      have hsy : sz2 = te.size ∨ ys = [] := by simpa using h2
      obtain ⟨inf, dd, hinf, hdd, _, _, _, hk, _⟩ := hT.facts ht
      cases dd <;> simp only [TK.of, reduceCtorEq, TK.slice.injEq] at hk
      rename_i e
      subst hk
      obtain ⟨i, d', hi, hd', hz, hsz, hby, _, _⟩ := hT.facts hte
      obtain ⟨blk, cs, hm, hok⟩ := hw.obj id o ho
      have hfl := flatMap_len PV.cells o.sz o.elems hok.size
      have hcl : cs.toList.length = o.elems.length * o.sz := by rw [← hok.rep.1]; exact hfl
      obtain ⟨spare, hheap⟩ := hok.heap
      rw [objOf_cells hty] at hheap
      have hysR := asSl_rep hs hsl
      obtain ⟨a2, c2, rfl, hc2, hlen2, hne2⟩ := hysR.sl_flat
      -- the new cells
      have hnews : ∃ news : List Value, news.length = ys.length * te.size ∧ RepDL γ.K (ys.flatMap D.cells) news ∧ (∀ u ∈ news, u.oneCell' = true) ∧ (∀ y ∈ ys, y.cells.length = te.size) ∧
          (Builtin.firstCells te.size ys.length (.slice a2 ys.length c2)).run P w = .ok news.toArray w := by
        by_cases hy0 : ys = []
        · subst hy0
          refine ⟨[], by simp, .nil, by simp, by simp, ?_⟩
          cases a2 with
          | none => exact run_firstCells_none w _ _ _ _
          | some a => exact run_firstCells_some w _ _ _ _ _ [] (by simp) (by simp)
        · have hsz' := hsy.resolve_right hy0
          subst hsz'
          obtain ⟨b2, o2, news, ha2, hnlen, hnK, hnr, hn1⟩ := hne2 hy0
          subst ha2
          have hnews : ∀ (j : Nat) (u : Value), news[j]? = some u → w.cell? ((⟨b2, o2, none⟩ : Addr).add j) = some u := fun j u hu => by rw [addr_add]; exact (hw.ksub _ _ _ (hnK j u hu)).cell (hn1 u (List.mem_of_getElem? hu))
          exact ⟨news, hnlen, hnr, hn1, hlen2, run_firstCells_some w _ _ _ _ _ news hnlen hnews⟩
      obtain ⟨news, hnl, hnr, hn1, hns, hfirst⟩ := hnews
      generalize hdu : du = du' at hd
      cases hd with
      | hrow hg hc hl =>
      rename_i capv blk'
      rw [hm] at hg
      cases hg
      have hfit : lo * o.sz + news.length ≤ cs.toList.length := by
        rw [hnl, hcl, hosz, ← Nat.add_mul]
        exact Nat.mul_le_mul_right _ (by omega)
      have hrun := run_storeCells_at P blk (lo * o.sz) o.ty news 0 (cs ++ spare) w hheap (by simp only [Array.size_append]; simp only [Array.length_toList] at hfit ⊢; omega) hn1
      simp only [Nat.add_zero] at hrun
      have hcs' : ((cs ++ spare).toList.take (lo * o.sz) ++ news ++ (cs ++ spare).toList.drop (lo * o.sz + news.length)).toArray = (cs.toList.take (lo * o.sz) ++ news ++ cs.toList.drop (lo * o.sz + news.length)).toArray ++ spare := by
        apply Array.ext'
        simp only [Array.toList_append, List.append_assoc]
        rw [List.take_append_of_le_length (by omega), List.drop_append_of_le_length (by omega)]
      have hmin : Nat.min ys.length len = ys.length := Nat.min_eq_left hyl
      have hcopy : (Builtin.copy_ #[t, t2] ty #[.slice (some ⟨blk, lo * o.sz, none⟩) len capv, .slice a2 ys.length c2]).run P w =
          .ok (goInt ys.length) (w.setRow blk ((cs.toList.take (lo * o.sz) ++ news ++ cs.toList.drop (lo * o.sz + news.length)).toArray ++ spare)) := by
        rw [← hcs']
        simp [Builtin.copy_, run_underlying hdd, Builtin.lenOf, sizeOf, typeInfo, hi, hsz, hmin, hfirst, hrun]
      refine ⟨_, ys.length, rfl, hcopy, hw.setObj ho hm hok rfl (cs' := (cs.toList.take (lo * o.sz) ++ news ++ cs.toList.drop (lo * o.sz + news.length)).toArray) (spare := spare) ?_ ?_ ?_ ((setRow_heap w blk (cs ++ spare) _ o.ty (0, 0) hheap).trans (by rw [objOf_cells hty])) (fun k hk => setRow_other w blk k _ hk) rfl rfl rfl (by simp [World.setRow])⟩
      · have e1 : flat (o.elems.take lo ++ ys.map PV.ofD.PV.ofD1 ++ o.elems.drop (lo + ys.length)) = (flat o.elems).take (lo * o.sz) ++ flat (ys.map PV.ofD.PV.ofD1) ++ (flat o.elems).drop (lo * o.sz + news.length) := by
          have hlo : lo ≤ o.elems.length := by omega
          have t1 : flat (o.elems.take lo) = (flat o.elems).take (lo * o.sz) := by
            have e : o.elems = o.elems.take lo ++ o.elems.drop lo := (List.take_append_drop _ _).symm
            have l1 : (flat (o.elems.take lo)).length = lo * o.sz := by
              have := flatMap_len PV.cells o.sz (o.elems.take lo) (fun x hx => hok.size x (List.mem_of_mem_take hx))
              unfold flat; rw [this, List.length_take, Nat.min_eq_left hlo]
            have e2 : flat o.elems = flat (o.elems.take lo) ++ flat (o.elems.drop lo) := by
              have := List.flatMap_append (f := PV.cells) (xs := o.elems.take lo) (ys := o.elems.drop lo)
              rw [List.take_append_drop] at this
              exact this
            rw [e2, List.take_append_of_le_length (by omega), ← l1, List.take_length]
          have t2 : flat (o.elems.drop (lo + ys.length)) = (flat o.elems).drop (lo * o.sz + news.length) := by
            have hlo : lo + ys.length ≤ o.elems.length := by omega
            have l1 : (flat (o.elems.take (lo + ys.length))).length = lo * o.sz + news.length := by
              have := flatMap_len PV.cells o.sz (o.elems.take (lo + ys.length)) (fun x hx => hok.size x (List.mem_of_mem_take hx))
              unfold flat; rw [this, List.length_take, Nat.min_eq_left hlo, Nat.add_mul, hnl, hosz]
            have e2 : flat o.elems = flat (o.elems.take (lo + ys.length)) ++ flat (o.elems.drop (lo + ys.length)) := by
              have := List.flatMap_append (f := PV.cells) (xs := o.elems.take (lo + ys.length)) (ys := o.elems.drop (lo + ys.length))
              rw [List.take_append_drop] at this
              exact this
            rw [e2, ← l1, List.drop_left]
          rw [← t1, ← t2]
          simp only [flat, List.flatMap_append]
        show RepL γ (flat (o.elems.take lo ++ ys.map PV.ofD.PV.ofD1 ++ o.elems.drop (lo + ys.length))) _
        rw [e1]
        simp only [List.toList_toArray]
        have hny : RepL γ (flat (ys.map PV.ofD.PV.ofD1)) news := by rw [flat_ofD1']; exact hnr.toRep
        exact RepL.append (RepL.append (hok.rep.takeN _) hny) (hok.rep.drop _)
      · intro u hu
        simp only [List.toList_toArray, List.mem_append] at hu
        rcases hu with (hu | hu) | hu
        · exact hok.one u (List.mem_of_mem_take hu)
        · exact hn1 u hu
        · exact hok.one u (List.mem_of_mem_drop hu)
      · intro x hx
        show x.cells.length = o.sz
        have hx' : x ∈ o.elems.take lo ++ ys.map PV.ofD.PV.ofD1 ++ o.elems.drop (lo + ys.length) := hx
        simp only [List.mem_append] at hx'
        rcases hx' with (hx | hx) | hx
        · exact hok.size x (List.mem_of_mem_take hx)
        · obtain ⟨y, hy, rfl⟩ := List.mem_map.1 hx
          have : (PV.ofD.PV.ofD1 y).cells.length = y.cells.length := by cases y <;> simp [PV.ofD.PV.ofD1, PV.cells, D.cells]
          rw [this, hns y hy, hosz]
        · exact hok.size x (List.mem_of_mem_drop hx)
    · cases h
  · rename_i e sz0 sz2 ht hsl
    split at h
    · rename_i te hte
      simp only [Option.some.injEq, Prod.mk.injEq, true_and] at h
      obtain ⟨rfl, rfl⟩ := h
      obtain ⟨inf, dd, hinf, hdd, _, _, _, hk, _⟩ := hT.facts ht
      cases dd <;> simp only [TK.of, reduceCtorEq, TK.slice.injEq] at hk
      rename_i e
      subst hk
      obtain ⟨i, d', hi, hd', hz, hsz, hby, _, _⟩ := hT.facts hte
      have hysR := asSl_rep hs hsl
      obtain ⟨a2, c2, rfl, hc2, hlen2, hne2⟩ := hysR.sl_flat
      have hdR : RepD γ.K (.sl sz0 []) du := by cases hd with | d h => exact h
      obtain ⟨a1, c1, rfl, hc1, hlen1, hne1⟩ := hdR.sl_flat
      refine ⟨w, 0, rfl, ?_, hw⟩
      cases a1 <;> cases a2 <;> simp [Builtin.copy_, run_underlying hdd, Builtin.lenOf, sizeOf, typeInfo, hi, Builtin.firstCells, storeCells, loadCells, loadCellsFrom] <;> rfl
    · cases h
  · cases h

theorem run_append_zero (t ty e : TypeId) (i : TypeInfo) (ht : P.underlying t = some (.slice e)) (hi : P.info? e = some i) (base ax : Option Addr) (n cap c : Nat) (hle : n ≤ cap) :
    (Builtin.append_ #[t, t] ty #[.slice base n cap, .slice ax 0 c]).run P w = .ok (.slice base n cap) w := by
  cases base <;> cases ax <;> simp [Builtin.append_, run_underlying ht, sizeOf, typeInfo, hi, Builtin.lenOf, hle, Builtin.firstCells, storeCells, loadCells, loadCellsFrom]

theorem zero_size {z : Value} {n : Nat} (h1 : Nat.beq (ofConst z).cells.length n = true) (h2 : (ofConst z).cells.all PV.cell = true) : z.cells.size = n := by
  have h := ((rep_ofConst ⟨fun _ _ => none, fun _ => none, fun _ => none⟩ z).cells h2).1.1
  rw [← Array.length_toList, ← h]
  exact Nat.eq_of_beq_eq_true h1

theorem evalAppend_sound (hT : TabOk P T) (hw : ConcW E γ own ob tk w) {d : Nat} {t ty : TypeId} {s x v : PV} {su xu : Value} {eff : HEff} (hs : Rep γ s su) (hx : Rep γ x xu)
    (h : evalAppend T (some d) t s x tk = some (true, v, eff)) :
    ∃ kill e size γ' own' u w', eff = .tok kill d e size ∧ (Builtin.append_ #[t, t] ty #[su, xu]).run P w = .ok u w' ∧ GhLe γ γ' ∧ Rep γ' v u ∧
      ConcW E γ' own' ob (tkAfter tk kill d (.live e size)) w' := by
  unfold evalAppend at h
  split at h
  · rename_i e z es d' ht hd'
    cases hd'
    split at h
    · rename_i te sz xs tok sz2 ys hte hsl htd
      obtain ⟨inf, dd, hinf, hdd, _, _, _, hk, _⟩ := hT.facts ht
      cases dd <;> simp only [TK.of, reduceCtorEq, TK.slice.injEq] at hk
      rename_i e
      subst hk
      obtain ⟨i, d', hi, hd', hz, hsz, hby, _, _⟩ := hT.facts hte
      obtain ⟨hxsR, htok⟩ : RepD γ.K (.sl sz xs) su ∧ TokRep γ tok su := by cases hs with | own h1 h2 => exact ⟨h1, h2⟩
      have hysR := asSl_rep hx hsl
      obtain ⟨a1, c1, rfl, hc1, hlen1, hne1⟩ := hxsR.sl_flat
      obtain ⟨a2, c2, rfl, hc2, hlen2, hne2⟩ := hysR.sl_flat
      -- the kill and the condition, whatever the token
      have hmain : ∃ kill ls, v = .own te.size (xs ++ ys) (.tok d) ∧ eff = .tok kill d e ls ∧ (ls = te.size ∨ ls = te.size + 1000000 ∧ kill ≠ none) ∧
          (decide (te.size < 1000000) && (Nat.beq sz te.size || xs.isEmpty) && (Nat.beq sz2 te.size || ys.isEmpty) && decide ((xs.length + ys.length) * te.bytes ≤ 140737488355328) && decide (xs.length + ys.length ≤ 140737488355328) && !Nat.beq te.size 0 && Nat.beq (ofConst te.zero).cells.length te.size && (ofConst te.zero).cells.all PV.cell) = true ∧
          ((kill = none ∧ (.slice a1 xs.length c1 = Value.slice none 0 0 ∨ ∃ a n, Value.slice a1 xs.length c1 = .slice (some a) n n)) ∨ ∃ n, kill = some n ∧ tk n = .live e ls ∧ γ.τ n = some (.slice a1 xs.length c1)) := by
        split at h
        · simp only [Option.some.injEq, Prod.mk.injEq] at h
          exact ⟨none, te.size, h.2.1.symm, h.2.2.symm, .inl rfl, h.1, .inl ⟨rfl, htok⟩⟩
        · rename_i n
          split at h
          · rename_i e' size' hl
            simp only [Option.some.injEq, Prod.mk.injEq, Bool.and_eq_true] at h
            obtain ⟨⟨⟨hc, he⟩, hss⟩, hv, heff⟩ := h
            have he' := Nat.eq_of_beq_eq_true he
            have hs' : size' = te.size ∨ size' = te.size + 1000000 := by
              rcases (Bool.or_eq_true _ _).mp hss with h | h
              · exact .inl (Nat.eq_of_beq_eq_true h)
              · exact .inr (Nat.eq_of_beq_eq_true h)
            subst he'
            exact ⟨some n, size', hv.symm, heff.symm, hs'.imp id (fun h => ⟨h, by simp⟩), by simpa only [Bool.and_eq_true] using hc, .inr ⟨n, rfl, hl, htok⟩⟩
          · cases h
      obtain ⟨kill, ls, rfl, rfl, hls, hc, hkill⟩ := hmain
      simp only [Bool.and_eq_true, decide_eq_true_eq, Bool.not_eq_true'] at hc
      obtain ⟨⟨⟨⟨⟨⟨⟨hcm, hcx⟩, hcy⟩, hcb⟩, hcl⟩, hc0⟩, hcz⟩, hcz2⟩ := hc
      have hrl : rsz ls = te.size := by
        rcases hls with h | ⟨h, _⟩
        · rw [h]; exact rsz_lt hcm
        · rw [h]; exact rsz_mine hcm
      have hsx : sz = te.size ∨ xs = [] := by simpa using hcx
      have hsy : sz2 = te.size ∨ ys = [] := by simpa using hcy
      have hpos : 0 < te.size := by
        rcases Nat.eq_zero_or_pos te.size with h0 | h0
        · rw [h0] at hc0; simp at hc0
        · exact h0
      have hzs : te.zero.cells.size = te.size := zero_size hcz hcz2
      have hmx : xs.length + ys.length ≤ maxLen := by simp only [maxLen]; omega
      refine ⟨kill, e, ls, ?_⟩
      -- the cells of the first slice
      have hxflat : ∃ olds : List Value, olds.length = xs.length * te.size ∧ RepDL γ.K (xs.flatMap D.cells) olds ∧ (∀ u ∈ olds, u.oneCell' = true) ∧
          (∀ x ∈ xs, x.cells.length = te.size) ∧ (xs ≠ [] → ∃ b o, a1 = some ⟨b, o, none⟩ ∧ ∀ (j : Nat) (u : Value), olds[j]? = some u → γ.K b (o + j) = some u) := by
        by_cases hx0 : xs = []
        · subst hx0
          exact ⟨[], by simp, .nil, by simp, by simp, fun h => absurd rfl h⟩
        · have hsz' := hsx.resolve_right hx0
          subst hsz'
          obtain ⟨b, o, vals, ha, hl, hkv, hr, h1⟩ := hne1 hx0
          exact ⟨vals, hl, hr, h1, hlen1, fun _ => ⟨b, o, ha, hkv⟩⟩
      obtain ⟨olds, holen, hor, ho1, hosz, hoK⟩ := hxflat
      by_cases hy0 : ys = []
      · -- nothing is appended
        subst hy0
        have hFull : (kill = none ∧ FullV (.slice a1 xs.length c1)) ∨ ∃ t, kill = some t ∧ t ≠ d ∧ tk t = .live e ls ∧ γ.τ t = some (.slice a1 xs.length c1) := by
          rcases hkill with h | ⟨n, h1, h2, h3⟩
          · exact .inl h
          · exact .inr ⟨n, h1, (fun heq => by subst heq; rw [htd] at h2; cases h2), h2, h3⟩
        obtain ⟨γ', own', hK, hτ, hle, hw'⟩ := hw.pass htd (e := e) (size := ls) hFull (fun h1 h2 => by
          rcases hls with h | ⟨h, h3⟩
          · omega
          · exact absurd h2 h3)
        refine ⟨γ', own', _, w, rfl, run_append_zero t ty e i hdd hi a1 a2 xs.length c1 c2 hc1, hle, .own ?_ hτ, hw'⟩
        rw [List.append_nil, hK]
        by_cases hx0 : xs = []
        · subst hx0; exact .sl_nil _ _ _
        · rw [← hsx.resolve_right hx0]; exact hxsR
      · have hsz' := hsy.resolve_right hy0
        subst hsz'
        obtain ⟨b2, o2, news, ha2, hnlen, hnK, hnr, hn1⟩ := hne2 hy0
        subst ha2
        have hnews : ∀ (j : Nat) (u : Value), news[j]? = some u → w.cell? ((⟨b2, o2, none⟩ : Addr).add j) = some u := fun j u hu => by rw [addr_add]; exact (hw.ksub _ _ _ (hnK j u hu)).cell (hn1 u (List.mem_of_getElem? hu))
        have hypos : 0 < ys.length := List.length_pos_iff.2 hy0
        -- what the append leaves, in every case
        have hres : ∃ v' w' g n' cap cur, (Builtin.append_ #[t, t] ty #[.slice a1 xs.length c1, .slice (some ⟨b2, o2, none⟩) ys.length c2]).run P w = .ok v' w' ∧
            v' = .slice (some ⟨g, 0, none⟩) n' cap ∧ n' = xs.length + ys.length ∧ w'.heap[g]? = some (.cells cur e (0, 0)) ∧ n' ≤ cap ∧ cap ≤ maxLen ∧ cur.size = cap * te.size ∧
            cur.toList.take (n' * te.size) = olds ++ news ∧ w'.os = w.os ∧ w'.tape = w.tape ∧ w'.output = w.output ∧ w.heap.size ≤ w'.heap.size ∧
            (∀ k, k < w.heap.size → k ≠ g → w'.heap[k]? = w.heap[k]?) ∧ (w.heap.size ≤ g ∨ ∃ t e' s', kill = some t ∧ tk t = .live e' s' ∧ own t = some g) ∧
            (∀ o v, γ.K g o = some v → (olds ++ news)[o]? = some v) := by
          have hnone : ∀ g, w.heap.size ≤ g → ∀ o v, γ.K g o = some v → (olds ++ news)[o]? = some v := fun g hg o v hv => by have := hw.ksub.lt hv; omega
          -- a grown row anew
          have fromOwn : ∀ (base : Nat) (v' : Value) (w' : World) (row : Option Nat), w'.ownsRow base e te.size v' (xs.length + ys.length) (olds ++ news) → w.grownBy w' row → (∀ g, v'.ownBlock = some g → (w.heap.size ≤ g ∨ (row = some g ∧ ∃ t e' s', kill = some t ∧ tk t = .live e' s' ∧ own t = some g ∧ ∀ o v, γ.K g o = some v → (olds ++ news)[o]? = some v)) ∧ (∀ k, k < w.heap.size → k ≠ g → row ≠ some k)) →
              ∃ g n' cap cur, v' = .slice (some ⟨g, 0, none⟩) n' cap ∧ n' = xs.length + ys.length ∧ w'.heap[g]? = some (.cells cur e (0, 0)) ∧ n' ≤ cap ∧ cap ≤ maxLen ∧ cur.size = cap * te.size ∧
                cur.toList.take (n' * te.size) = olds ++ news ∧ w'.os = w.os ∧ w'.tape = w.tape ∧ w'.output = w.output ∧ w.heap.size ≤ w'.heap.size ∧
                (∀ k, k < w.heap.size → k ≠ g → w'.heap[k]? = w.heap[k]?) ∧ (w.heap.size ≤ g ∨ ∃ t e' s', kill = some t ∧ tk t = .live e' s' ∧ own t = some g) ∧
                (∀ o v, γ.K g o = some v → (olds ++ news)[o]? = some v) := by
            intro base v' w' row hown hgr hgg
            rcases hown.2 with ⟨_, h0⟩ | ⟨g, cap, cur, rfl, hbg, hhg, hnc, hcm, hcs, htake⟩
            · omega
            · obtain ⟨hg1, hg2⟩ := hgg g rfl
              refine ⟨g, _, cap, cur, rfl, rfl, hhg, hnc, hcm, hcs, htake, hgr.os, hgr.tape, hgr.output, hgr.size, fun k hk hne => hgr.block k hk (fun e => hg2 k hk hne e.symm), ?_, ?_⟩
              · rcases hg1 with h | ⟨_, t, e', s', h1, h2, h3, _⟩
                · exact .inl h
                · exact .inr ⟨t, e', s', h1, h2, h3⟩
              · rcases hg1 with h | ⟨_, t, e', s', h1, h2, h3, h4⟩
                · exact hnone g h
                · exact h4
          have hsz1 : i.size = te.size := hsz
          have viaNil : Value.slice a1 xs.length c1 = .slice none 0 0 → ∃ v' w', (Builtin.append_ #[t, t] ty #[.slice a1 xs.length c1, .slice (some ⟨b2, o2, none⟩) ys.length c2]).run P w = .ok v' w' ∧
              w'.ownsRow 0 e te.size v' (xs.length + ys.length) (olds ++ news) ∧ w.grownBy w' none ∧ ∀ g, v'.ownBlock = some g → w.heap.size ≤ g := by
            intro hv
            have hx0 : xs.length = 0 := by injection hv
            have hol : olds = [] := List.eq_nil_of_length_eq_zero (by rw [holen, hx0]; simp)
            obtain ⟨v', w', hrun, hown, hgr, _, hat⟩ := run_append_own_at (P := P) w 0 t ty e i te.zero te.size te.bytes hdd hi hz hsz hby hzs hpos (.slice none 0 0) 0 [] (World.ownsRow_nil w 0 e te.size) ⟨b2, o2, none⟩ ys.length c2 news hnlen hnews hn1
              (by omega) (by rw [hx0] at hcb; exact hcb) (Nat.zero_le _)
            refine ⟨v', w', by rw [hv]; exact hrun, by rw [hx0, hol]; exact hown, hgr, fun g hg => ?_⟩
            rcases hat with h | h
            · rw [hg] at h; simp [Value.ownBlock] at h
            · rw [hg] at h; cases h; exact Nat.le_refl _
          have viaFull : ∀ a, a1 = some a → c1 = xs.length → ∃ v' w', (Builtin.append_ #[t, t] ty #[.slice a1 xs.length c1, .slice (some ⟨b2, o2, none⟩) ys.length c2]).run P w = .ok v' w' ∧
              w'.ownsRow w.heap.size e te.size v' (xs.length + ys.length) (olds ++ news) ∧ w.grownBy w' none := by
            intro a ha hc
            subst ha; subst hc
            refine run_append_arg_grows (P := P) w t ty e i te.zero te.size te.bytes hdd hi hz hsz hby hzs hpos a xs.length xs.length olds holen ?_ ⟨b2, o2, none⟩ ys.length c2 news hnlen hnews (by omega) hmx hcb
            intro j u hu
            by_cases hx0 : xs = []
            · subst hx0
              have : olds = [] := List.eq_nil_of_length_eq_zero (by rw [holen]; simp)
              subst this; simp at hu
            · obtain ⟨b, o, he, hkv⟩ := hoK hx0
              cases he
              rw [addr_add]; exact (hw.ksub _ _ _ (hkv j u hu)).cell (ho1 u (List.mem_of_getElem? hu))
          have grownRow : ∀ (v1 : Value) (w1 : World), w1.ownsRow w.heap.size e te.size v1 (xs.length + ys.length) (olds ++ news) → ∀ g, v1.ownBlock = some g → w.heap.size ≤ g := fun v1 w1 h g hg => (h.lt g hg).1
          have hcase : (Value.slice a1 xs.length c1 = .slice none 0 0 ∨ ∃ a n, Value.slice a1 xs.length c1 = .slice (some a) n n) ∨
              ∃ n g0 n0 cap0 cur0, kill = some n ∧ tk n = .live e ls ∧ own n = some g0 ∧ TokOwn E.mine γ w e te.size g0 (.slice a1 xs.length c1) n0 cap0 cur0 := by
            rcases hkill with ⟨hk0, hf⟩ | ⟨n, hkn, hl, hτ⟩
            · exact .inl hf
            · obtain ⟨v0, hv0, hok⟩ := hw.tok n e ls hl
              rw [hτ] at hv0; cases hv0
              cases hon : own n with
              | none => rw [hon] at hok; exact .inl hok
              | some g0 =>
                rw [hon] at hok
                obtain ⟨n0, cap0, cur0, hok⟩ := hok
                rw [hrl] at hok
                exact .inr ⟨n, g0, n0, cap0, cur0, hkn, hl, hon, hok⟩
          rcases hcase with (hv | ⟨a, n, hv⟩) | ⟨n, g0, n0, cap0, cur0, hkn, hl, hon, hok⟩
          · obtain ⟨v', w', hrun, hown, hgr, hat⟩ := viaNil hv
            obtain ⟨g, n', cap, cur, h⟩ := fromOwn _ v' w' none hown hgr (fun g hg => ⟨.inl (hat g hg), fun k _ _ => by simp⟩)
            exact ⟨v', w', g, n', cap, cur, hrun, h⟩
          · have h1 : a1 = some a ∧ c1 = xs.length := by
              simp only [Value.slice.injEq] at hv
              exact ⟨hv.1, by omega⟩
            obtain ⟨v', w', hrun, hown, hgr⟩ := viaFull a h1.1 h1.2
            obtain ⟨g, n', cap, cur, h⟩ := fromOwn _ v' w' none hown hgr (fun g hg => ⟨.inl (grownRow v' w' hown g hg), fun k _ _ => by simp⟩)
            exact ⟨v', w', g, n', cap, cur, hrun, h⟩
          · skip
            have hval := hok.val
            simp only [Value.slice.injEq] at hval
            obtain ⟨ha, hn0, hc0'⟩ := hval
            subst ha; subst hn0; subst hc0'
            have hcurlen : cur0.toList.length = c1 * te.size := by rw [Array.length_toList]; exact hok.size
            have htk : cur0.toList.take (xs.length * te.size) = olds := by
              apply List.ext_getElem?
              intro j
              by_cases hj : j < xs.length * te.size
              · rw [List.getElem?_take, if_pos hj]
                have hx0 : xs ≠ [] := fun e => by subst e; simp at hj
                obtain ⟨b, o, he, hkv⟩ := hoK hx0
                cases he
                have hju : j < olds.length := by omega
                have := (hw.ksub _ _ _ (hkv j _ (List.getElem?_eq_getElem hju))).cell (ho1 _ (List.getElem_mem hju))
                simp only [World.cell?, Nat.zero_add, hok.heap] at this
                rw [List.getElem?_eq_getElem hju]
                simpa using this
              · rw [List.getElem?_eq_none (by rw [List.length_take]; omega), List.getElem?_eq_none (by omega)]
            have hownr : w.ownsRow 0 e te.size (.slice (some ⟨g0, 0, none⟩) xs.length c1) xs.length olds :=
              ⟨holen, .inr ⟨g0, c1, cur0, rfl, Nat.zero_le _, hok.heap, hok.le, hok.max, hok.size, htk⟩⟩
            have hKg : ∀ o v, γ.K g0 o = some v → (olds ++ news)[o]? = some v := by
              intro o v hv
              have hlt : o < xs.length * te.size := by
                rcases Nat.lt_or_ge o (xs.length * te.size) with h | h
                · exact h
                · rw [hok.free o h] at hv; cases hv
              have hc := (hw.ksub _ _ _ hv).of_cells hok.heap
              simp only [World.cell?, hok.heap] at hc
              rw [List.getElem?_append_left (by omega), ← htk, List.getElem?_take, if_pos hlt]
              simpa using hc
            by_cases hroom : xs.length + ys.length ≤ c1
            · obtain ⟨w', hrun, hown, hgr⟩ := run_append_fits (P := P) w 0 t ty e i te.size hdd hi hsz g0 xs.length c1 olds hownr ⟨b2, o2, none⟩ ys.length c2 news hnlen hnews hn1 hroom
              obtain ⟨g, n', cap, cur, h⟩ := fromOwn _ _ w' (some g0) hown hgr (fun g hg => by
                have : g = g0 := by simpa [Value.ownBlock] using hg.symm
                subst this
                exact ⟨.inr ⟨rfl, n, e, ls, hkn, hl, hon, hKg⟩, fun k _ hne e => hne (by cases e; rfl)⟩)
              exact ⟨_, w', g, n', cap, cur, hrun, h⟩
            · obtain ⟨v', w', hrun, hown, hgr⟩ := run_append_arg_grows (P := P) w t ty e i te.zero te.size te.bytes hdd hi hz hsz hby hzs hpos ⟨g0, 0, none⟩ xs.length c1 olds holen (by
                  intro j u hu
                  rw [addr_add, Nat.zero_add]
                  simp only [World.cell?, hok.heap]
                  rw [← htk, List.getElem?_take] at hu
                  split at hu
                  · simpa using hu
                  · cases hu) ⟨b2, o2, none⟩ ys.length c2 news hnlen hnews (by omega) hmx hcb
              obtain ⟨g, n', cap, cur, h⟩ := fromOwn _ v' w' none hown hgr (fun g hg => ⟨.inl (grownRow v' w' hown g hg), fun k _ _ => by simp⟩)
              exact ⟨v', w', g, n', cap, cur, hrun, h⟩
        obtain ⟨v', w', g, n', cap, cur, hrun, hv', hn', hheap, hle, hmax, hcs, htake, hos, htp, hout, hsize, hblock, hg, hold⟩ := hres
        obtain ⟨γ', own', hK, hτ, hgle, hw'⟩ := hw.grow htd (kill := kill) (size := ls) hv' hheap hle hmax (by rw [hrl]; exact hcs) (by rw [hrl]; exact htake) (fun u hu => (List.mem_append.1 hu).elim (ho1 u) (hn1 u)) hos htp hout hsize hblock hg hold
        refine ⟨γ', own', v', w', rfl, hrun, hgle, .own ?_ hτ, hw'⟩
        have hflat : (xs ++ ys).flatMap D.cells = xs.flatMap D.cells ++ ys.flatMap D.cells := by simp
        have hlxy : xs.length + ys.length = (xs ++ ys).length := by simp
        rw [hv', hn', hlxy]
        refine RepD.of_flat (vals := olds ++ news) ?_ ?_ ?_ ?_ ?_
        · intro x hx
          rcases List.mem_append.1 hx with h | h
          · exact hosz x h
          · exact hlen2 x h
        · rw [← hlxy, ← hn']; exact hle
        · intro j u hu
          rw [hK]
          simp [kadd, hu]
        · rw [hflat]
          exact (hor.mono hgle.K).append (hnr.mono hgle.K)
        · intro u hu
          rcases List.mem_append.1 hu with h | h
          · exact ho1 u h
          · exact hn1 u h
    · cases h
  · cases h

end Go.PS
namespace Go.PS
open Go Go.RowKit

variable {P : Program} {T : Nat → Option TI}
variable {E : Env} {γ : Gh} {own : Nat → Option Nat} {ob : Nat → Option OB} {tk : Nat → TS} {w : World}

theorem made_rep {z : Value} {size : Nat} (h1 : Nat.beq (ofConst z).cells.length size = true) (h2 : (ofConst z).cells.all PV.cell = true) (h0 : 0 < size) (n : Nat) :
    RepL γ ((List.replicate n (ofConst z).cells).flatten) (madeCells z.cells (n * size)).toList ∧ ∀ u ∈ (madeCells z.cells (n * size)).toList, u.oneCell' = true := by
  have hsz := zero_size h1 h2
  obtain ⟨hr, hu⟩ := (rep_ofConst γ z).cells h2
  have hlen : (ofConst z).cells.length = size := Nat.eq_of_beq_eq_true h1
  have hget : ∀ j, j < n * size → (madeCells z.cells (n * size)).toList[j]? = z.cells.toList[j % size]? := by
    intro j hj
    have hm : j % size < z.cells.size := by rw [hsz]; exact Nat.mod_lt _ h0
    simp only [madeCells, Array.toList_map, List.getElem?_map, Array.toList_range, List.getElem?_range hj, Option.map_some, hsz]
    rw [getElem!_pos z.cells _ hm, Array.getElem?_toList, getElem?_pos z.cells _ hm]
  have hfl : ∀ j, j < n * size → ((List.replicate n (ofConst z).cells).flatten)[j]? = (ofConst z).cells[j % size]? := by
    intro j hj
    obtain ⟨a, b, c⟩ := split_index hj
    have := flatMap_get (fun x : List PV => x) size (List.replicate n (ofConst z).cells) (fun x hx => by rw [List.eq_of_mem_replicate hx]; exact hlen) (j / size) (j % size) b
    rw [← c] at this
    simp only [List.flatMap_id'] at this
    rw [this]
    simp [a]
  refine ⟨⟨?_, ?_⟩, ?_⟩
  · simp [hlen, madeCells]
  · intro j c v hc hv
    have hj : j < n * size := by
      have := (List.getElem?_eq_some_iff.1 hv).1
      simpa [madeCells] using this
    rw [hfl j hj] at hc
    rw [hget j hj] at hv
    exact hr.2 _ c v hc hv
  · intro u hm
    obtain ⟨j, hj⟩ := List.mem_iff_getElem?.1 hm
    have hj' : j < n * size := by
      have := (List.getElem?_eq_some_iff.1 hj).1
      simpa [madeCells] using this
    rw [hget j hj'] at hj
    exact hu u (List.mem_of_getElem? hj)

theorem evalMakeSlice_sound (hT : TabOk P T) (hw : ConcW E γ own ob tk w) {d : Nat} {t : TypeId} {l c v : PV} {lu cu : Value} {eff : HEff} (hl : Rep γ l lu) (hc : Rep γ c cu)
    (hdn : d < E.n) (h : evalMakeSlice T (some d) t l c ob tk = some (true, v, eff)) :
    ∃ γ' own' u w', (Instr.makeSlice t lu cu).run P w = .ok u w' ∧ GhLe γ γ' ∧ Rep γ' v u ∧
      ConcW E γ' own' (eff.obA ob) (eff.tkA tk) w' := by
  unfold evalMakeSlice at h
  split at h
  · rename_i e z es d2 n m ht hd2
    cases hd2
    obtain ⟨inf, dd, hinf, hdd, _, _, _, hk, _⟩ := hT.facts ht
    cases dd <;> simp only [TK.of, reduceCtorEq, TK.slice.injEq] at hk
    rename_i e
    subst hk
    rw [rep_int hl, rep_int hc]
    split at h
    · rename_i te hte
      obtain ⟨i, d', hi, hd', hz, hsz, hby, _, _⟩ := hT.facts hte
      cases hn0 : decide (n = 0) with
      | true =>
        rw [hn0] at h
        simp only [cond_true] at h
        obtain rfl : n = 0 := of_decide_eq_true hn0
        split at h
        · rename_i htd
          simp only [Option.some.injEq, Prod.mk.injEq, Bool.and_eq_true, decide_eq_true_eq, Bool.not_eq_true'] at h
          obtain ⟨⟨⟨⟨⟨⟨⟨⟨hts, h0⟩, hnm⟩, hb⟩, hm⟩, hs0⟩, hz1⟩, hz2⟩, rfl, rfl⟩ := h
          have hpos : 0 < te.size := by
            rcases Nat.eq_zero_or_pos te.size with h | h
            · rw [h] at hs0; simp at hs0
            · exact h
          have hrun := run_make (P := P) w t e i te.zero hdd hi hz .i64 .i64 0 m h0 hnm (by rw [hby]; omega) (by omega)
          change (Instr.makeSlice t (.int .i64 0) (.int .i64 m)).run P w = _ at hrun
          obtain ⟨γ', own', hK, hτ, hle, hw'⟩ := hw.grow htd (kill := none) (g := w.heap.size) (e := e) (size := te.size) (n := 0) (cap := m.toNat) (cur := madeCells te.zero.cells (m.toNat * te.size))
            (v' := .slice (some ⟨w.heap.size, 0, none⟩) 0 m.toNat) (w' := w.alloc (.cells (madeCells te.zero.cells (m.toNat * te.size)) e)) (all := [])
            rfl (heap_new w _) (Nat.zero_le _) (by simp only [maxLen]; omega) (by rw [rsz_lt hts]; exact size_madeCells _ _) (by simp) (by simp) rfl rfl rfl (by simp) (fun k hk _ => heap_old w _ hk) (.inl (Nat.le_refl _))
            (fun o v hv => by have := hw.ksub.lt hv; omega)
          rw [hsz] at hrun
          exact ⟨γ', own', _, _, hrun, hle, .own (.sl_nil _ _ _) hτ, hw'⟩
        · cases h
      | false =>
        rw [hn0] at h
        simp only [cond_false] at h
        split at h
        · rename_i hod
          simp only [Option.some.injEq, Prod.mk.injEq, Bool.and_eq_true, decide_eq_true_eq, Bool.not_eq_true'] at h
          obtain ⟨⟨⟨⟨⟨⟨⟨⟨⟨⟨hts, h0⟩, hnm⟩, hb⟩, hm⟩, hs0⟩, hz1⟩, hz2⟩, heq⟩, hty⟩, rfl, rfl⟩ := h
          subst heq
          have hpos : 0 < te.size := by
            rcases Nat.eq_zero_or_pos te.size with h | h
            · rw [h] at hs0; simp at hs0
            · exact h
          have hrun := run_make (P := P) w t e i te.zero hdd hi hz .i64 .i64 n n h0 hnm (by rw [hby]; omega) (by omega)
          obtain ⟨hr, h1⟩ := made_rep (γ := γ) hz1 hz2 hpos n.toNat
          obtain ⟨γ', hle, hmd, hw'⟩ := hw.newObj hod hdn (o := ⟨e, te.size, List.replicate n.toNat (ofConst te.zero)⟩) (cs := madeCells te.zero.cells (n.toNat * te.size))
            (by simpa [flat, List.flatMap_replicate] using hr) h1 (fun x hx => by rw [List.eq_of_mem_replicate hx]; exact Nat.eq_of_beq_eq_true hz1)
          rw [hsz] at hrun
          rw [objOf_cells (ty := e) (by simpa [mapTag] using hty)] at hw'
          simp only [Array.append_empty] at hw'
          refine ⟨γ', own, _, _, hrun, hle, ?_, hw'⟩
          have := Rep.hrow (γ := γ') (lo := 0) (len := n.toNat) (cap := n.toNat) hmd (Nat.le_refl _) (Nat.le_refl _)
          simpa using this
        · cases h
    · cases h
  · cases h

theorem elemsD_flat (agg : Bool) (size : Nat) (h0 : 0 < size) (hag : agg = true ∨ size = 1) : ∀ (n : Nat) (ds : List D), ds.length = n * size → (ds.all D.cell) = true →
    (elemsD agg size n ds).flatMap D.cells = ds ∧ (∀ x ∈ elemsD agg size n ds, x.cells.length = size) ∧ (elemsD agg size n ds).length = n
  | 0, ds, hl, _ => by
    have : ds = [] := List.eq_nil_of_length_eq_zero (by simpa using hl)
    subst this
    simp [elemsD]
  | n + 1, ds, hl, hc => by
    rw [Nat.add_mul, Nat.one_mul] at hl
    have ih := elemsD_flat agg size h0 hag n (ds.drop size) (by rw [List.length_drop]; omega) (by rw [List.all_eq_true] at hc ⊢; exact fun x hx => hc x (List.mem_of_mem_drop hx))
    have hhead : (bif agg then D.agg (ds.take size) else ds.headD .nilp).cells = ds.take size := by
      cases agg with
      | true => rfl
      | false =>
        have h1 : size = 1 := by
          rcases hag with h | h
          · cases h
          · exact h
        subst h1
        cases ds with
        | nil => simp at hl
        | cons x ds =>
          simp only [List.all_cons, Bool.and_eq_true] at hc
          have : x.cells = [x] := by cases x <;> first | rfl | (simp [D.cell] at hc)
          simp [this]
    refine ⟨?_, ?_, ?_⟩
    · simp only [elemsD, List.flatMap_cons, hhead, ih.1, List.take_append_drop]
    · intro x hx
      simp only [elemsD, List.mem_cons] at hx
      rcases hx with h | h
      · rw [h, hhead, List.length_take]; omega
      · exact ih.2.1 x h
    · simp [elemsD, ih.2.2]

theorem evalBuildSlice_sound (hT : TabOk P T) (hw : ConcW E γ own ob tk w) {t : TypeId} {n : Nat} {parts : List (Nat × PV)} {vparts : Array (Nat × Value)} {v : PV} (hl : parts.length = vparts.toList.length)
    (hp : ∀ (i : Nat) (p : Nat × PV) (q : Nat × Value), parts[i]? = some p → vparts.toList[i]? = some q → p.1 = q.1 ∧ Rep γ p.2 q.2) (h : evalBuildSlice T t n parts = some (true, v)) :
    ∃ γ' u w', (Instr.buildSlice t n vparts).run P w = .ok u w' ∧ GhLe γ γ' ∧ Rep γ' v u ∧ ConcW E γ' own ob tk w' := by
  unfold evalBuildSlice at h
  split at h
  · rename_i e z es ht
    obtain ⟨inf, dd, hinf, hdd, _, _, _, hk, _⟩ := hT.facts ht
    cases dd <;> simp only [TK.of, reduceCtorEq, TK.slice.injEq] at hk
    rename_i e
    subst hk
    split at h
    · rename_i te hte
      obtain ⟨i, d', hi, hd', hz, hsz, hby, hk', _⟩ := hT.facts hte
      split at h
      · rename_i cells hf
        split at h
        · rename_i ds hds
          simp only [Option.some.injEq, Prod.mk.injEq, Bool.and_eq_true, Bool.not_eq_true', Bool.or_eq_true] at h
          obtain ⟨⟨⟨⟨⟨⟨hs0, hz1⟩, hz2⟩, hle⟩, hag⟩, hdc⟩, rfl⟩ := h
          have hpos : 0 < te.size := by
            rcases Nat.eq_zero_or_pos te.size with h | h
            · rw [h] at hs0; simp at hs0
            · exact h
          have hle' := Nat.le_of_ble_eq_true hle
          obtain ⟨hr, h1⟩ := made_rep (γ := γ) hz1 hz2 hpos n
          obtain ⟨us, hu, h2, h3, h4⟩ := fillP_sound (fun i => some (i * te.size, te.size)) hl hp hr h1 hf
          obtain ⟨γ', hgle, hK, hw'⟩ := hw.newImm us.toArray (by simpa using h3) e
          have hdr := (RepL.toDs h2 hds).mono hgle.K
          have hdl : ds.length = n * te.size := by rw [hdr.1, h4]; simp [madeCells]
          have hag' : te.k.agg = true ∨ te.size = 1 := hag.imp id Nat.eq_of_beq_eq_true
          obtain ⟨hfl, hel, hen⟩ := elemsD_flat te.k.agg te.size hpos hag' n ds hdl hdc
          have hzs := zero_size hz1 hz2
          refine ⟨γ', .slice (some ⟨w.heap.size, 0, none⟩) n n, w.alloc (.cells us.toArray e), ?_, hgle, .own ?_ (.inr ⟨_, _, rfl⟩), hw'⟩
          · have hno : ¬ n * te.size > 2 ^ 24 := by omega
            have hu' : Instr.fill (fun i => some (i * te.size, te.size)) (madeCells te.zero.cells (n * te.size)) vparts.toList = some us.toArray := by simpa using hu
            simp only [Instr.buildSlice, Sem.run_bind, run_underlying hdd, Result.andThen_ok, run_sizeOf hi, hsz]
            rw [if_neg hno]
            by_cases h0 : n * te.size = 0
            · rw [if_pos h0]
              have hc : (Array.range (n * te.size)).map (fun x => (#[] : Array Value)[x % (#[] : Array Value).size]!) = madeCells te.zero.cells (n * te.size) := by
                rw [h0]; simp [madeCells]
              simp only [Sem.run_bind, Sem.run_pure, Result.andThen_ok, hc, hu']
              simp [newRow]
            · rw [if_neg h0]
              have hc : (Array.range (n * te.size)).map (fun x => te.zero.cells[x % te.zero.cells.size]!) = madeCells te.zero.cells (n * te.size) := rfl
              simp only [Sem.run_bind, run_zeroValue hi hz, Sem.run_pure, Result.andThen_ok, hc, hu']
              simp [newRow]
          · have key := RepD.of_flat (K := γ'.K) (sz := te.size) (xs := elemsD te.k.agg te.size n ds) hel (b := w.heap.size) (o := 0) (c := n) (by rw [hen]; exact Nat.le_refl _) (vals := us)
              (fun j u hj => by rw [hK]; simpa using hj) (by rw [hfl]; exact hdr) h3
            rw [hen] at key
            exact key
        · cases h
      · cases h
    · cases h
  · cases h

end Go.PS

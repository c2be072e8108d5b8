/-
  slices.Collect over maps.Keys at a map from bytes: each key once, in some order.
-/
import Derived.Test.YtpdkccbongnboaaS7
set_option linter.unusedSimpArgs false
set_option linter.unusedVariables false
namespace Go.Proofs.Ytpdkccbongnboaa
open Go Go.RowKit Go.Maps Go.Sort Go.Shelf Go.Proofs

/-- The keys that have come: those of the map that are no longer to come, each once. -/
def Came {H : Type} (D0 : DataW H) (left : Lit → Bool) (ss : List Int) : Prop := ss.Nodup ∧ ∀ x, x ∈ ss ↔ (has D0 (.int .u8 x) = true ∧ left (.int .u8 x) = false)
theorem Came.none {H : Type} (D0 : DataW H) : Came D0 (has D0) [] := ⟨List.nodup_nil, fun x => by cases has D0 (.int .u8 x) <;> simp⟩
theorem Came.more {H : Type} {D0 : DataW H} {left : Lit → Bool} {ss : List Int} (h : Came D0 left ss) {x : Int} {y : DataW H} (hlk : left (.int .u8 x) = true) (hat : ∀ zd, D0.atKey (.int .u8 x) zd = y) :
    Came D0 (fun z => left z && !z.sameKey (.int .u8 x)) (ss ++ [x]) := by
  have hhas : has D0 (.int .u8 x) = true := has_true_of_atKey hat
  have hnew : x ∉ ss := fun hx => by have := ((h.2 x).1 hx).2; rw [hlk] at this; cases this
  refine ⟨List.nodup_append.2 ⟨h.1, by simp, fun a ha b hb => ?_⟩, fun y => ?_⟩
  · simp only [List.mem_singleton] at hb
    subst hb
    exact fun e => hnew (e ▸ ha)
  · by_cases hy : y = x
    · subst hy; simp [hhas, Lit.sameKey]
    · simp [h.2 y, hy, Lit.sameKey]

set_option maxRecDepth 100000 in
set_option maxHeartbeats 1000000 in
/-- The iterator of maps.Keys, at the rounds of slices.AppendSeq. -/
theorem iter36 {H : Type} (F : Fence) (n : Nat) (h36 : F.fn 36) (hro : F.round = none) (hn : 1 ≤ n) (Bm o b nn : Nat) (D0 : DataW H) {R : Value → Option (DataW H × List MemPlace)} (hsz : Maps.size D0 ≤ 1000)
    (w0 : World) (fn : FuncId) (hfn : F.fn fn) (sv : Value) (Bs l D : Nat) (hBl : Bs ≠ l) (hDl : D ≠ l) (hDB : D ≠ Bs) (h0B : w0.heap.size ≤ Bs) (h0l : w0.heap.size ≤ l)
    (W : World) (hW : w0.heap.size ≤ W.heap.size) (hm : W.cell? ⟨Bm, o, none⟩ = some (.map (some b))) (hown : W.ownsMap Try.prog 5 R b nn D0) (h0 : Got w0 fn sv Bs l D [] W) :
    CallsIn F n Try.prog 36 #[.func (.yield l) #[] #[], .pointer (some ⟨Bm, o, none⟩)] W fun e W' => (∃ v, e = .returned v) ∧ ∃ ss : List Int, Came D0 (fun _ => false) ss ∧ Got w0 fn sv Bs l D ss W' := by
  refine callsIn_of_wp Try.func36 rfl h36 ?_ hro
  simp only [Try.ntmps36, List.size_toArray, List.length_cons, List.length_nil, Nat.reduceAdd, Nat.reduceSub, Array.replicate_succ, Array.replicate_zero, List.push_toArray, List.append_toArray, List.nil_append, List.cons_append]
  gi_wp2_with (first
    | (gi_at_range; refine wpListIn_range_own _ rfl _ 63 rfl 5 3 (int_keyed Try.underlying5) Try.underlying63 _ b nn _ rfl hown ?_; intro w1 hrg0 hg0 hs0)
    | gi_in)
  go_frame
  gi_loopw [3] (fun _ wr => ∃ (left : Lit → Bool) (cnt : Nat) (ss : List Int), wr.ranges Try.prog 5 R b W.heap.size nn D0 left cnt ∧ ss.length + cnt ≤ Maps.size D0 ∧ Came D0 left ss ∧ Got w0 fn sv Bs l D ss wr)
    (fun _ wr => wr.rangeLeft b W.heap.size)
  case atStart =>
    exact ⟨_, _, [], hrg0, by simp, Came.none D0, h0.abides hW hg0 (fun r e => by cases e)⟩
  case round =>
    obtain ⟨left, cnt, ss, hrg, hcs, hC, hJs⟩ := hrel
    gi_wp2_with (first
      | (gi_at_next; refine wpListIn_next_ranges _ rfl _ rfl 5 (int_keyed Try.underlying5) R uB id (fun key kl hk => by obtain ⟨x, hx, _⟩ := Maps.keyOf_int_inv Try.underlying5 hk; exact ⟨x, hx⟩) (fun v _ _ => ⟨v, rfl⟩) b W.heap.size nn _ _ _ rfl hrg ?_ ?_)
      | gi_in)
    · -- nothing is left
      intro hc0 hl0
      gi_wp2
      go_end0
      exact ⟨⟨_, rfl⟩, ss, ⟨hC.1, fun x => by rw [hC.2 x, hl0]⟩, hJs⟩
    · -- an entry
      intro x c kl yd yp w2 cnt2 hkey hlk hv hat hrg2 hlt hg2 hs2 hen
      obtain ⟨x', ex, rfl, _⟩ := Maps.keyOf_int_inv Try.underlying5 hkey
      obtain rfl : x = x' := by simpa [uB] using ex
      have hJ2 : Got w0 fn sv Bs l D ss w2 := hJs.abides hW hg2 (fun r e => by cases e; exact ⟨Nat.le_refl _, hrg.iter_walk⟩)
      obtain ⟨fn', tmps, assign, body, hy, hR⟩ := round42 F (n - 1) w0 fn hfn sv Bs l D hBl hDl hDB h0B h0l ss x w2 hJ2 (by omega)
      clear hs2
      gi_wp2
      refine hR.mono ?_
      rintro e W3 ⟨rfl, hJ3, hk3⟩
      gi_wp2
      have hrg3 := hrg2.of_walks hk3
      go_roundw
      case rel => exact ⟨_, cnt2, ss ++ [x], hrg3, by simp; omega, hC.more hlk hat, hJ3⟩
      case measure => rw [hrg3.left_eq, hrg.left_eq]; exact hlt

set_option maxRecDepth 100000 in
set_option maxHeartbeats 2000000 in
/-- slices.AppendSeq(nil, maps.Keys(m)). -/
theorem append42 {H : Type} (F : Fence) (n : Nat) (h42 : F.fn 42) (h36 : F.fn 36) (hro : F.round = none) (hn : 2 ≤ n) (Bm o b nn : Nat) (D0 : DataW H) {R : Value → Option (DataW H × List MemPlace)} (hsz : Maps.size D0 ≤ 1000)
    (w : World) (hBm : Bm < w.heap.size) (hm : w.cell? ⟨Bm, o, none⟩ = some (.map (some b))) (hown : w.ownsMap Try.prog 5 R b nn D0) :
    CallsIn F n Try.prog 42 #[.slice none 0 0, .func (.func 36) #[] #[.pointer (some ⟨Bm, o, none⟩)]] w fun e w' => ∃ (v : Value) (ss : List Int), e = .returned v ∧ Came D0 (fun _ => false) ss ∧ w'.ownsRow w.heap.size 5 1 v ss.length (ss.map uB) ∧ Below w.heap.size w w' := by
  have h1 : 1 ≤ n := by omega
  have eg : ∀ args w, (callFunc 36 args).run Try.prog w = .ok (.enter 36 args) w := enters_of Try.func36 (by kernel_rfl) rfl
  refine callsIn_of_wp_marks Try.func42 rfl h42 ?_ hro
  simp only [Try.ntmps42, List.size_toArray, List.length_cons, List.length_nil, Nat.reduceAdd, Nat.reduceSub, Array.replicate_succ, Array.replicate_zero, List.push_toArray, List.append_toArray, List.nil_append, List.cons_append]
  gi_wp2
  refine wpIn_rangeFunc ?_
  intro fn hfn
  rw [hro]
  generalize hW0 : w.alloc (.cells #[.slice none 0 0] 52) = W0
  have hs0 : W0.heap.size = w.heap.size + 1 := by rw [← hW0]; simp
  have hv0 : W0.heap[w.heap.size]? = some (.cells #[.slice none 0 0] 52 (0, 0)) := by rw [← hW0]; exact World.alloc_heap_new w _
  have hb0 : Below w.heap.size w W0 := by rw [← hW0]; exact (Below.refl _ w).alloc (Nat.le_refl _) _
  generalize hsv : (Value.func (.func 36) #[] #[.pointer (some ⟨Bm, o, none⟩)]) = sv
  generalize hW1 : (W0.alloc (.deferred (some []))).alloc (.loop (loopRec Try.f42 fn sv w.heap.size W0.heap.size .ready)) = W1
  have hold : ∀ k, k < W0.heap.size → W1.heap[k]? = W0.heap[k]? := fun k hk => by
    rw [← hW1]; exact (Below.heap_alloc _ _ k (by simp; omega)).trans (Below.heap_alloc _ _ k hk)
  have hb1 : Below w.heap.size w W1 := by rw [← hW1]; exact (hb0.alloc hb0.size _).alloc (by have := hb0.size; simp; omega) _
  have hs1 : W1.heap.size = W0.heap.size + 2 := by rw [← hW1]; simp
  have hM : Got w fn sv w.heap.size (W0.heap.size + 1) W0.heap.size [] W1 :=
    ⟨⟨_, (hold w.heap.size (by omega)).trans hv0, ⟨rfl, .inl ⟨rfl, rfl⟩⟩⟩,
     by rw [← hW1]; have := World.alloc_heap_new (W0.alloc (.deferred (some []))) (.loop (loopRec Try.f42 fn sv w.heap.size W0.heap.size .ready)); rwa [World.size_alloc] at this,
     by rw [← hW1]; exact (Below.heap_alloc _ _ _ (by simp)).trans (World.alloc_heap_new W0 _), hb1⟩
  have hown1 : W1.ownsMap Try.prog 5 R b nn D0 := by
    have hbl := hown.lt
    obtain ⟨es, clock, hb, Ft, hs, hD⟩ := hown
    exact ⟨es, clock, (hb1.block b hbl).trans hb, Ft, hs, hD⟩
  have hm1 : W1.cell? ⟨Bm, o, none⟩ = some (.map (some b)) := (hb1.cell (p := ⟨Bm, o, none⟩) hBm).trans hm
  refine ⟨W0.heap.size + 1, [{ target := .collected W0.heap.size, args := #[] }], W1, { target := .fn (.func 36) #[.pointer (some ⟨Bm, o, none⟩)], args := #[.func (.yield (W0.heap.size + 1)) #[] #[]] }, W1, 36,
    #[.func (.yield (W0.heap.size + 1)) #[] #[]] ++ #[.pointer (some ⟨Bm, o, none⟩)], W1, ?_, ?_, ?_, ?_, fun _ => h1, ?_⟩
  · rw [← hW1]; exact run_enterLoop_outer _ _ _ _ _
  · subst hsv; simp [resolve, go_sem]
  · intro f' hf'; simp [Target.leads] at hf'; subst hf'; exact h36
  · simp [invoke, go_sem, eg]
  · refine (iter36 F (n - 1) h36 hro (by omega) Bm o b nn D0 hsz w fn hfn sv w.heap.size (W0.heap.size + 1) W0.heap.size (by omega) (by omega) (by omega) (Nat.le_refl _) (by omega) W1 hb1.size hm1 hown1 hM).mono ?_
    rintro e W2 ⟨⟨v0, rfl⟩, ss, hS, h2⟩
    obtain ⟨v, hv, hrow⟩ := h2.box
    have hend := run_endLoop (P := Try.prog) h2.rcd (by simp [loopRec])
    generalize hW3 : W2.putObj (W0.heap.size + 1) (.loop { loopRec Try.f42 fn sv w.heap.size W0.heap.size .ready with state := .exhausted }) = W3 at hend
    have hg3 : W2.grownBy W3 (some (W0.heap.size + 1)) := by rw [← hW3]; exact grownBy_putObj_a _ _ _
    have hv3 : W3.heap[w.heap.size]? = some (.cells #[v] 52 (0, 0)) := by rw [← hW3]; exact (World.putObj_heap_other (by omega)).trans hv
    have hK3 : W3.heap[W0.heap.size]? = some (.deferred (some [])) := by rw [← hW3]; exact (World.putObj_heap_other (by omega)).trans h2.dfr
    have hrow3 := hrow.kept hg3 (ownsRow_ne_a hrow h2.rcd (fun cur e => by cases e))
    have hb3 : Below w.heap.size w W3 := h2.below.grown hg3 h2.below.size (fun k e => by cases e; omega)
    obtain ⟨hc3, hf3⟩ := cell_of_box_a hv3
    clear hW3
    refine ⟨none, W3, hend, ?_⟩
    gi_wp2
    rw [← hs0]
    refine ⟨by simp, .inl ⟨_, _, rfl, run_takeDeferred hK3, ?_⟩⟩
    exact ⟨_, results_tmp rfl _ _ _, v, ss, rfl, hS, hrow3.kept (grownBy_putObj_a _ _ _) (ownsRow_ne_a hrow3 hK3 (fun cur e => by cases e)), hb3.grown (grownBy_putObj_a _ _ _) hb3.size (fun k e => by cases e; omega)⟩

set_option maxHeartbeats 1000000 in
/-- slices.Collect(maps.Keys(m)). -/
theorem collect34 {H : Type} (F : Fence) (n : Nat) (h34 : F.fn 34) (h42 : F.fn 42) (h36 : F.fn 36) (hro : F.round = none) (hn : 3 ≤ n) (Bm o b nn : Nat) (D0 : DataW H) {R : Value → Option (DataW H × List MemPlace)} (hsz : Maps.size D0 ≤ 1000)
    (w : World) (hBm : Bm < w.heap.size) (hm : w.cell? ⟨Bm, o, none⟩ = some (.map (some b))) (hown : w.ownsMap Try.prog 5 R b nn D0) :
    CallsIn F n Try.prog 34 #[.func (.func 36) #[] #[.pointer (some ⟨Bm, o, none⟩)]] w fun e w' => ∃ (v : Value) (ss : List Int), e = .returned v ∧ Came D0 (fun _ => false) ss ∧ w'.ownsRow w.heap.size 5 1 v ss.length (ss.map uB) ∧ Below w.heap.size w w' := by
  have h1 : 1 ≤ n := by omega
  have e42 : ∀ args w, (callFunc 42 args).run Try.prog w = .ok (.enter 42 args) w := enters_of Try.func42 (by kernel_rfl) rfl
  refine callsIn_of_wp Try.func34 rfl h34 ?_ hro
  simp only [Try.ntmps34, List.size_toArray, List.length_cons, List.length_nil, Nat.reduceAdd, Nat.reduceSub, Array.replicate_succ, Array.replicate_zero, List.push_toArray, List.append_toArray, List.nil_append, List.cons_append]
  gi_wp2_with (gi_at_call 42; refine (append42 F (n - 1) h42 h36 hro (by omega) Bm o b nn D0 hsz _ hBm hm hown).mono ?_; rintro e w' ⟨v, ss, rfl, hS, hrow, hb⟩)
  go_ret
  exact ⟨v, ss, rfl, hS, hrow, hb⟩
end Go.Proofs.Ytpdkccbongnboaa

/-
  A part of the walks of this seat: each theorem says what a function of the program gives. No condition beyond its own premises.
-/
import Derived.Shelf.SlIterI.Collect
import Derived.Test.YtojgjdcciojpeaaGreatD15
set_option linter.unusedSimpArgs false
set_option linter.unusedVariables false
namespace Go.Proofs.YtojgjdcciojpeaaGreat
open Go Go.RowKit Go.Maps Go.Sort Go.Shelf Go.Proofs

abbrev uB : Int → Value := Value.int .u8

/-- The two parts of a loop over an iterator: what a round takes over, what it does. -/
def loopParts (f : Func) : Code × Code := match f.body with
  | some (.seq _ (.seq (.seq _ (.block _ (.rangeFunc _ _ a b))) _)) => (a, b)
  | _ => (.skip, .skip)
def loopRec (f : Func) (fn : FuncId) (sv : Value) (Bs D : Nat) (st : LoopState) : Loop :=
  { state := st, pending := none, fn, tmps := #[.slice none 0 0, sv, .pointer (some ⟨Bs, 0, none⟩), undef, .slice none 0 0, undef, sv, undef, undef, undef, undef, undef, undef], params := #[7], assign := (loopParts f).1, body := (loopParts f).2, defers := D }

/-- Between two rounds: what has come so far lies in a row of the call's own. -/
structure Got (w0 : World) (fn : FuncId) (sv : Value) (Bs l D : Nat) (ss : List Int) (W : World) : Prop where
  box : ∃ v, W.heap[Bs]? = some (.cells #[v] 41 (0, 0)) ∧ W.ownsRow w0.heap.size 5 1 v ss.length (ss.map uB)
  rcd : W.heap[l]? = some (.loop (loopRec Tryz.f162 fn sv Bs D .ready))
  dfr : W.heap[D]? = some (.deferred (some []))
  below : Below w0.heap.size w0 W

theorem Got.abides {w0 : World} {fn : FuncId} {sv : Value} {Bs l D B : Nat} (hB : w0.heap.size ≤ B) {ss : List Int} {W W' : World} {row : Option Nat} (h : Got w0 fn sv Bs l D ss W) (hg : W.grownBy W' row)
    (hrow : ∀ r, row = some r → B ≤ r ∧ ∃ o : Obj, W.heap[r]? = some o ∧ o.isWalk = true) : Got w0 fn sv Bs l D ss W' := by
  have hr : ∀ r, row = some r → ∃ o : Obj, W.heap[r]? = some o ∧ o.isWalk = true := fun r e => (hrow r e).2
  obtain ⟨v, hv, ho⟩ := h.box
  exact ⟨⟨v, (grownBy_keeps hg hr hv rfl).trans hv, ownsRow_abides_a ho hg hr⟩, (grownBy_keeps hg hr h.rcd rfl).trans h.rcd, (grownBy_keeps hg hr h.dfr rfl).trans h.dfr,
    h.below.grown hg h.below.size (fun k e => Nat.le_trans hB (hrow k e).1)⟩

theorem cells_not5 {cur cur' : Array Value} {f : Nat × Nat} : Obj.cells cur' 41 f ≠ Obj.cells cur 5 (0, 0) := fun e => by
  have := (Obj.cells.inj e).2.1
  cases this

set_option maxRecDepth 100000 in
/-- A round: one more key. -/
theorem round42 (F : Fence) (m : Nat) (w0 : World) (fn : FuncId) (hfn : F.fn fn) (sv : Value) (Bs l D : Nat) (hBl : Bs ≠ l) (hDl : D ≠ l) (hDB : D ≠ Bs) (h0B : w0.heap.size ≤ Bs) (h0l : w0.heap.size ≤ l)
    (ss : List Int) (x : Int) (W : World) (h : Got w0 fn sv Bs l D ss W) (hlen : ss.length < 1000) :
    YieldAt F m Tryz.prog l #[uB x] W fun e W' => e = .returned (.bool true) ∧ Got w0 fn sv Bs l D (ss ++ [x]) W' ∧ KeepsWalks W W' := by
  have hi5 : (Tryz.prog.info? 5).map (fun i => (i.zero, i.size, i.bytes)) = some (some (.int .u8 0), 1, 1) := by kernel_rfl
  obtain ⟨i0, hi, hz0, hz1, hz2⟩ := info_parts hi5
  obtain ⟨v, hv, hrow⟩ := h.box
  refine ⟨fn, #[.slice none 0 0, sv, .pointer (some ⟨Bs, 0, none⟩), undef, .slice none 0 0, undef, sv, uB x, undef, undef, undef, undef, undef], (loopParts Tryz.f162).1, (loopParts Tryz.f162).2, by simpa [loopRec] using run_yield (P := Tryz.prog) (args := #[uB x]) h.rcd rfl, roundIn_of_wpIn hfn ?_⟩
  have hl : l < W.heap.size := (Array.getElem?_eq_some_iff.1 h.rcd).1
  have hbr := run_beginRound (P := Tryz.prog) h.rcd rfl
  generalize hW2 : W.putObj l (.loop { loopRec Tryz.f162 fn sv Bs D .ready with state := .busy }) = W2 at hbr
  have hg2 : W.grownBy W2 (some l) := by rw [← hW2]; exact grownBy_putObj_a _ _ _
  have hk2 : KeepsWalks W W2 := by rw [← hW2]; exact KeepsWalks.putObj _ h.rcd rfl
  have hv2 : W2.heap[Bs]? = some (.cells #[v] 41 (0, 0)) := by rw [← hW2]; exact (World.putObj_heap_other hBl).trans hv
  have hK2 : W2.heap[D]? = some (.deferred (some [])) := by rw [← hW2]; exact (World.putObj_heap_other hDl).trans h.dfr
  have hL2 : W2.heap[l]? = some (.loop { loopRec Tryz.f162 fn sv Bs D .ready with state := .busy }) := by rw [← hW2]; exact World.putObj_heap_same hl
  have hrow2 : W2.ownsRow w0.heap.size 5 1 v ss.length (ss.map uB) := hrow.kept hg2 (ownsRow_ne_a hrow h.rcd (fun cur e => by cases e))
  have hb2 : Below w0.heap.size w0 W2 := h.below.grown hg2 h.below.size (fun k e => by cases e; exact h0l)
  obtain ⟨hc2, hf2⟩ := cell_of_box_a hv2
  have hBlt : Bs < W2.heap.size := (Array.getElem?_eq_some_iff.1 hv2).1
  have hl2 : l < W2.heap.size := (Array.getElem?_eq_some_iff.1 hL2).1
  have hDlt : D < W2.heap.size := (Array.getElem?_eq_some_iff.1 hK2).1
  have apart : ∀ {j : Nat} {o : Obj}, W2.heap[j]? = some o → (∀ cur, o ≠ .cells cur 5 (0, 0)) → some j ≠ v.ownBlock := fun hj hno => by
    rcases ownsRow_ne_a hrow2 hj hno with e | e
    · rw [e]; simp
    · exact fun e' => e e'.symm
  clear hW2
  generalize hB : (loopParts Tryz.f162).2 = bd
  simp only [loopParts, Tryz.f162]
  gi_wp2_with gi_round_op_a
  subst hB
  simp only [loopParts, Tryz.f162]
  gi_wp2_with (first
    | (gi_at_builtin; refine wpListIn_append_own _ rfl _ _ 41 rfl w0.heap.size 5 i0 (.int .u8 0) 1 1 Tryz.underlying41 hi hz0 hz1 hz2 rfl (by decide) _ _ _ rfl (hrow2.alloc _) ⟨W2.heap.size, 0, none⟩ 1 1 [uB x] rfl rfl (cell_one_new _ _ _) (by simp [Value.oneCell', uB]) (by simp only [maxLen]; omega) (by omega) (by have := hb2.size; simp; omega) ?_; intro v' w3 hown' hg3 hnil3
       have hv3 : w3.heap[Bs]? = some (.cells #[v] 41 (0, 0)) := (hg3.block Bs (by simp; omega) (apart hv2 (fun cur => cells_not5))).trans ((Below.heap_alloc _ _ Bs hBlt).trans hv2)
       obtain ⟨hc3, hf3⟩ := cell_of_box_a hv3
       obtain ⟨g', cap', cur', rfl, hrest⟩ := hown'.2.resolve_left (fun h0 => Nat.succ_ne_zero _ h0.2)
       go_frame)
    | gi_round_op_a)
  have hg3' : (W2.alloc (.cells #[uB x] 5)).grownBy w3 v.ownBlock := hg3
  have hL3 : w3.heap[l]? = some (.loop { loopRec Tryz.f162 fn sv Bs D .ready with state := .busy }) := (hg3'.block l (by simp; omega) (apart hL2 (fun cur e => by cases e))).trans ((Below.heap_alloc _ _ l hl2).trans hL2)
  have hK3 : w3.heap[D]? = some (.deferred (some [])) := (hg3'.block D (by simp; omega) (apart hK2 (fun cur e => by cases e))).trans ((Below.heap_alloc _ _ D hDlt).trans hK2)
  generalize hw4 : w3.setCell ⟨Bs, 0, none⟩ (.slice (some ⟨g', 0, none⟩) (ss.length + 1) cap') = w4
  have hg4 : w3.grownBy w4 (some Bs) := by rw [← hw4]; exact grownBy_setCell0_a _ _ _
  have hv4 : w4.heap[Bs]? = some (.cells #[.slice (some ⟨g', 0, none⟩) (ss.length + 1) cap'] 41 (0, 0)) := by rw [← hw4]; exact heap_setCell_box_a _ hv3
  have hL4 : w4.heap[l]? = some (.loop { loopRec Tryz.f162 fn sv Bs D .ready with state := .busy }) := (hg4.block l (Array.getElem?_eq_some_iff.1 hL3).1 (fun e => hBl (by cases e; rfl))).trans hL3
  have hK4 : w4.heap[D]? = some (.deferred (some [])) := (hg4.block D (Array.getElem?_eq_some_iff.1 hK3).1 (fun e => hDB (by cases e; rfl))).trans hK3
  have hrow4 := hown'.kept hg4 (ownsRow_ne_a hown' hv3 (fun cur => cells_not5))
  have hl4 : l < w4.heap.size := (Array.getElem?_eq_some_iff.1 hL4).1
  have hb3 : Below w0.heap.size w0 w3 := (hb2.alloc hb2.size _).grown hg3' (by have := hb2.size; simp; omega) (fun k e => (hrow2.lt k e).1)
  have hb4 : Below w0.heap.size w0 w4 := hb3.grown hg4 hb3.size (fun k e => by cases e; exact h0B)
  have hk4 : KeepsWalks W w4 := ((hk2.trans (KeepsWalks.alloc _ _)).trans (KeepsWalks.of_grownBy hg3' (ownsRow_not_walk_a (hrow2.alloc _)))).trans (by rw [← hw4]; exact KeepsWalks.setCell _ _ _)
  clear hw4
  refine ⟨_, _, run_endRound none hL4, rfl, ⟨⟨_, (World.putObj_heap_other hBl).trans hv4, ?_⟩, World.putObj_heap_same hl4, (World.putObj_heap_other hDl).trans hK4, hb4.grown (grownBy_putObj_a _ _ _) hb4.size (fun k e => by cases e; exact h0l)⟩, hk4.trans (KeepsWalks.putObj _ hL4 rfl)⟩
  have := hrow4.kept (grownBy_putObj_a w4 l (.loop { { loopRec Tryz.f162 fn sv Bs D .ready with state := .busy } with state := if (none : Option Code).isNone then .ready else .done, pending := none })) (ownsRow_ne_a hrow4 hL4 (fun cur e => by cases e))
  simpa using this
end Go.Proofs.YtojgjdcciojpeaaGreat
set_option linter.unusedSimpArgs false
set_option linter.unusedVariables false
namespace Go.Proofs.YtojgjdcciojpeaaGreat
open Go Go.RowKit Go.Maps Go.Sort Go.Shelf Go.Proofs

/-- The keys that have come: those of the map that are no longer to come, each once. -/
def Came {H : Type} (D0 : DataW H) (left : Lit → Bool) (ss : List Int) : Prop := ss.Nodup ∧ ∀ x, x ∈ ss ↔ (has D0 (.int .u8 x) = true ∧ left (.int .u8 x) = false)
theorem Came.none {H : Type} (D0 : DataW H) : Came D0 (has D0) [] := ⟨List.nodup_nil, fun x => by cases has D0 (.int .u8 x) <;> simp⟩
theorem Came.more {H : Type} {D0 : DataW H} {left : Lit → Bool} {ss : List Int} (h : Came D0 left ss) {x : Int} {y : DataW H} (hlk : left (.int .u8 x) = true) (hat : ∀ zd, D0.atKey (.int .u8 x) zd = y) :
    Came D0 (fun z => left z && !z.sameKey (.int .u8 x)) (ss ++ [x]) := by
  have hhas : has D0 (.int .u8 x) = true := has_true_of_atKey hat
  have hnew : x ∉ ss := fun hx => by have := ((h.2 x).1 hx).2; rw [hlk] at this; cases this
  refine ⟨List.nodup_append.2 ⟨h.1, by simp, fun a ha b hb => ?_⟩, fun y => ?_⟩
  · simp only [List.mem_singleton] at hb
    subst hb
    exact fun e => hnew (e ▸ ha)
  · by_cases hy : y = x
    · subst hy; simp [hhas, Lit.sameKey]
    · simp [h.2 y, hy, Lit.sameKey]

set_option maxRecDepth 100000 in
/-- The iterator of maps.Keys, at the rounds of slices.AppendSeq. -/
theorem iter36 {H : Type} (F : Fence) (n : Nat) (h36 : F.fn 155) (hro : F.round = none) (hn : 1 ≤ n) (Bm o b nn : Nat) (D0 : DataW H) {R : Value → Option (DataW H × List MemPlace)} (hsz : Maps.size D0 ≤ 1000)
    (w0 : World) (fn : FuncId) (hfn : F.fn fn) (sv : Value) (Bs l D : Nat) (hBl : Bs ≠ l) (hDl : D ≠ l) (hDB : D ≠ Bs) (h0B : w0.heap.size ≤ Bs) (h0l : w0.heap.size ≤ l)
    (W : World) (hW : w0.heap.size ≤ W.heap.size) (hm : W.cell? ⟨Bm, o, none⟩ = some (.map (some b))) (hown : W.ownsMap Tryz.prog 5 R b nn D0) (h0 : Got w0 fn sv Bs l D [] W) :
    CallsIn F n Tryz.prog 155 #[.func (.yield l) #[] #[], .pointer (some ⟨Bm, o, none⟩)] W fun e W' => (∃ v, e = .returned v) ∧ ∃ ss : List Int, Came D0 (fun _ => false) ss ∧ Got w0 fn sv Bs l D ss W' := by
  refine callsIn_of_wp Tryz.func155 rfl h36 ?_ hro
  simp only [Tryz.ntmps155, List.size_toArray, List.length_cons, List.length_nil, Nat.reduceAdd, Nat.reduceSub, Array.replicate_succ, Array.replicate_zero, List.push_toArray, List.append_toArray, List.nil_append, List.cons_append]
  gi_wp2_with (first
    | (gi_at_range; refine wpListIn_range_own _ rfl _ 175 rfl 5 3 (int_keyed Tryz.underlying5) Tryz.underlying175 _ b nn _ rfl hown ?_; intro w1 hrg0 hg0 hs0)
    | gi_in)
  go_frame
  gi_loopw [3] (fun _ wr => ∃ (left : Lit → Bool) (cnt : Nat) (ss : List Int), wr.ranges Tryz.prog 5 R b W.heap.size nn D0 left cnt ∧ ss.length + cnt ≤ Maps.size D0 ∧ Came D0 left ss ∧ Got w0 fn sv Bs l D ss wr)
    (fun _ wr => wr.rangeLeft b W.heap.size)
  case atStart =>
    exact ⟨_, _, [], hrg0, by simp, Came.none D0, h0.abides hW hg0 (fun r e => by cases e)⟩
  case round =>
    obtain ⟨left, cnt, ss, hrg, hcs, hC, hJs⟩ := hrel
    gi_wp2_with (first
      | (gi_at_next; refine wpListIn_next_ranges _ rfl _ rfl 5 (int_keyed Tryz.underlying5) R uB id (fun key kl hk => by obtain ⟨x, hx, _⟩ := Maps.keyOf_int_inv Tryz.underlying5 hk; exact ⟨x, hx⟩) (fun v _ _ => ⟨v, rfl⟩) b W.heap.size nn _ _ _ rfl hrg ?_ ?_)
      | gi_in)
    · -- nothing is left
      intro hc0 hl0
      gi_wp2
      go_end0
      exact ⟨⟨_, rfl⟩, ss, ⟨hC.1, fun x => by rw [hC.2 x, hl0]⟩, hJs⟩
    · -- an entry
      intro x c kl yd yp w2 cnt2 hkey hlk hv hat hrg2 hlt hg2 hs2 hen
      obtain ⟨x', ex, rfl, _⟩ := Maps.keyOf_int_inv Tryz.underlying5 hkey
      obtain rfl : x = x' := by simpa [uB] using ex
      have hJ2 : Got w0 fn sv Bs l D ss w2 := hJs.abides hW hg2 (fun r e => by cases e; exact ⟨Nat.le_refl _, hrg.iter_walk⟩)
      obtain ⟨fn', tmps, assign, body, hy, hR⟩ := round42 F (n - 1) w0 fn hfn sv Bs l D hBl hDl hDB h0B h0l ss x w2 hJ2 (by omega)
      clear hs2
      gi_wp2
      refine hR.mono ?_
      rintro e W3 ⟨rfl, hJ3, hk3⟩
      gi_wp2
      have hrg3 := hrg2.of_walks hk3
      go_roundw
      case rel => exact ⟨_, cnt2, ss ++ [x], hrg3, by simp; omega, hC.more hlk hat, hJ3⟩
      case measure => rw [hrg3.left_eq, hrg.left_eq]; exact hlt

set_option maxRecDepth 100000 in
/-- slices.AppendSeq(nil, maps.Keys(m)). -/
theorem append42 {H : Type} (F : Fence) (n : Nat) (h42 : F.fn 162) (h36 : F.fn 155) (hro : F.round = none) (hn : 2 ≤ n) (Bm o b nn : Nat) (D0 : DataW H) {R : Value → Option (DataW H × List MemPlace)} (hsz : Maps.size D0 ≤ 1000)
    (w : World) (hBm : Bm < w.heap.size) (hm : w.cell? ⟨Bm, o, none⟩ = some (.map (some b))) (hown : w.ownsMap Tryz.prog 5 R b nn D0) :
    CallsIn F n Tryz.prog 162 #[.slice none 0 0, .func (.func 155) #[] #[.pointer (some ⟨Bm, o, none⟩)]] w fun e w' => ∃ (v : Value) (ss : List Int), e = .returned v ∧ Came D0 (fun _ => false) ss ∧ w'.ownsRow w.heap.size 5 1 v ss.length (ss.map uB) ∧ Below w.heap.size w w' := by
  have h1 : 1 ≤ n := by omega
  have eg : ∀ args w, (callFunc 155 args).run Tryz.prog w = .ok (.enter 155 args) w := enters_of Tryz.func155 (by kernel_rfl) rfl
  refine callsIn_of_wp_marks Tryz.func162 rfl h42 ?_ hro
  simp only [Tryz.ntmps162, List.size_toArray, List.length_cons, List.length_nil, Nat.reduceAdd, Nat.reduceSub, Array.replicate_succ, Array.replicate_zero, List.push_toArray, List.append_toArray, List.nil_append, List.cons_append]
  gi_wp2
  refine wpIn_rangeFunc ?_
  intro fn hfn
  rw [hro]
  generalize hW0 : w.alloc (.cells #[.slice none 0 0] 41) = W0
  have hs0 : W0.heap.size = w.heap.size + 1 := by rw [← hW0]; simp
  have hv0 : W0.heap[w.heap.size]? = some (.cells #[.slice none 0 0] 41 (0, 0)) := by rw [← hW0]; exact World.alloc_heap_new w _
  have hb0 : Below w.heap.size w W0 := by rw [← hW0]; exact (Below.refl _ w).alloc (Nat.le_refl _) _
  generalize hsv : (Value.func (.func 155) #[] #[.pointer (some ⟨Bm, o, none⟩)]) = sv
  generalize hW1 : (W0.alloc (.deferred (some []))).alloc (.loop (loopRec Tryz.f162 fn sv w.heap.size W0.heap.size .ready)) = W1
  have hold : ∀ k, k < W0.heap.size → W1.heap[k]? = W0.heap[k]? := fun k hk => by
    rw [← hW1]; exact (Below.heap_alloc _ _ k (by simp; omega)).trans (Below.heap_alloc _ _ k hk)
  have hb1 : Below w.heap.size w W1 := by rw [← hW1]; exact (hb0.alloc hb0.size _).alloc (by have := hb0.size; simp; omega) _
  have hs1 : W1.heap.size = W0.heap.size + 2 := by rw [← hW1]; simp
  have hM : Got w fn sv w.heap.size (W0.heap.size + 1) W0.heap.size [] W1 :=
    ⟨⟨_, (hold w.heap.size (by omega)).trans hv0, ⟨rfl, .inl ⟨rfl, rfl⟩⟩⟩,
     by rw [← hW1]; have := World.alloc_heap_new (W0.alloc (.deferred (some []))) (.loop (loopRec Tryz.f162 fn sv w.heap.size W0.heap.size .ready)); rwa [World.size_alloc] at this,
     by rw [← hW1]; exact (Below.heap_alloc _ _ _ (by simp)).trans (World.alloc_heap_new W0 _), hb1⟩
  have hown1 : W1.ownsMap Tryz.prog 5 R b nn D0 := by
    have hbl := hown.lt
    obtain ⟨es, clock, hb, Ft, hs, hD⟩ := hown
    exact ⟨es, clock, (hb1.block b hbl).trans hb, Ft, hs, hD⟩
  have hm1 : W1.cell? ⟨Bm, o, none⟩ = some (.map (some b)) := (hb1.cell (p := ⟨Bm, o, none⟩) hBm).trans hm
  refine ⟨W0.heap.size + 1, [{ target := .collected W0.heap.size, args := #[] }], W1, { target := .fn (.func 155) #[.pointer (some ⟨Bm, o, none⟩)], args := #[.func (.yield (W0.heap.size + 1)) #[] #[]] }, W1, 155,
    #[.func (.yield (W0.heap.size + 1)) #[] #[]] ++ #[.pointer (some ⟨Bm, o, none⟩)], W1, ?_, ?_, ?_, ?_, fun _ => h1, ?_⟩
  · rw [← hW1]; exact run_enterLoop_outer _ _ _ _ _
  · subst hsv; simp [resolve, go_sem]
  · intro f' hf'; simp [Target.leads] at hf'; subst hf'; exact h36
  · simp [invoke, go_sem, eg]
  · refine (iter36 F (n - 1) h36 hro (by omega) Bm o b nn D0 hsz w fn hfn sv w.heap.size (W0.heap.size + 1) W0.heap.size (by omega) (by omega) (by omega) (Nat.le_refl _) (by omega) W1 hb1.size hm1 hown1 hM).mono ?_
    rintro e W2 ⟨⟨v0, rfl⟩, ss, hS, h2⟩
    obtain ⟨v, hv, hrow⟩ := h2.box
    have hend := run_endLoop (P := Tryz.prog) h2.rcd (by simp [loopRec])
    generalize hW3 : W2.putObj (W0.heap.size + 1) (.loop { loopRec Tryz.f162 fn sv w.heap.size W0.heap.size .ready with state := .exhausted }) = W3 at hend
    have hg3 : W2.grownBy W3 (some (W0.heap.size + 1)) := by rw [← hW3]; exact grownBy_putObj_a _ _ _
    have hv3 : W3.heap[w.heap.size]? = some (.cells #[v] 41 (0, 0)) := by rw [← hW3]; exact (World.putObj_heap_other (by omega)).trans hv
    have hK3 : W3.heap[W0.heap.size]? = some (.deferred (some [])) := by rw [← hW3]; exact (World.putObj_heap_other (by omega)).trans h2.dfr
    have hrow3 := hrow.kept hg3 (ownsRow_ne_a hrow h2.rcd (fun cur e => by cases e))
    have hb3 : Below w.heap.size w W3 := h2.below.grown hg3 h2.below.size (fun k e => by cases e; omega)
    obtain ⟨hc3, hf3⟩ := cell_of_box_a hv3
    clear hW3
    refine ⟨none, W3, hend, ?_⟩
    gi_wp2
    rw [← hs0]
    refine ⟨by simp, .inl ⟨_, _, rfl, run_takeDeferred hK3, ?_⟩⟩
    exact ⟨_, results_tmp rfl _ _ _, v, ss, rfl, hS, hrow3.kept (grownBy_putObj_a _ _ _) (ownsRow_ne_a hrow3 hK3 (fun cur e => by cases e)), hb3.grown (grownBy_putObj_a _ _ _) hb3.size (fun k e => by cases e; omega)⟩

/-- slices.Collect(maps.Keys(m)). -/
theorem collect34 {H : Type} (F : Fence) (n : Nat) (h34 : F.fn 153) (h42 : F.fn 162) (h36 : F.fn 155) (hro : F.round = none) (hn : 3 ≤ n) (Bm o b nn : Nat) (D0 : DataW H) {R : Value → Option (DataW H × List MemPlace)} (hsz : Maps.size D0 ≤ 1000)
    (w : World) (hBm : Bm < w.heap.size) (hm : w.cell? ⟨Bm, o, none⟩ = some (.map (some b))) (hown : w.ownsMap Tryz.prog 5 R b nn D0) :
    CallsIn F n Tryz.prog 153 #[.func (.func 155) #[] #[.pointer (some ⟨Bm, o, none⟩)]] w fun e w' => ∃ (v : Value) (ss : List Int), e = .returned v ∧ Came D0 (fun _ => false) ss ∧ w'.ownsRow w.heap.size 5 1 v ss.length (ss.map uB) ∧ Below w.heap.size w w' := by
  have h1 : 1 ≤ n := by omega
  have e42 : ∀ args w, (callFunc 162 args).run Tryz.prog w = .ok (.enter 162 args) w := enters_of Tryz.func162 (by kernel_rfl) rfl
  refine callsIn_of_wp Tryz.func153 rfl h34 ?_ hro
  simp only [Tryz.ntmps153, List.size_toArray, List.length_cons, List.length_nil, Nat.reduceAdd, Nat.reduceSub, Array.replicate_succ, Array.replicate_zero, List.push_toArray, List.append_toArray, List.nil_append, List.cons_append]
  gi_wp2_with (gi_at_call 162; refine (append42 F (n - 1) h42 h36 hro (by omega) Bm o b nn D0 hsz _ hBm hm hown).mono ?_; rintro e w' ⟨v, ss, rfl, hS, hrow, hb⟩)
  go_ret
  exact ⟨v, ss, rfl, hS, hrow, hb⟩
end Go.Proofs.YtojgjdcciojpeaaGreat
set_option linter.unusedSimpArgs false
set_option linter.unusedVariables false
namespace Go.Proofs.YtojgjdcciojpeaaGreat
open Go Go.PS
set_option maxRecDepth 100000
set_option maxHeartbeats 4000000
--%extra hE
/-- One element goes down to its place. -/
def bubble {α : Type} [Inhabited α] (lt : α → α → Bool) : List α → Nat → List α
  | z, 0 => z
  | z, j + 1 => if lt (z.getD (j + 1) default) (z.getD j default) then bubble lt ((z.set (j + 1) (z.getD j default)).set j (z.getD (j + 1) default)) j else z
/-- The library's insertion sort. -/
def isort {α : Type} [Inhabited α] (lt : α → α → Bool) : Nat → List α → Nat → List α
  | 0, z, _ => z
  | f + 1, z, i => if i < z.length then isort lt f (bubble lt z i) (i + 1) else z
theorem bubble_len {α : Type} [Inhabited α] (lt : α → α → Bool) : ∀ (j : Nat) (z : List α), (bubble lt z j).length = z.length
  | 0, z => rfl
  | j + 1, z => by
    simp only [bubble]
    split
    · rw [bubble_len lt j]; simp
    · rfl

def bD (n : Int) : D := .int .u8 n
def rB (l : List Int) : List PV := List.map PV.ofD.PV.ofD1 (List.map bD l)
theorem rB_len (l : List Int) : (rB l).length = l.length := by simp [rB]
theorem rB_set (l : List Int) (k : Nat) (v : Int) : (rB l).set k (.d (.int .u8 v)) = rB (l.set k v) := by simp [rB, bD, PV.ofD.PV.ofD1]
theorem rB_get {l : List Int} {k : Nat} (h : k < l.length) : (rB l).getD k .any = .d (.int .u8 (l.getD k default)) := by simp [rB, h, bD, PV.ofD.PV.ofD1]
theorem rB_le {ob tk} (l : List Int) : leElems ob tk (rB l) (rB l) = True := leElems_D _
def bO (l : List Int) : OB := ⟨5, 1, rB l⟩
def ltI (a b : Int) : Bool := decide (a < b)

theorem nan41 (a : Int) : PCall Tryz.prog 148 [.int .u8 a] (.bool false) := by
  have h : decide (a = a) = true := by simp
  refine enterP tabOk Tryz.func148 6 [0, 2] [.tmp 2] rfl (r := [_]) rfl (h := ?_); intro E hK; simp only [go_sem]
  refine wgoF (@h) ?_
  exact wret
theorem less61 (a b : Int) : PCall Tryz.prog 182 [.int .u8 a, .int .u8 b] (.bool (ltI a b)) := by
  refine enterP tabOk Tryz.func182 17 [0, 1, 4] [.tmp 4] rfl (r := [_]) rfl (h := ?_); intro E hK; simp only [go_sem]
  refine wgo ?_
  refine wcall (nan41 a) ?_
  refine wgo ?_
  exact wretF (@ltI.eq_1)

def is55H (n : Nat) (z : List Int) (i : Nat) : SL := SL.mk [(0, .hrow 5000 1 0 n n), (1, .d (.int .i64 0)), (2, .d (.int .i64 n)), (6, .d (.int .i64 i))] [(5000, some (bO z))] []
def is55J (n : Nat) (z : List Int) (i j : Nat) : SL := SL.mk [(0, .hrow 5000 1 0 n n), (1, .d (.int .i64 0)), (2, .d (.int .i64 n)), (6, .d (.int .i64 i)), (7, .d (.int .i64 j))] [(5000, some (bO z))] []
def bPO (l : List Int) : PO := ⟨5000, 5, 1, l.map bD⟩
theorem bPO_el (l : List Int) : ∀ q ∈ [bPO l], ∀ e ∈ q.elems, e.cells.length = q.sz := by
  intro q hq e he
  simp only [List.mem_singleton] at hq
  subst hq
  obtain ⟨x, _, rfl⟩ := List.mem_map.1 he
  rfl
theorem ids_one {p q : PO} (h : q.id = p.id) : ∀ x ∈ [p], ∃ y ∈ [q], y.id = x.id := by
  intro x hx
  simp only [List.mem_singleton] at hx
  subst hx
  exact ⟨q, by simp, h⟩
theorem rB_fold (l : List Int) : List.map PV.ofD.PV.ofD1 (List.map bD l) = rB l := rfl

theorem isort55 (l : List Int) (hl : l.length ≤ 1000) : MCall Tryz.prog 176 [bPO l] [.hrow 5000 1 0 l.length l.length, .d (.int .i64 0), .d (.int .i64 l.length)] (.tup []) [bPO (isort ltI l.length l 1)] := by
  refine enterM tabOk Tryz.func176 49 [0, 1, 2, 6, 7, 12, 30] [] rfl (r := []) rfl (bPO_el l) (ids_one rfl) (h := ?_); intro E hK; simp only [go_sem, is55H, is55J, bO, rB_len, rB_set, rB_le, bPO, rB_fold]
  refine wgoF (And.intro (@is55H.eq_1) (And.intro (@is55J.eq_1) (And.intro (@bO.eq_1) (And.intro (@rB_len) (And.intro (@rB_set) (And.intro (@rB_le) (And.intro (@bPO.eq_1) (@rB_fold)))))))) ?_
  refine wlpF (Run.loop (ι := { x : Nat × List Int × Nat // x.2.1.length = l.length ∧ isort ltI x.2.2 x.2.1 x.1 = isort ltI l.length l 1 ∧ l.length ≤ x.1 + x.2.2 }) (H := fun i => is55H l.length i.1.2.1 i.1.1) (μ := fun i => l.length - i.1.1) (i0 := ⟨(1, l, l.length), rfl, rfl, by dsimp only; omega⟩)) (And.intro (@is55H.eq_1) (And.intro (@is55J.eq_1) (And.intro (@bO.eq_1) (And.intro (@rB_len) (And.intro (@rB_set) (And.intro (@rB_le) (And.intro (@bPO.eq_1) (@rB_fold)))))))) ?_
  rintro ⟨⟨i, z, fu⟩, hz, hs, hfu⟩ ih0
  dsimp only at hz hs hfu
  by_cases hlt : i < l.length
  · have h1 : (i : Int) < l.length := by omega
    have hs2 : isort ltI (fu - 1) (bubble ltI z i) (i + 1) = isort ltI l.length l 1 := by
      obtain ⟨fu', rfl⟩ : ∃ f, fu = f + 1 := ⟨fu - 1, by omega⟩
      rw [← hs, isort, if_pos (by omega)]; rfl
    simp only [go_sem, is55H, is55J, bO, rB_len, rB_set, rB_le, bPO, rB_fold]
    refine wgoF (And.intro (@h1) (And.intro (@is55H.eq_1) (And.intro (@is55J.eq_1) (And.intro (@bO.eq_1) (And.intro (@rB_len) (And.intro (@rB_set) (And.intro (@rB_le) (And.intro (@bPO.eq_1) (@rB_fold))))))))) ?_
    refine wlpF (Run.loop (ι := { x : Nat × List Int // x.2.length = l.length ∧ x.1 ≤ i ∧ bubble ltI x.2 x.1 = bubble ltI z i }) (H := fun j => is55J l.length j.1.2 i j.1.1) (μ := fun j => j.1.1) (i0 := ⟨(i, z), hz, Nat.le_refl _, rfl⟩)) (And.intro (@is55H.eq_1) (And.intro (@is55J.eq_1) (And.intro (@bO.eq_1) (And.intro (@rB_len) (And.intro (@rB_set) (And.intro (@rB_le) (And.intro (@bPO.eq_1) (@rB_fold)))))))) ?_
    rintro ⟨⟨j, y⟩, hy, hj, hb⟩ ih
    dsimp only at hy hj hb
    cases j with
    | zero =>
      have h2 : ¬ (0 : Int) < ((0 : Nat) : Int) := by omega
      have hyz : y = bubble ltI z i := by rw [← hb]; rfl
      simp only [go_sem, is55H, is55J, bO, rB_len, rB_set, rB_le, bPO, rB_fold]
      refine wgoF (And.intro (@h2) (And.intro (@is55H.eq_1) (And.intro (@is55J.eq_1) (And.intro (@bO.eq_1) (And.intro (@rB_len) (And.intro (@rB_set) (And.intro (@rB_le) (And.intro (@bPO.eq_1) (@rB_fold))))))))) ?_
      exact wnxtF (ih0 ⟨(i + 1, y, fu - 1), by rw [hyz, bubble_len]; exact hz, by rw [hyz]; exact hs2, by dsimp only; omega⟩) (And.intro (@is55H.eq_1) (And.intro (@is55J.eq_1) (And.intro (@bO.eq_1) (And.intro (@rB_len) (And.intro (@rB_set) (And.intro (@rB_le) (And.intro (@bPO.eq_1) (@rB_fold))))))))
    | succ j =>
      have h2 : (0 : Int) < ((j + 1 : Nat) : Int) := by omega
      have m1 : (((j + 1 : Nat) : Int) - 1).toNat = j := by omega
      have e1 : (rB y).getD (j + 1) .any = .d (.int .u8 (y.getD (j + 1) default)) := rB_get (by omega)
      have e2 : (rB y).getD j .any = .d (.int .u8 (y.getD j default)) := rB_get (by omega)
      have e3 : (rB (y.set (j + 1) (y.getD j default))).getD j .any = .d (.int .u8 ((y.set (j + 1) (y.getD j default)).getD j default)) := rB_get (by simp; omega)
      have hless := less61 (y.getD (j + 1) default) (y.getD j default)
      have hlen2 : j + 1 < y.length := by omega
      cases hc : ltI (y.getD (j + 1) default) (y.getD j default) with
      | true =>
        have hb2 : bubble ltI ((y.set (j + 1) (y.getD j default)).set j (y.getD (j + 1) default)) j = bubble ltI z i := by rw [← hb, bubble, if_pos hc]
        rw [hc] at hless
        simp only [go_sem, is55H, is55J, bO, rB_len, rB_set, rB_le, bPO, rB_fold]
        refine wgoF (And.intro (@h2) (And.intro (@m1) (And.intro (@e1) (And.intro (@e2) (And.intro (@is55H.eq_1) (And.intro (@is55J.eq_1) (And.intro (@bO.eq_1) (And.intro (@rB_len) (And.intro (@rB_set) (And.intro (@rB_le) (And.intro (@bPO.eq_1) (@rB_fold)))))))))))) ?_
        refine wcallF (hless) (And.intro (@is55H.eq_1) (And.intro (@is55J.eq_1) (And.intro (@bO.eq_1) (And.intro (@rB_len) (And.intro (@rB_set) (And.intro (@rB_le) (And.intro (@bPO.eq_1) (@rB_fold)))))))) ?_
        refine wgoF (And.intro (@h2) (And.intro (@m1) (And.intro (@e1) (And.intro (@e2) (And.intro (@e3) (And.intro (@is55H.eq_1) (And.intro (@is55J.eq_1) (And.intro (@bO.eq_1) (And.intro (@rB_len) (And.intro (@rB_set) (And.intro (@rB_le) (And.intro (@bPO.eq_1) (@rB_fold))))))))))))) ?_
        exact wnxtF (ih ⟨(j, (y.set (j + 1) (y.getD j default)).set j (y.getD (j + 1) default)), by simpa using hy, by omega, hb2⟩) (And.intro (@is55H.eq_1) (And.intro (@is55J.eq_1) (And.intro (@bO.eq_1) (And.intro (@rB_len) (And.intro (@rB_set) (And.intro (@rB_le) (And.intro (@bPO.eq_1) (@rB_fold))))))))
      | false =>
        have hb2 : y = bubble ltI z i := by rw [← hb, bubble, if_neg (by rw [hc]; simp)]
        rw [hc] at hless
        simp only [go_sem, is55H, is55J, bO, rB_len, rB_set, rB_le, bPO, rB_fold]
        refine wgoF (And.intro (@h2) (And.intro (@m1) (And.intro (@e1) (And.intro (@e2) (And.intro (@is55H.eq_1) (And.intro (@is55J.eq_1) (And.intro (@bO.eq_1) (And.intro (@rB_len) (And.intro (@rB_set) (And.intro (@rB_le) (And.intro (@bPO.eq_1) (@rB_fold)))))))))))) ?_
        refine wcallF (hless) (And.intro (@is55H.eq_1) (And.intro (@is55J.eq_1) (And.intro (@bO.eq_1) (And.intro (@rB_len) (And.intro (@rB_set) (And.intro (@rB_le) (And.intro (@bPO.eq_1) (@rB_fold)))))))) ?_
        refine wgoF (And.intro (@is55H.eq_1) (And.intro (@is55J.eq_1) (And.intro (@bO.eq_1) (And.intro (@rB_len) (And.intro (@rB_set) (And.intro (@rB_le) (And.intro (@bPO.eq_1) (@rB_fold)))))))) ?_
        exact wnxtF (ih0 ⟨(i + 1, y, fu - 1), by rw [hb2, bubble_len]; exact hz, by rw [hb2]; exact hs2, by dsimp only; omega⟩) (And.intro (@is55H.eq_1) (And.intro (@is55J.eq_1) (And.intro (@bO.eq_1) (And.intro (@rB_len) (And.intro (@rB_set) (And.intro (@rB_le) (And.intro (@bPO.eq_1) (@rB_fold))))))))
  · have h1 : ¬ (i : Int) < l.length := by omega
    have hs2 : z = isort ltI l.length l 1 := by
      rw [← hs]
      cases fu with
      | zero => rfl
      | succ f => rw [isort, if_neg (by omega)]
    subst hs2
    simp only [go_sem, is55H, is55J, bO, rB_len, rB_set, rB_le, bPO, rB_fold]
    refine wgoF (And.intro (@h1) (And.intro (@is55H.eq_1) (And.intro (@is55J.eq_1) (And.intro (@bO.eq_1) (And.intro (@rB_len) (And.intro (@rB_set) (And.intro (@rB_le) (And.intro (@bPO.eq_1) (@rB_fold))))))))) ?_
    exact wretF (And.intro (@is55H.eq_1) (And.intro (@is55J.eq_1) (And.intro (@bO.eq_1) (And.intro (@rB_len) (And.intro (@rB_set) (And.intro (@rB_le) (And.intro (@bPO.eq_1) (@rB_fold))))))))
theorem inR_u64 (n : Int) : inR .u64 n = (decide (0 ≤ n) && decide (n ≤ 18446744073709551615)) := rfl

def tbl8 : List UInt8 := [0, 1, 2, 2, 3, 3, 3, 3, 4, 4, 4, 4, 4, 4, 4, 4, 5, 5, 5, 5, 5, 5, 5, 5, 5, 5, 5, 5, 5, 5, 5, 5, 6, 6, 6, 6, 6, 6, 6, 6, 6, 6, 6, 6, 6, 6, 6, 6, 6, 6, 6, 6, 6, 6, 6, 6, 6, 6, 6, 6, 6, 6, 6, 6, 7, 7, 7, 7, 7, 7, 7, 7, 7, 7, 7, 7, 7, 7, 7, 7, 7, 7, 7, 7, 7, 7, 7, 7, 7, 7, 7, 7, 7, 7, 7, 7, 7, 7, 7, 7, 7, 7, 7, 7, 7, 7, 7, 7, 7, 7, 7, 7, 7, 7, 7, 7, 7, 7, 7, 7, 7, 7, 7, 7, 7, 7, 7, 7, 8, 8, 8, 8, 8, 8, 8, 8, 8, 8, 8, 8, 8, 8, 8, 8, 8, 8, 8, 8, 8, 8, 8, 8, 8, 8, 8, 8, 8, 8, 8, 8, 8, 8, 8, 8, 8, 8, 8, 8, 8, 8, 8, 8, 8, 8, 8, 8, 8, 8, 8, 8, 8, 8, 8, 8, 8, 8, 8, 8, 8, 8, 8, 8, 8, 8, 8, 8, 8, 8, 8, 8, 8, 8, 8, 8, 8, 8, 8, 8, 8, 8, 8, 8, 8, 8, 8, 8, 8, 8, 8, 8, 8, 8, 8, 8, 8, 8, 8, 8, 8, 8, 8, 8, 8, 8, 8, 8, 8, 8, 8, 8, 8, 8, 8, 8, 8, 8, 8, 8, 8, 8, 8, 8, 8, 8, 8, 8]
def lenR (n : Int) : Int := 0 + (((tbl8.getD n.toNat 0).toNat : Nat) : Int)
theorem len54 (n : Int) (h0 : 0 ≤ n) (h1 : n ≤ 255) : ∃ r, PCall Tryz.prog 174 [.int .u64 n] (.int .i64 r) := by
  have c1 : ¬ (4294967296 : Int) ≤ n := by omega
  have c2 : ¬ (65536 : Int) ≤ n := by omega
  have c3 : ¬ (256 : Int) ≤ n := by omega
  refine ⟨lenR n, ?_⟩
  · refine enterP tabOk Tryz.func174 25 [0, 2, 4, 8, 14] [.tmp 2] rfl (r := [_]) rfl (h := ?_); intro E hK; simp only [go_sem, bPO, rB_fold, bO, rB_len, inR_u64]
    refine wgoF (And.intro (@c1) (And.intro (@c2) (And.intro (@c3) (And.intro (@bPO.eq_1) (And.intro (@rB_fold) (And.intro (@bO.eq_1) (And.intro (@rB_len) (@inR_u64)))))))) ?_
    apply rops_ev
    case hg => simp only [go_sem, bPO, rB_fold, bO, rB_len, inR_u64]
    case he => simp only [go_sem, bPO, rB_fold, bO, rB_len, inR_u64]; exact ⟨rfl, rfl⟩
    case hc =>
      refine (Bool.and_eq_true _ _).mpr ⟨decide_eq_true h0, decide_eq_true ?_⟩
      show n < ((256 : Nat) : Int)
      omega
    generalize hq : List.getD _ n.toNat (0 : UInt8) = q
    have hq3 : q = tbl8.getD n.toNat 0 := by rw [← hq]; rfl
    subst hq3
    have hq2 := UInt8.toNat_lt (tbl8.getD n.toNat 0)
    refine wgoF (And.intro (@bPO.eq_1) (And.intro (@rB_fold) (And.intro (@bO.eq_1) (And.intro (@rB_len) (@inR_u64))))) ?_
    exact wretF (And.intro (@lenR.eq_1) (And.intro (@bPO.eq_1) (And.intro (@rB_fold) (And.intro (@bO.eq_1) (And.intro (@rB_len) (@inR_u64))))))
theorem len40 (n : Int) (h0 : 0 ≤ n) (h1 : n ≤ 255) : ∃ r, PCall Tryz.prog 158 [.int .u64 n] (.int .i64 r) := by
  obtain ⟨r, hr⟩ := len54 n h0 h1
  refine ⟨r, ?_⟩
  refine enterP tabOk Tryz.func158 8 [0, 2] [.tmp 2] rfl (r := [_]) rfl (h := ?_); intro E hK; simp only [go_sem, bPO, rB_fold, bO, rB_len, inR_u64]
  refine run_seq ?_
  refine woneF (And.intro (@bPO.eq_1) (And.intro (@rB_fold) (And.intro (@bO.eq_1) (And.intro (@rB_len) (@inR_u64))))) ?_
  refine run_seq ?_
  refine run_cond (t := false) rfl (fun h => by cases h) (fun _ => ?_)
  refine wgoF (And.intro (@bPO.eq_1) (And.intro (@rB_fold) (And.intro (@bO.eq_1) (And.intro (@rB_len) (@inR_u64))))) ?_
  refine wcallF (hr) (And.intro (@bPO.eq_1) (And.intro (@rB_fold) (And.intro (@bO.eq_1) (And.intro (@rB_len) (@inR_u64))))) ?_
  refine wgoF (And.intro (@bPO.eq_1) (And.intro (@rB_fold) (And.intro (@bO.eq_1) (And.intro (@rB_len) (@inR_u64))))) ?_
  exact wretF (And.intro (@bPO.eq_1) (And.intro (@rB_fold) (And.intro (@bO.eq_1) (And.intro (@rB_len) (@inR_u64)))))
theorem pdq43 (l : List Int) (hl : l.length ≤ 12) (m : Int) : MCall Tryz.prog 163 [bPO l] [.hrow 5000 1 0 l.length l.length, .d (.int .i64 0), .d (.int .i64 l.length), .d (.int .i64 m)] (.tup []) [bPO (isort ltI l.length l 1)] := by
  have h1 : (l.length : Int) - 0 ≤ 12 := by omega
  refine enterM tabOk Tryz.func163 134 [0, 1, 2, 3, 8, 9, 10, 11, 12, 13, 14, 15, 16, 17, 18, 23, 29, 35, 50, 68, 72, 87, 113] [] rfl (r := []) rfl (bPO_el l) (ids_one rfl) (h := ?_); intro E hK; simp only [go_sem, bPO, rB_fold, bO, rB_len, inR_u64]
  refine wgoF (And.intro (@h1) (And.intro (@bPO.eq_1) (And.intro (@rB_fold) (And.intro (@bO.eq_1) (And.intro (@rB_len) (@inR_u64)))))) ?_
  refine run_loop ?_
  refine wgoF (And.intro (@h1) (And.intro (@bPO.eq_1) (And.intro (@rB_fold) (And.intro (@bO.eq_1) (And.intro (@rB_len) (@inR_u64)))))) ?_
  refine wmcallF ([(5000, 5000)]) (bPO_el _) (isort55 l (by omega)) (And.intro (@bPO.eq_1) (And.intro (@rB_fold) (And.intro (@bO.eq_1) (And.intro (@rB_len) (@inR_u64))))) ?_
  refine wgoF (And.intro (@bPO.eq_1) (And.intro (@rB_fold) (And.intro (@bO.eq_1) (And.intro (@rB_len) (@inR_u64))))) ?_
  exact wretF (And.intro (@bPO.eq_1) (And.intro (@rB_fold) (And.intro (@bO.eq_1) (And.intro (@rB_len) (@inR_u64)))))
theorem sort35 (l : List Int) (hl : l.length ≤ 12) : MCall Tryz.prog 154 [bPO l] [.hrow 5000 1 0 l.length l.length] (.tup []) [bPO (isort ltI l.length l 1)] := by
  obtain ⟨r, hr⟩ := len40 l.length (by omega) (by omega)
  refine enterM tabOk Tryz.func154 11 [0, 2] [] rfl (r := []) rfl (bPO_el l) (ids_one rfl) (h := ?_); intro E hK; simp only [go_sem, bPO, rB_fold, bO, rB_len, inR_u64]
  refine wgoF (And.intro (@bPO.eq_1) (And.intro (@rB_fold) (And.intro (@bO.eq_1) (And.intro (@rB_len) (@inR_u64))))) ?_
  refine wcallF (hr) (And.intro (@bPO.eq_1) (And.intro (@rB_fold) (And.intro (@bO.eq_1) (And.intro (@rB_len) (@inR_u64))))) ?_
  refine wgoF (And.intro (@bPO.eq_1) (And.intro (@rB_fold) (And.intro (@bO.eq_1) (And.intro (@rB_len) (@inR_u64))))) ?_
  refine wmcallF ([(5000, 5000)]) (bPO_el _) (pdq43 l hl r) (And.intro (@bPO.eq_1) (And.intro (@rB_fold) (And.intro (@bO.eq_1) (And.intro (@rB_len) (@inR_u64))))) ?_
  refine wgoF (And.intro (@bPO.eq_1) (And.intro (@rB_fold) (And.intro (@bO.eq_1) (And.intro (@rB_len) (@inR_u64))))) ?_
  exact wretF (And.intro (@bPO.eq_1) (And.intro (@rB_fold) (And.intro (@bO.eq_1) (And.intro (@rB_len) (@inR_u64)))))
end Go.Proofs.YtojgjdcciojpeaaGreat
set_option linter.unusedSimpArgs false
set_option linter.unusedVariables false
namespace Go.Proofs.YtojgjdcciojpeaaGreat
open Go Go.PS

/-- An element goes into a list that is held the other way round. -/
def insRev {α : Type} (lt : α → α → Bool) (x : α) : List α → List α
  | [] => [x]
  | y :: r => if lt x y then y :: insRev lt x r else x :: y :: r

theorem getD_mid {α : Type} [Inhabited α] (a : List α) (x : α) (b : List α) : (a ++ x :: b).getD a.length default = x := by simp

theorem bubble_ins {α : Type} [Inhabited α] (lt : α → α → Bool) (x : α) : ∀ (r q : List α), bubble lt (r.reverse ++ x :: q) r.length = (insRev lt x r).reverse ++ q
  | [], q => by simp [bubble, insRev]
  | y :: r, q => by
    have e0 : (y :: r).reverse ++ x :: q = r.reverse ++ y :: x :: q := by simp
    have e1 : (r.reverse ++ y :: x :: q).getD (r.length + 1) default = x := by
      have h1 := getD_mid (r.reverse ++ [y]) x q
      simp only [List.append_assoc, List.length_append, List.length_reverse, List.length_cons, List.length_nil, List.cons_append, List.nil_append, Nat.zero_add] at h1
      exact h1
    have e2 : (r.reverse ++ y :: x :: q).getD r.length default = y := by
      have h1 := getD_mid r.reverse y (x :: q)
      simp only [List.length_reverse] at h1
      exact h1
    have e3 : ((r.reverse ++ y :: x :: q).set (r.length + 1) y).set r.length x = r.reverse ++ x :: y :: q := by
      have h1 : r.length + 1 = r.reverse.length + 1 := by simp
      have h2 : r.length = r.reverse.length := by simp
      rw [h1, List.set_append_right _ _ (by omega), Nat.add_sub_cancel_left]
      rw [h2, List.set_append_right _ _ (by omega), Nat.sub_self]
      rfl
    rw [List.length_cons, e0, bubble, e1, e2]
    split
    · rename_i h
      rw [e3, bubble_ins lt x r (y :: q)]
      simp [insRev, h]
    · rename_i h
      simp [insRev, h]

theorem insRev_perm {α : Type} (lt : α → α → Bool) (x : α) : ∀ r : List α, (insRev lt x r).Perm (x :: r)
  | [] => List.Perm.refl _
  | y :: r => by
    simp only [insRev]
    split
    · exact ((insRev_perm lt x r).cons y).trans (List.Perm.swap x y r)
    · exact List.Perm.refl _
theorem insRev_len {α : Type} (lt : α → α → Bool) (x : α) (r : List α) : (insRev lt x r).length = r.length + 1 := by
  have := (insRev_perm lt x r).length_eq
  simpa using this

theorem isort_fold {α : Type} [Inhabited α] (lt : α → α → Bool) : ∀ (f : Nat) (q r : List α), q.length ≤ f → isort lt f (r.reverse ++ q) r.length = (q.foldl (fun r x => insRev lt x r) r).reverse
  | 0, q, r, h => by
    have : q = [] := List.eq_nil_of_length_eq_zero (by omega)
    subst this; simp [isort]
  | f + 1, [], r, h => by simp [isort]
  | f + 1, x :: q, r, h => by
    rw [isort, if_pos (by simp), bubble_ins, ← insRev_len lt x r, isort_fold lt f q _ (by simpa using h)]
    rfl

/-- The whole: sort from the second element on. -/
theorem isort_eq {α : Type} [Inhabited α] (lt : α → α → Bool) (l : List α) : isort lt l.length l 1 = (l.foldl (fun r x => insRev lt x r) []).reverse := by
  cases l with
  | nil => simp [isort]
  | cons x l =>
    have := isort_fold lt (x :: l).length l [x] (by simp)
    simpa [insRev] using this

theorem fold_perm {α : Type} (lt : α → α → Bool) : ∀ (l r : List α), (l.foldl (fun r x => insRev lt x r) r).Perm (l ++ r)
  | [], r => List.Perm.refl _
  | x :: l, r => by
    refine (fold_perm lt l (insRev lt x r)).trans ?_
    refine ((insRev_perm lt x r).append_left l).trans ?_
    rw [List.cons_append]
    exact List.perm_middle
theorem isort_perm {α : Type} [Inhabited α] (lt : α → α → Bool) (l : List α) : (isort lt l.length l 1).Perm l := by
  rw [isort_eq]
  exact (List.reverse_perm _).trans (by simpa using fold_perm lt l [])

/-- Sorted, where the order is that of a number. -/
def ltK {α : Type} (key : α → Int) (a b : α) : Bool := decide (key a < key b)
theorem insRev_sorted {α : Type} (key : α → Int) (x : α) : ∀ r : List α, r.Pairwise (fun a b => key b ≤ key a) → (insRev (ltK key) x r).Pairwise (fun a b => key b ≤ key a)
  | [], _ => by simp [insRev]
  | y :: r, h => by
    obtain ⟨h1, h2⟩ := List.pairwise_cons.1 h
    simp only [insRev]
    split
    · rename_i hlt
      have hlt' : key x < key y := by simpa [ltK] using hlt
      refine List.pairwise_cons.2 ⟨fun z hz => ?_, insRev_sorted key x r h2⟩
      rcases List.mem_cons.1 ((insRev_perm _ x r).mem_iff.1 hz) with rfl | hz
      · omega
      · exact h1 z hz
    · rename_i hlt
      have hlt' : key y ≤ key x := by simpa [ltK] using hlt
      refine List.pairwise_cons.2 ⟨fun z hz => ?_, h⟩
      rcases List.mem_cons.1 hz with rfl | hz
      · exact hlt'
      · have := h1 z hz; omega
theorem fold_sorted {α : Type} (key : α → Int) : ∀ (l r : List α), r.Pairwise (fun a b => key b ≤ key a) → (l.foldl (fun r x => insRev (ltK key) x r) r).Pairwise (fun a b => key b ≤ key a)
  | [], r, h => h
  | x :: l, r, h => fold_sorted key l _ (insRev_sorted key x r h)
theorem isort_sorted {α : Type} [Inhabited α] (key : α → Int) (l : List α) : (isort (ltK key) l.length l 1).Pairwise (fun a b => key a ≤ key b) := by
  rw [isort_eq, List.pairwise_reverse]
  exact fold_sorted key l [] List.Pairwise.nil

theorem ltI_eq : ltI = ltK (fun x : Int => x) := rfl
def sortK (l : List Int) : List Int := isort ltI l.length l 1
theorem sortK_perm (l : List Int) : (sortK l).Perm l := isort_perm _ _
theorem sortK_sorted (l : List Int) : (sortK l).Pairwise (· ≤ ·) := isort_sorted (fun x => x) l
theorem sortK_of_perm {l l' : List Int} (h : l.Perm l') : sortK l = sortK l' :=
  List.Perm.eq_of_pairwise (le := fun a b => a ≤ b) (fun a b _ _ h1 h2 => Int.le_antisymm h1 h2) (sortK_sorted l) (sortK_sorted l') (((sortK_perm l).trans h).trans (sortK_perm l').symm)
end Go.Proofs.YtojgjdcciojpeaaGreat
set_option linter.unusedSimpArgs false
set_option linter.unusedVariables false
namespace Go.Proofs.YtojgjdcciojpeaaGreat
open Go Go.RowKit Go.Maps Go.Sort Go.Shelf Go.Proofs Go.PS Go.WideElems Go.MapKept

def kvD (l : List Ch) : List D := (l.map Ch.d).flatMap D.cells
def kvV (l : List Ch) : List Value := l.flatMap fun c => [.int .u8 c.k, .int .i64 c.c]
def ents : Nat → List Ch → List MapEntry
  | _, [] => []
  | n, c :: l => ⟨.int .u8 c.k, .int .i64 c.c, n⟩ :: ents (n + 1) l

theorem kv_rep {K} : ∀ (l : List Ch) (vs : List Value), RepDL K (kvD l) vs → vs = kvV l
  | [], vs, h => List.eq_nil_of_length_eq_zero (by simpa [kvD] using h.1.symm)
  | c :: l, vs, h => by
    have e : kvD (c :: l) = .int .u8 c.k :: .int .i64 c.c :: kvD l := by simp [kvD, Ch.d, D.cells]
    rw [e] at h
    obtain ⟨a, vs1, rfl, ha, h1⟩ := h.cons_inv
    obtain ⟨b, vs2, rfl, hb, h2⟩ := h1.cons_inv
    cases ha; cases hb
    rw [kv_rep l vs2 h2]; rfl
theorem ents_of : ∀ (l : List Ch) (n : Nat), entriesOf n (kvV l) = ents n l
  | [], n => rfl
  | c :: l, n => by
    have e : kvV (c :: l) = .int .u8 c.k :: .int .i64 c.c :: kvV l := by simp [kvV]
    rw [e, entriesOf, ents_of l (n + 1)]; rfl
theorem ents_len : ∀ (l : List Ch) (n : Nat), (ents n l).length = l.length
  | [], n => rfl
  | c :: l, n => by simp [ents, ents_len l]
theorem ents_born : ∀ (l : List Ch) (n : Nat), (∀ x ∈ ents n l, n ≤ x.born ∧ x.born < n + l.length) ∧ ((ents n l).map (·.born)).Nodup
  | [], n => ⟨fun x h => (List.not_mem_nil h).elim, List.nodup_nil⟩
  | c :: l, n => by
    obtain ⟨h1, h2⟩ := ents_born l (n + 1)
    refine ⟨fun x hx => ?_, ?_⟩
    · rcases List.mem_cons.1 hx with rfl | hx
      · exact ⟨Nat.le_refl _, by simp⟩
      · have := h1 x hx; simp only [List.length_cons]; omega
    · simp only [ents, List.map_cons, List.nodup_cons]
      refine ⟨fun h => ?_, h2⟩
      obtain ⟨y, hy, e⟩ := List.mem_map.1 h
      have := (h1 y hy).1
      omega
theorem ents_key : ∀ (l : List Ch) (n : Nat), (ents n l).map (·.key) = l.map (fun c => Value.int .u8 c.k)
  | [], n => rfl
  | c :: l, n => by simp [ents, ents_key l]
theorem ents_keys : ∀ (l : List Ch) (n : Nat), ∀ x ∈ ents n l, ∃ c ∈ l, x.key = .int .u8 c.k
  | [], n, x, h => (List.not_mem_nil h).elim
  | c :: l, n, x, h => by
    rcases List.mem_cons.1 h with rfl | h
    · exact ⟨c, by simp, rfl⟩
    · obtain ⟨c', h1, h2⟩ := ents_keys l (n + 1) x h
      exact ⟨c', by simp [h1], h2⟩
theorem ents_has : ∀ (l : List Ch) (n : Nat), ∀ c ∈ l, ∃ x ∈ ents n l, x.key = .int .u8 c.k
  | [], n, c, h => (List.not_mem_nil h).elim
  | c' :: l, n, c, h => by
    rcases List.mem_cons.1 h with rfl | h
    · exact ⟨_, List.mem_cons_self, rfl⟩
    · obtain ⟨x, h1, h2⟩ := ents_has l (n + 1) c h
      exact ⟨x, List.mem_cons_of_mem _ h1, h2⟩

theorem bD_flat : ∀ ss : List Int, (ss.map bD).flatMap D.cells = ss.map bD
  | [] => rfl
  | x :: r => by
    have := bD_flat r
    rw [List.map_cons, List.flatMap_cons, this]; rfl

/-- A value is not looked at. -/
def noVal (_ : Value) : Option (DataW Unit × List MemPlace) := some (.nil, [])
theorem rd_ent {x : MapEntry} {k : Int} (hk : 0 ≤ k ∧ k ≤ 255) (he : x.key = .int .u8 k) : rd Tryz.prog 5 noVal x = some (.int .u8 k, .nil) := by
  have hw : (Lit.int .u8 k).wf = true := by
    simp [Lit.wf, IntKind.min, IntKind.max, IntKind.signed, IntKind.bits]; omega
  simp only [rd, he, Maps.keyOf_int_mk Tryz.underlying5 hw, noVal, Option.bind_some, Option.map_some]
theorem rg_ent {x : MapEntry} {k : Int} (hk : 0 ≤ k ∧ k ≤ 255) (he : x.key = .int .u8 k) : rg Tryz.prog 5 noVal x = (.int .u8 k, .nil) := by
  simp [rg, rd_ent hk he]

def datOf (P : Program) (l : List Ch) : DataW Unit := .map (((ents 0 l).map (rg P 5 noVal)).foldr DataW.insert [])
theorem owns_map {w : World} {mb : Nat} {l : List Ch} (hl : l.length ≤ 12) (hk : ∀ c ∈ l, 0 ≤ c.k ∧ c.k ≤ 255) (hnd : (l.map (·.k)).Nodup) (hb : w.heap[mb]? = some (mapObj (kvV l))) : w.ownsMap Tryz.prog 5 noVal mb l.length (datOf Tryz.prog l) := by
  refine ⟨(ents 0 l).toArray, (ents 0 l).length, by rw [hb, mapObj, ents_of], ⟨by simp [ents_len, maxLen]; omega, ⟨fun x hx => ?_, ?_, ?_⟩, fun x hx => ?_⟩, by simp [ents_len], by simp [datOf]⟩
  · have := (ents_born l 0).1 x (by simpa using hx); rw [ents_len]; omega
  · simpa using (ents_born l 0).2
  · simp only [ents_key]
    have : l.map (fun c => Value.int .u8 c.k) = (l.map (·.k)).map (Value.int .u8) := by simp
    rw [this]
    exact List.pairwise_map.2 (hnd.imp fun {a b} h e => h (by simpa using e))
  · obtain ⟨c, hc, he⟩ := ents_keys l 0 x (by simpa using hx)
    exact ⟨_, rd_ent (hk c hc) he⟩
theorem size_dat (l : List Ch) : Maps.size (datOf Tryz.prog l) = l.length := by
  simp only [datOf, Maps.size_eq]
  have := (WideShapes.sorted_perm ((ents 0 l).map (rg Tryz.prog 5 noVal))).length_eq
  rw [this, List.length_map, ents_len]
theorem has_dat {l : List Ch} (hk : ∀ c ∈ l, 0 ≤ c.k ∧ c.k ≤ 255) (x : Int) : Maps.has (datOf Tryz.prog l) (.int .u8 x) = true ↔ x ∈ l.map (·.k) := by
  simp only [datOf, Maps.has_eq, List.any_eq_true]
  constructor
  · rintro ⟨p, hp, hs⟩
    obtain ⟨e, he, rfl⟩ := List.mem_map.1 ((WideShapes.sorted_perm _).mem_iff.1 hp)
    obtain ⟨c, hc, hkc⟩ := ents_keys l 0 e he
    rw [rg_ent (hk c hc) hkc] at hs
    have : c.k = x := by simpa [Lit.sameKey] using hs
    exact List.mem_map.2 ⟨c, hc, this⟩
  · intro hx
    obtain ⟨c, hc, rfl⟩ := List.mem_map.1 hx
    obtain ⟨e, he, hke⟩ := ents_has l 0 c hc
    exact ⟨_, (WideShapes.sorted_perm _).mem_iff.2 (List.mem_map.2 ⟨e, he, rfl⟩), by rw [rg_ent (hk c hc) hke]; simp [Lit.sameKey]⟩

theorem came_perm {l : List Ch} (hk : ∀ c ∈ l, 0 ≤ c.k ∧ c.k ≤ 255) (hnd : (l.map (·.k)).Nodup) {ss : List Int} (h : Came (datOf Tryz.prog l) (fun _ => false) ss) : ss.Perm (l.map (·.k)) :=
  (List.perm_ext_iff_of_nodup h.1 hnd).2 fun x => by rw [h.2 x, has_dat hk]; simp

theorem sorted24 (l : List Ch) (hne : l ≠ []) (hl : l.length ≤ 12) (hk : ∀ c ∈ l, 0 ≤ c.k ∧ c.k ≤ 255) (hnd : (l.map (·.k)).Nodup) :
    PCall Tryz.prog 134 [.fn (.func 155) [] [.ref [.map (kvD l)]]] (.sl 1 ((sortK (l.map (·.k))).map bD)) := by
  refine ⟨⟨Tryz.f134, Tryz.func134, rfl, rfl⟩, fun K w vs hK hv => ?_⟩
  obtain ⟨fv, vs', rfl, hf, hv'⟩ := hv.cons_inv
  have : vs' = [] := List.eq_nil_of_length_eq_zero (by simpa using hv'.1.symm)
  subst this
  cases hf with
  | fn _ _ _ vf vc hlf hlc hff hcc =>
  have : vf = [] := List.eq_nil_of_length_eq_zero (by simpa using hlf.symm)
  subst this
  match vc, hlc with
  | [u], _ =>
  have hu := hcc 0 _ u rfl rfl
  cases hu with
  | ref _ b o f hkk h1 hr =>
  have hc0 := (hK _ _ _ (hkk 0 _ rfl)).cell (h1 0 _ rfl)
  have hr0 := hr 0 _ rfl
  rw [Nat.add_zero] at hc0
  generalize f 0 = u0 at hc0 hr0
  cases hr0 with
  | map _ mb mvs hkm hlm hrm =>
  have hmv := kv_rep l mvs ⟨hlm, hrm⟩
  subst hmv
  have hheap : w.heap[mb]? = some (mapObj (kvV l)) := by
    have := hK _ _ _ hkm
    simpa [Held] using this
  have hown := owns_map hl hk hnd hheap
  have hBm : b < w.heap.size := World.block_lt_of_cell? w _ hc0
  have hcol : Calls Tryz.prog 153 #[.func (.func 155) #[] #[.pointer (some ⟨b, o, none⟩)]] w _ := (callsIn_wide (n := 6)).1 (collect34 Fence.wide 6 trivial trivial trivial rfl (by omega) b o mb l.length (datOf Tryz.prog l) (by rw [size_dat]; omega) w hBm hc0 hown)
  -- what the sort does to the row
  have hsort : ∀ (ss : List Int) (g cap : Nat) (cur : Array Value) (w1 : World), ss.Perm (l.map (·.k)) → Below w.heap.size w w1 → w.heap.size ≤ g → w1.heap[g]? = some (.cells cur 5 (0, 0)) → ss.length ≤ cap → cur.toList.take (ss.length * 1) = ss.map uB →
      Calls Tryz.prog 154 #[.slice (some ⟨g, 0, none⟩) ss.length cap] w1 fun e w2 => e = .returned (.tuple #[]) ∧ ∃ K', RepD K' (.sl 1 ((sortK (l.map (·.k))).map bD)) (.slice (some ⟨g, 0, none⟩) ss.length cap) ∧ KLe K K' ∧ KSub K' w2 ∧ Below w.heap.size w w2 ∧ ∀ b' o', K' b' o' ≠ K b' o' → w.heap.size ≤ b' := by
    intro ss g cap cur w1 hperm hb1 hg hcur hcap htk
    have hssl : ss.length = l.length := by rw [hperm.length_eq, List.length_map]
    have hK1 : KSub K w1 := fun b' o' v' hk' => by
      have h0 := hK b' o' v' hk'
      exact h0.block (hb1.block b' h0.lt)
    have hsc := (sort35 ss (by omega)).2 K (fun id => if id = 5000 then some (g, 1) else none) w1 [.slice (some ⟨g, 0, none⟩) ss.length cap] hK1
      (fun id hno => if_neg fun e => hno (bPO ss) (by simp) e.symm)
      (fun q hq => by
        simp only [List.mem_singleton] at hq
        subst hq
        refine ⟨⟨g, 1, (ss.map uB).toArray, (cur.toList.drop (ss.length * 1)).toArray, if_pos rfl, ?_, ?_, ?_, fun off => ?_⟩, g, if_pos rfl⟩
        · rw [hcur]
          show some _ = some (objOf 5 _ _)
          rw [objOf_cells (ty := 5) rfl]
          congr 2
          apply Array.ext'
          rw [Array.toList_append]
          have := List.take_append_drop (ss.length * 1) cur.toList
          rw [htk] at this
          simpa using this.symm
        · have e : (bPO ss).elems.flatMap D.cells = ss.map bD := bD_flat ss
          rw [e]
          refine ⟨by simp, fun i d v hd hv => ?_⟩
          simp only [List.getElem?_map, Option.map_eq_some_iff] at hd hv
          obtain ⟨x, hx, rfl⟩ := hd
          obtain ⟨y, hy, rfl⟩ := hv
          rw [hx] at hy; cases hy
          exact .int _ _
        · intro v hv
          have hv' : v ∈ ss.map uB := by simpa using hv
          obtain ⟨x, _, rfl⟩ := List.mem_map.1 hv'
          rfl
        · cases hkg : K g off with
          | none => rfl
          | some v => have := (hK _ _ _ hkg).lt; omega)
      (fun i j b' s t hi hj => by
        by_cases h1 : i = 5000 <;> by_cases h2 : j = 5000 <;> simp_all)
      (.cons (by
        have := Rep.hrow (γ := ⟨K, fun id => if id = 5000 then some (g, 1) else none, fun _ => none⟩) (id := 5000) (sz := 1) (lo := 0) (len := ss.length) (cap := ss.length) (c := cap) (blk := g) (by show (if (5000 : Nat) = 5000 then some (g, 1) else none) = _; rw [if_pos rfl]) hcap hcap
        simpa [MA.pv] using this) .nil)
    refine hsc.mono fun e w2 ⟨v, K', he, hr, hle, hsub, hbm, hnew, hpost⟩ => ?_
    obtain ⟨rvs, rfl, hrl⟩ := RepD.tup_iff.1 hr
    have : rvs = [] := List.eq_nil_of_length_eq_zero (by simpa using hrl.1.symm)
    subst this
    obtain ⟨blk, s, cs, spare, hm, hheap2, hrep, hone, hfree⟩ := hpost _ (List.mem_singleton.2 rfl)
    have hm' : (if (5000 : Nat) = 5000 then some (g, 1) else none) = some (blk, s) := hm
    rw [if_pos rfl] at hm'
    cases hm'
    have hheap3 : w2.heap[g]? = some (.cells (cs ++ spare) 5 (0, 0)) := by rw [hheap2]; exact congrArg some (objOf_cells (ty := 5) rfl _ _)
    have hle2 : KLe K' (kadd K' g cs.toList) := kadd_le fun off v hv => by rw [hfree] at hv; cases hv
    have hbb : Below w.heap.size w w2 := hb1.trans ⟨hbm.os, hbm.tape, hbm.output, hbm.size, fun k hk => hbm.block k (by have := hb1.size; omega) fun ⟨id, s, hid⟩ => by
      have hid' : (if id = 5000 then some (g, 1) else none) = some (k, s) := hid
      split at hid'
      · cases hid'; omega
      · cases hid'⟩
    refine ⟨he, kadd K' g cs.toList, ?_, hle.trans hle2, ?_, hbb, ?_⟩
    · have hlen : (sortK (l.map (·.k))).length = ss.length := by rw [(sortK_perm _).length_eq, hperm.length_eq]
      have e1 : isort ltI ss.length ss 1 = sortK (l.map (·.k)) := sortK_of_perm hperm
      have hrep2 : RepDL (kadd K' g cs.toList) ((sortK (l.map (·.k))).map bD |>.flatMap D.cells) cs.toList := by
        have := hrep.mono hle2
        show RepDL _ (((sortK (l.map (·.k))).map bD).flatMap D.cells) _
        rw [← e1]; exact this
      have key := RepD.of_flat (K := kadd K' g cs.toList) (sz := 1) (xs := (sortK (l.map (·.k))).map bD) (b := g) (o := 0) (c := cap) (vals := cs.toList)
        (fun x hx => by obtain ⟨y, _, rfl⟩ := List.mem_map.1 hx; rfl) (by rw [List.length_map, hlen]; exact hcap)
        (fun j u hu => by simp [kadd, hu]) hrep2 hone
      rw [List.length_map, hlen] at key
      exact key
    · intro b' o' v hv
      by_cases hb' : b' = g
      · subst hb'
        simp only [kadd, if_true] at hv
        refine Held.of_cell ?_ (hone v (List.mem_of_getElem? hv))
        have hlt : o' < cs.size := by have := (List.getElem?_eq_some_iff.1 hv).1; simpa using this
        simp only [World.cell?, hheap3]
        simpa [Array.getElem?_append, hlt] using hv
      · simp only [kadd, hb', if_false] at hv
        exact hsub _ _ _ hv
    · intro b' o' hne'
      by_cases hb' : b' = g
      · subst hb'; exact hg
      · simp only [kadd, hb', if_false] at hne'
        have := hnew b' o' hne'
        have := hb1.size
        omega
  go_enter Tryz.func134, Tryz.ntmps134
  go_wp2_with (first
    | (go_at_call 153; refine hcol.mono ?_; rintro e w1 ⟨v1, ss, rfl, hC, hrow, hb1⟩
       have hperm := came_perm hk hnd hC
       have hpos : ss.length ≠ 0 := by
         have h9 := hperm.length_eq
         rw [List.length_map] at h9
         have := List.length_pos_iff.2 hne
         omega
       obtain ⟨g, cap, cur, rfl, hg, hcur, hcap, _, _, htk⟩ := hrow.2.resolve_left (fun h => hpos h.2)
       go_frame)
    | (go_at_call 154; refine (hsort ss _ _ _ _ hperm hb1 hg hcur hcap htk).mono ?_; rintro e w2 ⟨rfl, hfin⟩))
  go_ret
  obtain ⟨K', f1, f2, f3, f4, f5⟩ := hfin
  exact ⟨_, K', rfl, f1, f2, f3, f4, f5⟩
end Go.Proofs.YtojgjdcciojpeaaGreat

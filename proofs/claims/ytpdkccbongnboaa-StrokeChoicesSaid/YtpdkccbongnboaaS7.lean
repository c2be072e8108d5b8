/-
  What slices.Collect gives at the iterator over a map's keys (bytes): each key once, in some order.
-/
import Derived.Test.YtpdkccbongnboaaTab
import Derived.Shelf.SlIterI.Collect
set_option linter.unusedSimpArgs false
set_option linter.unusedVariables false
namespace Go.Proofs.Ytpdkccbongnboaa
open Go Go.RowKit Go.Maps Go.Sort Go.Shelf Go.Proofs

abbrev uB : Int → Value := Value.int .u8

/-- The two parts of a loop over an iterator: what a round takes over, what it does. -/
def loopParts (f : Func) : Code × Code := match f.body with
  | some (.seq _ (.seq (.seq _ (.block _ (.rangeFunc _ _ a b))) _)) => (a, b)
  | _ => (.skip, .skip)
def loopRec (f : Func) (fn : FuncId) (sv : Value) (Bs D : Nat) (st : LoopState) : Loop :=
  { state := st, pending := none, fn, tmps := #[.slice none 0 0, sv, .pointer (some ⟨Bs, 0, none⟩), undef, .slice none 0 0, undef, sv, undef, undef, undef, undef, undef, undef], params := #[7], assign := (loopParts f).1, body := (loopParts f).2, defers := D }

/-- Between two rounds: what has come so far lies in a row of the call's own. -/
structure Got (w0 : World) (fn : FuncId) (sv : Value) (Bs l D : Nat) (ss : List Int) (W : World) : Prop where
  box : ∃ v, W.heap[Bs]? = some (.cells #[v] 52 (0, 0)) ∧ W.ownsRow w0.heap.size 5 1 v ss.length (ss.map uB)
  rcd : W.heap[l]? = some (.loop (loopRec Try.f42 fn sv Bs D .ready))
  dfr : W.heap[D]? = some (.deferred (some []))
  below : Below w0.heap.size w0 W

theorem Got.abides {w0 : World} {fn : FuncId} {sv : Value} {Bs l D B : Nat} (hB : w0.heap.size ≤ B) {ss : List Int} {W W' : World} {row : Option Nat} (h : Got w0 fn sv Bs l D ss W) (hg : W.grownBy W' row)
    (hrow : ∀ r, row = some r → B ≤ r ∧ ∃ o : Obj, W.heap[r]? = some o ∧ o.isWalk = true) : Got w0 fn sv Bs l D ss W' := by
  have hr : ∀ r, row = some r → ∃ o : Obj, W.heap[r]? = some o ∧ o.isWalk = true := fun r e => (hrow r e).2
  obtain ⟨v, hv, ho⟩ := h.box
  exact ⟨⟨v, (grownBy_keeps hg hr hv rfl).trans hv, ownsRow_abides_a ho hg hr⟩, (grownBy_keeps hg hr h.rcd rfl).trans h.rcd, (grownBy_keeps hg hr h.dfr rfl).trans h.dfr,
    h.below.grown hg h.below.size (fun k e => Nat.le_trans hB (hrow k e).1)⟩

theorem cells_not5 {cur cur' : Array Value} {f : Nat × Nat} : Obj.cells cur' 52 f ≠ Obj.cells cur 5 (0, 0) := fun e => by
  have := (Obj.cells.inj e).2.1
  cases this

set_option maxRecDepth 100000 in
set_option maxHeartbeats 2000000 in
/-- A round: one more key. -/
theorem round42 (F : Fence) (m : Nat) (w0 : World) (fn : FuncId) (hfn : F.fn fn) (sv : Value) (Bs l D : Nat) (hBl : Bs ≠ l) (hDl : D ≠ l) (hDB : D ≠ Bs) (h0B : w0.heap.size ≤ Bs) (h0l : w0.heap.size ≤ l)
    (ss : List Int) (x : Int) (W : World) (h : Got w0 fn sv Bs l D ss W) (hlen : ss.length < 1000) :
    YieldAt F m Try.prog l #[uB x] W fun e W' => e = .returned (.bool true) ∧ Got w0 fn sv Bs l D (ss ++ [x]) W' ∧ KeepsWalks W W' := by
  have hi5 : (Try.prog.info? 5).map (fun i => (i.zero, i.size, i.bytes)) = some (some (.int .u8 0), 1, 1) := by kernel_rfl
  obtain ⟨i0, hi, hz0, hz1, hz2⟩ := info_parts hi5
  obtain ⟨v, hv, hrow⟩ := h.box
  refine ⟨fn, #[.slice none 0 0, sv, .pointer (some ⟨Bs, 0, none⟩), undef, .slice none 0 0, undef, sv, uB x, undef, undef, undef, undef, undef], (loopParts Try.f42).1, (loopParts Try.f42).2, by simpa [loopRec] using run_yield (P := Try.prog) (args := #[uB x]) h.rcd rfl, roundIn_of_wpIn hfn ?_⟩
  have hl : l < W.heap.size := (Array.getElem?_eq_some_iff.1 h.rcd).1
  have hbr := run_beginRound (P := Try.prog) h.rcd rfl
  generalize hW2 : W.putObj l (.loop { loopRec Try.f42 fn sv Bs D .ready with state := .busy }) = W2 at hbr
  have hg2 : W.grownBy W2 (some l) := by rw [← hW2]; exact grownBy_putObj_a _ _ _
  have hk2 : KeepsWalks W W2 := by rw [← hW2]; exact KeepsWalks.putObj _ h.rcd rfl
  have hv2 : W2.heap[Bs]? = some (.cells #[v] 52 (0, 0)) := by rw [← hW2]; exact (World.putObj_heap_other hBl).trans hv
  have hK2 : W2.heap[D]? = some (.deferred (some [])) := by rw [← hW2]; exact (World.putObj_heap_other hDl).trans h.dfr
  have hL2 : W2.heap[l]? = some (.loop { loopRec Try.f42 fn sv Bs D .ready with state := .busy }) := by rw [← hW2]; exact World.putObj_heap_same hl
  have hrow2 : W2.ownsRow w0.heap.size 5 1 v ss.length (ss.map uB) := hrow.kept hg2 (ownsRow_ne_a hrow h.rcd (fun cur e => by cases e))
  have hb2 : Below w0.heap.size w0 W2 := h.below.grown hg2 h.below.size (fun k e => by cases e; exact h0l)
  obtain ⟨hc2, hf2⟩ := cell_of_box_a hv2
  have hBlt : Bs < W2.heap.size := (Array.getElem?_eq_some_iff.1 hv2).1
  have hl2 : l < W2.heap.size := (Array.getElem?_eq_some_iff.1 hL2).1
  have hDlt : D < W2.heap.size := (Array.getElem?_eq_some_iff.1 hK2).1
  have apart : ∀ {j : Nat} {o : Obj}, W2.heap[j]? = some o → (∀ cur, o ≠ .cells cur 5 (0, 0)) → some j ≠ v.ownBlock := fun hj hno => by
    rcases ownsRow_ne_a hrow2 hj hno with e | e
    · rw [e]; simp
    · exact fun e' => e e'.symm
  clear hW2
  generalize hB : (loopParts Try.f42).2 = bd
  simp only [loopParts, Try.f42]
  gi_wp2_with gi_round_op_a
  subst hB
  simp only [loopParts, Try.f42]
  gi_wp2_with (first
    | (gi_at_builtin; refine wpListIn_append_own _ rfl _ _ 52 rfl w0.heap.size 5 i0 (.int .u8 0) 1 1 Try.underlying52 hi hz0 hz1 hz2 rfl (by decide) _ _ _ rfl (hrow2.alloc _) ⟨W2.heap.size, 0, none⟩ 1 1 [uB x] rfl rfl (cell_one_new _ _ _) (by simp [Value.oneCell', uB]) (by simp only [maxLen]; omega) (by omega) (by have := hb2.size; simp; omega) ?_; intro v' w3 hown' hg3 hnil3
       have hv3 : w3.heap[Bs]? = some (.cells #[v] 52 (0, 0)) := (hg3.block Bs (by simp; omega) (apart hv2 (fun cur => cells_not5))).trans ((Below.heap_alloc _ _ Bs hBlt).trans hv2)
       obtain ⟨hc3, hf3⟩ := cell_of_box_a hv3
       obtain ⟨g', cap', cur', rfl, hrest⟩ := hown'.2.resolve_left (fun h0 => Nat.succ_ne_zero _ h0.2)
       go_frame)
    | gi_round_op_a)
  have hg3' : (W2.alloc (.cells #[uB x] 5)).grownBy w3 v.ownBlock := hg3
  have hL3 : w3.heap[l]? = some (.loop { loopRec Try.f42 fn sv Bs D .ready with state := .busy }) := (hg3'.block l (by simp; omega) (apart hL2 (fun cur e => by cases e))).trans ((Below.heap_alloc _ _ l hl2).trans hL2)
  have hK3 : w3.heap[D]? = some (.deferred (some [])) := (hg3'.block D (by simp; omega) (apart hK2 (fun cur e => by cases e))).trans ((Below.heap_alloc _ _ D hDlt).trans hK2)
  generalize hw4 : w3.setCell ⟨Bs, 0, none⟩ (.slice (some ⟨g', 0, none⟩) (ss.length + 1) cap') = w4
  have hg4 : w3.grownBy w4 (some Bs) := by rw [← hw4]; exact grownBy_setCell0_a _ _ _
  have hv4 : w4.heap[Bs]? = some (.cells #[.slice (some ⟨g', 0, none⟩) (ss.length + 1) cap'] 52 (0, 0)) := by rw [← hw4]; exact heap_setCell_box_a _ hv3
  have hL4 : w4.heap[l]? = some (.loop { loopRec Try.f42 fn sv Bs D .ready with state := .busy }) := (hg4.block l (Array.getElem?_eq_some_iff.1 hL3).1 (fun e => hBl (by cases e; rfl))).trans hL3
  have hK4 : w4.heap[D]? = some (.deferred (some [])) := (hg4.block D (Array.getElem?_eq_some_iff.1 hK3).1 (fun e => hDB (by cases e; rfl))).trans hK3
  have hrow4 := hown'.kept hg4 (ownsRow_ne_a hown' hv3 (fun cur => cells_not5))
  have hl4 : l < w4.heap.size := (Array.getElem?_eq_some_iff.1 hL4).1
  have hb3 : Below w0.heap.size w0 w3 := (hb2.alloc hb2.size _).grown hg3' (by have := hb2.size; simp; omega) (fun k e => (hrow2.lt k e).1)
  have hb4 : Below w0.heap.size w0 w4 := hb3.grown hg4 hb3.size (fun k e => by cases e; exact h0B)
  have hk4 : KeepsWalks W w4 := ((hk2.trans (KeepsWalks.alloc _ _)).trans (KeepsWalks.of_grownBy hg3' (ownsRow_not_walk_a (hrow2.alloc _)))).trans (by rw [← hw4]; exact KeepsWalks.setCell _ _ _)
  clear hw4
  refine ⟨_, _, run_endRound none hL4, rfl, ⟨⟨_, (World.putObj_heap_other hBl).trans hv4, ?_⟩, World.putObj_heap_same hl4, (World.putObj_heap_other hDl).trans hK4, hb4.grown (grownBy_putObj_a _ _ _) hb4.size (fun k e => by cases e; exact h0l)⟩, hk4.trans (KeepsWalks.putObj _ hL4 rfl)⟩
  have := hrow4.kept (grownBy_putObj_a w4 l (.loop { { loopRec Try.f42 fn sv Bs D .ready with state := .busy } with state := if (none : Option Code).isNone then .ready else .done, pending := none })) (ownsRow_ne_a hrow4 hL4 (fun cur e => by cases e))
  simpa using this
end Go.Proofs.Ytpdkccbongnboaa

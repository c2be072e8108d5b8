/-
  Every operation of the pure layer stands for the model's own: values.
-/
import Derived.Test.YtojgjdcciojpeaaPure4
namespace Go.PS
open Go Go.RowKit

section inv
variable {γ : Gh} {v : Value}
theorem rep_int {k n} (h : Rep γ (.d (.int k n)) v) : v = .int k n := by cases h with | d h => cases h; rfl
theorem rep_bool {b} (h : Rep γ (.d (.bool b)) v) : v = .bool b := by cases h with | d h => cases h; rfl
theorem rep_str {l} (h : Rep γ (.d (.str l)) v) : v = .string ⟨l.toArray⟩ := by cases h with | d h => cases h; rfl
theorem rep_hp {id i off} (h : Rep γ (.hp id i off) v) : ∃ blk sz, γ.m id = some (blk, sz) ∧ v = .pointer (some ⟨blk, i * sz + off, none⟩) := by
  cases h with | hp h => exact ⟨_, _, h, rfl⟩
theorem rep_ref {cs} (h : Rep γ (.d (.ref cs)) v) : ∃ (b o : Nat) (f : Nat → Value), v = .pointer (some ⟨b, o, none⟩) ∧ (∀ (j : Nat) (d : D), cs[j]? = some d → γ.K b (o + j) = some (f j)) ∧
    (∀ (j : Nat) (d : D), cs[j]? = some d → (f j).oneCell' = true) ∧ (∀ (j : Nat) (d : D), cs[j]? = some d → RepD γ.K d (f j)) := by
  cases h with | d h => cases h with | ref _ b o f h1 h2 h3 => exact ⟨b, o, f, rfl, h1, h2, h3⟩
end inv

theorem asSl_rep {γ : Gh} {x : PV} {v : Value} {sz : Nat} {xs : List D} (h : Rep γ x v) (hx : asSl x = some (sz, xs)) : RepD γ.K (.sl sz xs) v := by
  unfold asSl at hx
  split at hx
  · cases hx; cases h with | d h => exact h
  · cases hx; cases h with | own h _ => exact h
  · cases hx

def ValOk (P : Program) (γ : Gh) (w : World) (s : Sem Value) (v : PV) : Prop := ∃ u, s.run P w = .ok u w ∧ Rep γ v u

theorem wrap_id {k : IntKind} {n : Int} (h : inR k n = true) : k.wrap n = n := by
  simp only [inR, Bool.and_eq_true, decide_eq_true_eq] at h
  cases k <;> simp [IntKind.wrap, IntKind.min, IntKind.max, IntKind.signed, IntKind.bits] at h ⊢ <;> (first | omega | (split <;> omega))

theorem ba_toList (l : List UInt8) : (ByteArray.mk l.toArray).toList = l := by
  have : ∀ b : ByteArray, b.toList = b.data.toList := by
    intro b
    have key : ∀ (n i : Nat) (r : List UInt8), b.size - i = n → ByteArray.toList.loop b i r = r.reverse ++ b.data.toList.drop i := by
      intro n
      induction n with
      | zero =>
        intro i r hn
        unfold ByteArray.toList.loop
        have hs : b.size = b.data.size := rfl
        rw [if_neg (by omega), List.drop_of_length_le (by rw [Array.length_toList]; omega)]
        simp
      | succ n ih =>
        intro i r hn
        unfold ByteArray.toList.loop
        have hs : b.size = b.data.size := rfl
        have hi : i < b.data.toList.length := by rw [Array.length_toList]; omega
        rw [if_pos (by omega), ih (i + 1) _ (by omega), List.drop_eq_getElem_cons hi]
        have hg : b.get! i = b.data.toList[i] := by
          show b.data[i]! = _
          simp [getElem!_pos b.data i (by simpa using hi)]
        simp [hg]
    have := key b.size 0 [] (by omega)
    simpa [ByteArray.toList] using this
  simpa using this ⟨l.toArray⟩

variable {P : Program} {T : Nat → Option TI}

theorem evalInt_sound {op : BinOp} {k : IntKind} {a b : Int} {d : D} {γ : Gh} (w : World) {xt : TypeId} (h : evalInt op k a b = some (true, d)) : ValOk P γ w (binOp op xt (.int k a) (.int k b)) (.d d) := by
  have hb1 : (a == b) = decide (a = b) := by rw [Bool.eq_iff_iff]; simp
  have hb2 : (a != b) = !decide (a = b) := by rw [Bool.eq_iff_iff]; simp
  cases op <;> simp only [evalInt, Option.some.injEq, Prod.mk.injEq, reduceCtorEq] at h
  case add =>
    obtain ⟨h1, rfl⟩ := h
    exact ⟨.int k _, by simp only [binOp, Op.intArith, ne_eq, not_true_eq_false, if_false, wrap_id h1, Sem.run_pure], .d (.int _ _)⟩
  case sub =>
    obtain ⟨h1, rfl⟩ := h
    exact ⟨.int k _, by simp only [binOp, Op.intArith, ne_eq, not_true_eq_false, if_false, wrap_id h1, Sem.run_pure], .d (.int _ _)⟩
  case mul =>
    obtain ⟨h1, rfl⟩ := h
    exact ⟨.int k _, by simp only [binOp, Op.intArith, ne_eq, not_true_eq_false, if_false, wrap_id h1, Sem.run_pure], .d (.int _ _)⟩
  case quo =>
    obtain ⟨h1, rfl⟩ := h
    simp only [Bool.and_eq_true, decide_eq_true_eq] at h1
    obtain ⟨⟨h0, hm⟩, hb⟩ := h1
    have hkm : k.min ≤ 0 := by cases k <;> simp [IntKind.min, IntKind.signed, IntKind.bits]
    have hkx : 0 ≤ k.max := by cases k <;> simp [IntKind.max, IntKind.signed, IntKind.bits]
    have e : a.tdiv b = divT a b := by
      unfold divT
      split
      · rename_i h; exact Int.tdiv_eq_ediv_of_nonneg h
      · rename_i h
        have h2 : a = -(-a) := by omega
        rw [h2, Int.neg_tdiv, Int.tdiv_eq_ediv_of_nonneg (by omega), ← h2]
    have hw : inR k (divT a b) = true := by
      simp only [inR, Bool.and_eq_true, decide_eq_true_eq]
      unfold divT
      split
      · rename_i h
        have hq0 : 0 ≤ a / b := Int.ediv_nonneg h (by omega)
        have hq1 : a / b ≤ a := Int.ediv_le_self b h
        omega
      · rename_i h
        have hq0 : 0 ≤ -a / b := Int.ediv_nonneg (by omega) (by omega)
        have hq1 : -a / b ≤ -a := Int.ediv_le_self b (by omega)
        omega
    exact ⟨.int k (divT a b), by simp only [binOp, Op.intDiv, ne_eq, not_true_eq_false, if_false, show b ≠ 0 by omega, e, wrap_id hw, Sem.run_pure], .d (.int _ _)⟩
  case rem =>
    obtain ⟨h1, rfl⟩ := h
    simp only [Bool.and_eq_true, decide_eq_true_eq] at h1
    have e : a.tmod b = a % b := Int.tmod_eq_emod_of_nonneg h1.1
    exact ⟨.int k (a % b), by simp only [binOp, Op.intDiv, ne_eq, not_true_eq_false, if_false, show b ≠ 0 by omega, e, Sem.run_pure], .d (.int _ _)⟩
  all_goals
    obtain ⟨_, rfl⟩ := h
    exact ⟨.bool _, by simp only [binOp, Op.intCmp, ne_eq, not_true_eq_false, if_false, Sem.run_pure, hb1, hb2]; try rfl, .d (.bool _)⟩

theorem evalStr_sound {op : BinOp} {a b : List UInt8} {d : D} {γ : Gh} (w : World) {xt : TypeId} (h : evalStr op a b = some (true, d)) : ValOk P γ w (binOp op xt (.string ⟨a.toArray⟩) (.string ⟨b.toArray⟩)) (.d d) := by
  have hbeq : (a == b) = decide (a = b) := by rw [Bool.eq_iff_iff]; simp
  cases op <;> simp only [evalStr, Option.some.injEq, Prod.mk.injEq, reduceCtorEq] at h
  case add =>
    obtain ⟨h1, rfl⟩ := h
    have h1' : ((a.length + b.length : Nat) : Int) ≤ IntKind.i64.max := by simpa using h1
    have hs : ¬ ((((ByteArray.mk a.toArray).size + (ByteArray.mk b.toArray).size : Nat) : Int) > IntKind.i64.max) := by
      have e1 : (ByteArray.mk a.toArray).size = a.length := by simp [ByteArray.size]
      have e2 : (ByteArray.mk b.toArray).size = b.length := by simp [ByteArray.size]
      rw [e1, e2]; omega
    refine ⟨.string (⟨a.toArray⟩ ++ ⟨b.toArray⟩), ?_, ?_⟩
    · simp only [binOp, Op.stringOp, hs, if_false, Sem.run_pure]
    · have e : (ByteArray.mk a.toArray) ++ (ByteArray.mk b.toArray) = ByteArray.mk (a ++ b).toArray := by
        apply ByteArray.ext
        simp
      rw [e]
      exact .d (.str _)
  all_goals
    obtain ⟨_, rfl⟩ := h
    exact ⟨.bool _, by simp only [binOp, Op.stringOp, ba_toList, hbeq, Sem.run_pure]; try rfl, .d (.bool _)⟩

theorem run_isAgg {t : TypeId} {d : TypeDesc} (h : P.underlying t = some d) (w : World) : (isAgg t).run P w = .ok (TK.of d).agg w := by
  simp only [isAgg, Sem.run_bind, run_underlying h, Result.andThen_ok]
  cases d <;> rfl

theorem run_sizeOf {t : TypeId} {i : TypeInfo} (h : P.info? t = some i) (w : World) : (sizeOf t).run P w = .ok i.size w := by
  simp [sizeOf, typeInfo, h]

theorem run_zeroValue {t : TypeId} {i : TypeInfo} {z : Value} (h : P.info? t = some i) (hz : i.zero = some z) (w : World) : (zeroValue t).run P w = .ok z w := by
  simp [zeroValue, typeInfo, h, hz]

/-- A part of a struct, read out of its cells. -/
theorem part_sound (hT : TabOk P T) {γ : Gh} (w : World) {t : TypeId} {ti : TI} (ht : T t = some ti) {cs : List PV} {vs : List Value} (hr : RepL γ cs vs) (h1 : ∀ u ∈ vs, u.oneCell' = true) {off : Nat}
    (hle : off + (bif ti.k.agg then ti.size else 1) ≤ cs.length) : ValOk P γ w (part t vs.toArray off) (bif ti.k.agg then .agg ((cs.drop off).take ti.size) else cs.getD off .any) := by
  obtain ⟨i, d, hi, hd, hz, hs, hb, hk, _⟩ := hT.facts ht
  unfold part ValOk
  simp only [Sem.run_bind, run_isAgg hd, Result.andThen_ok, hk]
  cases ha : ti.k.agg with
  | true =>
    simp only [if_true, Sem.run_bind, run_sizeOf hi, Result.andThen_ok, Sem.run_pure, hs, cond_true]
    rw [ha] at hle
    simp only [cond_true] at hle
    refine ⟨_, rfl, Rep.agg_iff.2 ⟨(vs.drop off).take ti.size, ?_, ⟨?_, ?_⟩, fun u hu => h1 u (List.mem_of_mem_drop (List.mem_of_mem_take hu))⟩⟩
    · congr 1
      apply Array.ext'
      simp
    · simp [hr.1]
    · intro i c v hc hv
      simp only [List.getElem?_take, List.getElem?_drop] at hc hv
      split at hc
      · rename_i h; rw [if_pos h] at hv; exact hr.2 _ c v hc hv
      · cases hc
  | false =>
    rw [ha] at hle
    simp only [cond_false] at hle
    have hc : off < cs.length := by omega
    have hv : off < vs.length := by rw [← hr.1]; exact hc
    simp only [Bool.false_eq_true, if_false, List.getElem?_toArray, List.getElem?_eq_getElem hv, Sem.run_pure, cond_false]
    refine ⟨_, rfl, ?_⟩
    simp only [List.getD, List.getElem?_eq_getElem hc, Option.getD_some]
    exact hr.2 off _ _ (List.getElem?_eq_getElem hc) (List.getElem?_eq_getElem hv)

theorem evalField_sound (hT : TabOk P T) {γ : Gh} (w : World) {s : TypeId} {x : PV} {xv : Value} {f : Nat} {v : PV} (hx : Rep γ x xv) (h : evalField T s x f = some (true, v)) : ValOk P γ w (Instr.field s xv f) v := by
  unfold evalField at h
  split at h
  · rename_i fs z e cs hs
    split at h
    · rename_i off t hf
      split at h
      · rename_i ti ht
        simp only [Option.some.injEq, Prod.mk.injEq] at h
        obtain ⟨hle, rfl⟩ := h
        obtain ⟨vs, rfl, hr, h1⟩ := Rep.agg_iff.1 hx
        obtain ⟨i, d, hi, hd, hz, hsz, hb, hk, _⟩ := hT.facts hs
        cases d <;> simp only [TK.of, reduceCtorEq, TK.struct.injEq] at hk
        rename_i fields
        rw [← hk] at hf
        simp only [List.getElem?_map, Option.map_eq_some_iff, Prod.mk.injEq] at hf
        obtain ⟨fd, hfd, rfl, rfl⟩ := hf
        have hle' := Nat.le_of_ble_eq_true hle
        obtain ⟨u, hu, hur⟩ := part_sound hT w ht hr h1 hle'
        refine ⟨u, ?_, hur⟩
        have hfd' : fields[f]? = some fd := by simpa using hfd
        simp [Instr.field, run_underlying hd, hfd', asAgg, hu]
      · cases h
    · cases h
  · cases h

end Go.PS

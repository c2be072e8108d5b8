/-
  The arguments of this seat's laws, as plain data.
-/
import Derived.Test.YtpdkccbongnboaaPure22
import Derived.Test.YtpdkccbongnboaaS6
import Derived.Test.YtpdkccbongnboaaS4
import Derived.Test.YtpdkccbongnboaaRows
set_option linter.unusedSimpArgs false
set_option linter.unusedVariables false
namespace Go.Proofs.Ytpdkccbongnboaa
open Go Go.PS Go.ChangeShapes Go.WideShapes Go.ChangeAt Go.RowKit
set_option maxRecDepth 100000

theorem knob : ownKnob Try.prog.godebug = Option.none := by kernel_rfl
theorem laidOut : laidOutB Try.prog = true := by kernel_rfl
theorem ccells48 : Try.prog.cellsOf 48 = 2 := by kernel_rfl
theorem ccells46 : Try.prog.cellsOf 46 = 2 := by kernel_rfl
theorem ccells59 : Try.prog.cellsOf 59 = 2 := by kernel_rfl
theorem ccells5 : Try.prog.cellsOf 5 = 1 := by kernel_rfl
theorem plain22 : plainB Try.prog 9 22 = true := by kernel_rfl
theorem plain23 : plainB Try.prog 9 23 = true := by kernel_rfl
theorem plain24 : plainB Try.prog 9 24 = true := by kernel_rfl
theorem plain26 : plainB Try.prog 9 26 = true := by kernel_rfl
theorem plain48 : plainB Try.prog 9 48 = true := by kernel_rfl
theorem plain52 : plainB Try.prog 9 52 = true := by kernel_rfl
theorem plain59 : plainB Try.prog 9 59 = true := by kernel_rfl

theorem bp_of0 {zs : List D} (h : Fits Try.prog [48] zs) : ∃ r : BP, zs = [.int .u8 r.1, .int .u8 r.2] ∧ (0 ≤ r.1 ∧ r.1 ≤ 255 ∧ 0 ≤ r.2 ∧ r.2 ≤ 255) := by
  obtain ⟨ys, xs, rfl, hy, hx⟩ := h.arr_inv Try.underlying48
  cases hx.nil_inv
  have hy1 : Fits Try.prog [5, 5] ys := hy
  obtain ⟨a, ys1, rfl, ha, hy2⟩ := hy1.int_inv Try.underlying5
  obtain ⟨b, ys2, rfl, hb, hy3⟩ := hy2.int_inv Try.underlying5
  cases hy3.nil_inv
  have h1 := u8_bd' ha
  have h2 := u8_bd' hb
  exact ⟨(a, b), rfl, h1.1, h1.2, h2.1, h2.2⟩
theorem bp_of (zs : List D) (h : Fits Try.prog [48] zs) : ∃ r : BP, asElem Try.prog 48 zs = bpD r ∧ (0 ≤ r.1 ∧ r.1 ≤ 255 ∧ 0 ≤ r.2 ∧ r.2 ≤ 255) := by
  obtain ⟨r, rfl, h1⟩ := bp_of0 h
  exact ⟨r, by simp only [asElem, Try.underlying48, bpD], h1⟩
theorem bps_of {ts : List TypeId} {xs : List D} (h : Fits Try.prog (23 :: ts) xs) : ∃ (l : List BP) (xs' : List D), xs = .sl 2 (l.map bpD) :: xs' ∧ bpOk l ∧ l.length ≤ 9223372036854775807 ∧ Fits Try.prog ts xs' :=
  h.list_inv bpD _ Try.underlying23 ccells48 bp_of
theorem raw_of0 {zs : List D} (h : Fits Try.prog [59] zs) : ∃ r : Raw, zs = [.int .u8 r.key, .sl 2 (r.p.map bpD)] ∧ (0 ≤ r.key ∧ r.key ≤ 255 ∧ bpOk r.p ∧ r.p.length ≤ 9223372036854775807) := by
  obtain ⟨ys, xs, rfl, hy, hx⟩ := h.strct_inv Try.underlying59
  cases hx.nil_inv
  have hy1 : Fits Try.prog [5, 23] ys := hy
  obtain ⟨a, ys1, rfl, ha, hy2⟩ := hy1.int_inv Try.underlying5
  obtain ⟨l, ys2, rfl, hl, hll, hy3⟩ := bps_of hy2
  cases hy3.nil_inv
  have h1 := u8_bd' ha
  exact ⟨⟨a, l⟩, rfl, h1.1, h1.2, hl, hll⟩
theorem raw_of (zs : List D) (h : Fits Try.prog [59] zs) : ∃ r : Raw, asElem Try.prog 59 zs = r.d ∧ (0 ≤ r.key ∧ r.key ≤ 255 ∧ bpOk r.p ∧ r.p.length ≤ 9223372036854775807) := by
  obtain ⟨r, rfl, h1⟩ := raw_of0 h
  exact ⟨r, by simp only [asElem, Try.underlying59, Raw.d], h1⟩
theorem u8_of (zs : List D) (h : Fits Try.prog [5] zs) : ∃ r : Int, asElem Try.prog 5 zs = .int .u8 r ∧ (0 ≤ r ∧ r ≤ 255) := by
  obtain ⟨a, ys, rfl, ha, hy⟩ := h.int_inv Try.underlying5
  cases hy.nil_inv
  exact ⟨a, by simp only [asElem, Try.underlying5]; rfl, u8_bd' ha⟩
theorem pt_of (zs : List D) (h : Fits Try.prog [46] zs) : ∃ r : Pt, asElem Try.prog 46 zs = r.d ∧ ((-9223372036854775808 ≤ r.x ∧ r.x ≤ 9223372036854775807) ∧ -9223372036854775808 ≤ r.y ∧ r.y ≤ 9223372036854775807) := by
  obtain ⟨ys, xs, rfl, hy, hx⟩ := h.strct_inv Try.underlying46
  cases hx.nil_inv
  have hy1 : Fits Try.prog [3, 3] ys := hy
  obtain ⟨a, ys1, rfl, ha, hy2⟩ := hy1.int_inv Try.underlying3
  obtain ⟨b, ys2, rfl, hb, hy3⟩ := hy2.int_inv Try.underlying3
  cases hy3.nil_inv
  exact ⟨⟨a, b⟩, by simp only [asElem, Try.underlying46, Pt.d, List.append_nil], i64_bd' ha, i64_bd' hb⟩

variable {H : Type} {enc : TypeId × Value → H} {W : World} {base : Nat} {v : Value} {d : DataW H} {p : List MemPlace} {sp : Nat → Bool}
theorem arg_bps (hok : Value.okWide Try.prog W .any base 23 v) (h : DataW.Trod enc Try.prog W 0 sp true 23 v d p) :
    ∃ l : List BP, (bpOk l ∧ l.length ≤ 9223372036854775807) ∧ RepD (KAll W) (.sl 2 (l.map bpD)) v :=
  arg_slice bpD _ 9 plain23 Try.underlying23 ccells48 bp_of hok h
theorem arg_raws (hok : Value.okWide Try.prog W .any base 22 v) (h : DataW.Trod enc Try.prog W 0 sp true 22 v d p) :
    ∃ l : List Raw, (rawOk l ∧ l.length ≤ 9223372036854775807) ∧ RepD (KAll W) (.sl 2 (l.map Raw.d)) v :=
  arg_slice Raw.d _ 9 plain22 Try.underlying22 ccells59 raw_of hok h
theorem arg_u8s (hok : Value.okWide Try.prog W .any base 52 v) (h : DataW.Trod enc Try.prog W 0 sp true 52 v d p) :
    ∃ l : List Int, ((∀ r ∈ l, 0 ≤ r ∧ r ≤ 255) ∧ l.length ≤ 9223372036854775807) ∧ RepD (KAll W) (.sl 1 (l.map (D.int .u8))) v :=
  arg_slice (D.int .u8) _ 9 plain52 Try.underlying52 ccells5 u8_of hok h
theorem arg_pts (hok : Value.okWide Try.prog W .any base 26 v) (h : DataW.Trod enc Try.prog W 0 sp true 26 v d p) :
    ∃ l : List Pt, ((∀ r ∈ l, (-9223372036854775808 ≤ r.x ∧ r.x ≤ 9223372036854775807) ∧ -9223372036854775808 ≤ r.y ∧ r.y ≤ 9223372036854775807) ∧ l.length ≤ 9223372036854775807) ∧ RepD (KAll W) (.sl 2 (l.map Pt.d)) v :=
  arg_slice Pt.d _ 9 plain26 Try.underlying26 ccells46 pt_of hok h
theorem arg_raw (hok : Value.okWide Try.prog W .any base 59 v) (h : DataW.Trod enc Try.prog W 0 sp true 59 v d p) :
    ∃ r : Raw, (0 ≤ r.key ∧ r.key ≤ 255 ∧ bpOk r.p ∧ r.p.length ≤ 9223372036854775807) ∧ RepD (KAll W) r.d v := by
  obtain ⟨cs, rfl, _⟩ := okWide_struct Try.underlying59 hok
  obtain ⟨xs, hf, hr, hc⟩ := met_of_trod 9 plain59 h
  obtain ⟨r, rfl, h1⟩ := raw_of0 hf
  exact ⟨r, h1, rep_agg hc hr⟩
theorem arg_b2 (hok : Value.okWide Try.prog W .any base 48 v) (h : DataW.Trod enc Try.prog W 0 sp true 48 v d p) :
    ∃ r : BP, (0 ≤ r.1 ∧ r.1 ≤ 255 ∧ 0 ≤ r.2 ∧ r.2 ≤ 255) ∧ RepD (KAll W) (bpD r) v := by
  obtain ⟨cs, rfl⟩ := okWide_array Try.underlying48 hok
  obtain ⟨xs, hf, hr, hc⟩ := met_of_trod 9 plain48 h
  obtain ⟨r, rfl, h1⟩ := bp_of0 hf
  exact ⟨r, h1, rep_agg hc hr⟩
def w2D (w0 w1 : List BP) : D := .agg [.sl 2 (w0.map bpD), .sl 2 (w1.map bpD)]
theorem arg_w2 (hok : Value.okWide Try.prog W .any base 24 v) (h : DataW.Trod enc Try.prog W 0 sp true 24 v d p) :
    ∃ r : List BP × List BP, (bpOk r.1 ∧ r.1.length ≤ 9223372036854775807 ∧ bpOk r.2 ∧ r.2.length ≤ 9223372036854775807) ∧ RepD (KAll W) (w2D r.1 r.2) v := by
  obtain ⟨cs, rfl⟩ := okWide_array Try.underlying24 hok
  obtain ⟨xs, hf, hr, hc⟩ := met_of_trod 9 plain24 h
  obtain ⟨ys, xs, rfl, hy, hx⟩ := hf.arr_inv Try.underlying24
  cases hx.nil_inv
  rw [List.append_nil] at hr hc
  have hy1 : Fits Try.prog [23, 23] ys := hy
  obtain ⟨a, ys1, rfl, ha, hal, hy2⟩ := bps_of hy1
  obtain ⟨b, ys2, rfl, hb, hbl, hy3⟩ := bps_of hy2
  cases hy3.nil_inv
  exact ⟨(a, b), ⟨ha, hal, hb, hbl⟩, rep_agg hc hr⟩
theorem arg_u8 {v : Value} (hok : Value.okWide Try.prog W .any base 5 v) (h : DataW.Trod enc Try.prog W 0 sp true 5 v d p) :
    ∃ n : Int, v = .int .u8 n ∧ (0 ≤ n ∧ n ≤ 255) ∧ RepD (KAll W) (.int .u8 n) v := by
  obtain ⟨a, rfl, h2, h3, w⟩ := open_int Try.underlying5 hok h
  exact ⟨a, rfl, u8_bd' w, .int _ _⟩

end Go.Proofs.Ytpdkccbongnboaa

/-
  A part of the walks of this seat: each theorem says what a function of the program gives. No condition beyond its own premises.
-/
import Derived.Test.YtobdkpadpdideaaC9
import Derived.Test.YtobdkpadpdideaaPure19
import Derived.Test.YtobdkpadpdideaaRows
import Derived.WalkKit
import Derived.ProofKit
import Derived.OpenShut
import Derived.ShutString
import Derived.ChangeOld
import Derived.Below
import Derived.Carry
set_option linter.unusedSimpArgs false
set_option linter.unusedVariables false
namespace Go.Proofs.Ytobdkpadpdideaa
open Go Go.PS Go.ChangeShapes Go.WideShapes Go.ChangeAt Go.RowKit
set_option maxRecDepth 100000

theorem knob : ownKnob Try.prog.godebug = Option.none := by kernel_rfl
theorem laidOut : laidOutB Try.prog = true := by kernel_rfl
theorem cells31 : Try.prog.cellsOf 31 = 4 := by kernel_rfl
theorem plain22 : plainB Try.prog 9 22 = true := by kernel_rfl
theorem plain31 : plainB Try.prog 9 31 = true := by kernel_rfl

theorem u8_bd {n : Int} (h : (Lit.int .u8 n).wf = true) : ∃ m : Nat, n = m ∧ m ≤ 255 := by
  have hx : 0 ≤ n ∧ n ≤ 255 := by simpa [Lit.wf, IntKind.min, IntKind.max, IntKind.signed, IntKind.bits] using h
  exact ⟨n.toNat, by omega, by omega⟩
theorem raw_of {zs : List D} (h : Fits Try.prog [31] zs) : ∃ r : Raw, zs = [.int .u8 r.what, .int .u8 r.key, .int .u8 r.val, .bool r.long] ∧ r.Ok := by
  obtain ⟨ys, xs, rfl, hy, hx⟩ := h.strct_inv Try.underlying31
  cases hx.nil_inv
  have hy1 : Fits Try.prog [5, 5, 5, 4] ys := hy
  obtain ⟨a, ys1, rfl, ha, hy2⟩ := hy1.int_inv Try.underlying5
  obtain ⟨b, ys2, rfl, hb, hy3⟩ := hy2.int_inv Try.underlying5
  obtain ⟨c, ys3, rfl, hc, hy4⟩ := hy3.int_inv Try.underlying5
  obtain ⟨z, ys4, rfl, hy5⟩ := hy4.bool_inv Try.underlying4
  cases hy5.nil_inv
  obtain ⟨a1, rfl, ga⟩ := u8_bd ha
  obtain ⟨b1, rfl, gb⟩ := u8_bd hb
  obtain ⟨c1, rfl, gc⟩ := u8_bd hc
  exact ⟨⟨a1, b1, c1, z⟩, rfl, ga, gb, gc⟩
theorem raws_of {xs : List D} (h : Fits Try.prog [22] xs) : ∃ rs : List Raw, xs = [rawsD rs] ∧ Raws rs := by
  obtain ⟨zss, xs, rfl, hl, hz, hx⟩ := h.sl_inv Try.underlying22
  cases hx.nil_inv
  have hex : ∀ zs : List D, ∃ r : Raw, zs ∈ zss → zs = [.int .u8 r.what, .int .u8 r.key, .int .u8 r.val, .bool r.long] ∧ r.Ok := fun zs => by
    by_cases hm : zs ∈ zss
    · obtain ⟨r, h⟩ := raw_of (hz zs hm)
      exact ⟨r, fun _ => h⟩
    · exact ⟨⟨0, 0, 0, false⟩, fun h => absurd h hm⟩
  let R := fun zs => Classical.choose (hex zs)
  have hR : ∀ zs ∈ zss, zs = [.int .u8 (R zs).what, .int .u8 (R zs).key, .int .u8 (R zs).val, .bool (R zs).long] ∧ (R zs).Ok := fun zs hm => Classical.choose_spec (hex zs) hm
  refine ⟨zss.map R, ?_, ?_, ?_⟩
  · rw [cells31]
    unfold rawsD
    rw [List.map_map]
    congr 2
    refine List.map_congr_left fun zs hm => ?_
    have := (hR zs hm).1
    simp only [asElem, Try.underlying31, Function.comp, Raw.d]
    exact congrArg D.agg this
  · intro x hx
    obtain ⟨zs, hm, rfl⟩ := List.mem_map.1 hx
    exact (hR zs hm).2
  · simpa [maxLen] using hl
theorem arg_raws {H : Type} {enc : TypeId × Value → H} {W : World} {base : Nat} {v : Value} {d : DataW H} {p : List MemPlace} {sp : Nat → Bool} (hok : Value.okWide Try.prog W .any base 22 v) (h : DataW.Trod enc Try.prog W 0 sp true 22 v d p) :
    ∃ rs : List Raw, Raws rs ∧ RepD (KAll W) (rawsD rs) v := by
  obtain ⟨a, len, cap, rfl⟩ := okWide_slice Try.underlying22 hok
  obtain ⟨xs, hf, hr, _⟩ := met_of_trod 9 plain22 h
  obtain ⟨rs, rfl, hrs⟩ := raws_of hf
  exact ⟨rs, hrs, rep_one rfl hr⟩
theorem arg_raw {H : Type} {enc : TypeId × Value → H} {W : World} {base : Nat} {v : Value} {d : DataW H} {p : List MemPlace} {sp : Nat → Bool} (hok : Value.okWide Try.prog W .any base 31 v) (h : DataW.Trod enc Try.prog W 0 sp true 31 v d p) :
    ∃ r : Raw, r.Ok ∧ RepD (KAll W) r.d v := by
  obtain ⟨cs, rfl, hcs⟩ := okWide_struct Try.underlying31 hok
  obtain ⟨xs, hf, hr, hc⟩ := met_of_trod 9 plain31 h
  obtain ⟨r, rfl, hrs⟩ := raw_of hf
  refine ⟨r, hrs, RepD.agg_iff.2 ⟨cs.toList, rfl, hr, fun u hu => ?_⟩⟩
  obtain ⟨i, hi, rfl⟩ := List.getElem_of_mem hu
  have hr' : RepDL (KAll W) _ cs.toList := hr
  have hl := hr'.1
  have hx := List.getElem?_eq_getElem (l := [D.int .u8 r.what, .int .u8 r.key, .int .u8 r.val, .bool r.long]) (i := i) (by rw [hl]; exact hi)
  exact (hr'.2 i _ _ hx (List.getElem?_eq_getElem hi)).oneCell (hc _ (List.getElem_mem _))

end Go.Proofs.Ytobdkpadpdideaa

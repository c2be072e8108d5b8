/-
  Arguments that are slices of records, arrays, and records, as plain data.
-/
import Derived.Test.YtojgjdcciojpeaaPure19
import Derived.WalkKit
import Derived.ProofKit
import Derived.OpenShut
import Derived.ShutString
import Derived.ChangeOld
import Derived.Below
import Derived.Carry
set_option linter.unusedSimpArgs false
set_option linter.unusedVariables false
namespace Go.PS
open Go Go.RowKit Go.WideShapes

theorem Fits.list_inv {P : Program} {t e : TypeId} {sz : Nat} {ts xs} {α : Type} (f : α → D) (ok : α → Prop) (ht : P.underlying t = some (.slice e)) (hsz : P.cellsOf e = sz)
    (hz : ∀ zs, Fits P [e] zs → ∃ r : α, asElem P e zs = f r ∧ ok r) (h : Fits P (t :: ts) xs) :
    ∃ (rs : List α) (xs' : List D), xs = .sl sz (rs.map f) :: xs' ∧ (∀ r ∈ rs, ok r) ∧ rs.length ≤ 9223372036854775807 ∧ Fits P ts xs' := by
  obtain ⟨zss, xs', rfl, hl, hzs, hx⟩ := h.sl_inv ht
  have key : ∀ zss : List (List D), (∀ zs ∈ zss, Fits P [e] zs) → ∃ rs : List α, zss.map (asElem P e) = rs.map f ∧ ∀ r ∈ rs, ok r := by
    intro zss
    induction zss with
    | nil => exact fun _ => ⟨[], rfl, fun r h => by cases h⟩
    | cons z zss ih =>
      intro hh
      obtain ⟨r, h1, h2⟩ := hz z (hh z (by simp))
      obtain ⟨rs, h3, h4⟩ := ih fun zs hm => hh zs (by simp [hm])
      refine ⟨r :: rs, by rw [List.map_cons, List.map_cons, h1, h3], fun x hx => ?_⟩
      rcases List.mem_cons.1 hx with rfl | hm
      · exact h2
      · exact h4 x hm
  obtain ⟨rs, h1, h2⟩ := key zss hzs
  have hlen : zss.length = rs.length := by
    have := congrArg List.length h1
    simpa using this
  exact ⟨rs, xs', by rw [h1, hsz], h2, by rw [← hlen]; simpa [maxLen] using hl, hx⟩

theorem Fits.one_list {P : Program} {t e : TypeId} {sz : Nat} {xs} {α : Type} (f : α → D) (ok : α → Prop) (ht : P.underlying t = some (.slice e)) (hsz : P.cellsOf e = sz)
    (hz : ∀ zs, Fits P [e] zs → ∃ r : α, asElem P e zs = f r ∧ ok r) (h : Fits P [t] xs) :
    ∃ rs : List α, xs = [.sl sz (rs.map f)] ∧ (∀ r ∈ rs, ok r) ∧ rs.length ≤ 9223372036854775807 := by
  obtain ⟨rs, xs', rfl, h1, h2, h3⟩ := h.list_inv f ok ht hsz hz
  cases h3.nil_inv
  exact ⟨rs, rfl, h1, h2⟩

theorem u8_bd' {n : Int} (h : (Lit.int .u8 n).wf = true) : 0 ≤ n ∧ n ≤ 255 := by
  simpa [Lit.wf, IntKind.min, IntKind.max, IntKind.signed, IntKind.bits] using h
theorem i64_bd' {n : Int} (h : (Lit.int .i64 n).wf = true) : -9223372036854775808 ≤ n ∧ n ≤ 9223372036854775807 := by
  simpa [Lit.wf, IntKind.min, IntKind.max, IntKind.signed, IntKind.bits] using h

section
variable {P : Program} {w : World} {r : Reach} {base : Nat} {t : TypeId} {v : Value}
theorem okWide_array {n : Nat} {e : TypeId} (ht : P.underlying t = some (.array n e)) (h : Value.okWide P w r base t v) : ∃ cs, v = .agg cs := by
  simp only [Value.okWide, ht] at h
  obtain ⟨cs, h1, _⟩ := h
  exact ⟨cs, h1⟩
end

/-- An aggregate of cells. -/
theorem rep_agg {K : Nat → Nat → Option Value} {xs : List D} {cs : Array Value} (hc : ∀ x ∈ xs, x.cell = true) (hr : RepDL K xs (Value.agg cs).cells.toList) : RepD K (.agg xs) (.agg cs) := by
  have hr' : RepDL K xs cs.toList := hr
  refine RepD.agg_iff.2 ⟨cs.toList, rfl, hr', fun u hu => ?_⟩
  obtain ⟨i, hi, rfl⟩ := List.getElem_of_mem hu
  have hl := hr'.1
  have hi' : i < xs.length := by rw [hl]; exact hi
  have hx := List.getElem?_eq_getElem (l := xs) (i := i) hi'
  exact (hr'.2 i _ _ hx (List.getElem?_eq_getElem hi)).oneCell (hc _ (List.getElem_mem _))

theorem arg_slice {H : Type} {enc : TypeId × Value → H} {P : Program} {W : World} {base : Nat} {v : Value} {d : DataW H} {p : List MemPlace} {sp : Nat → Bool} {t e : TypeId} {sz : Nat} {α : Type} (f : α → D) (ok : α → Prop)
    (n : Nat) (hp : plainB P n t = true) (ht : P.underlying t = some (.slice e)) (hsz : P.cellsOf e = sz)
    (hz : ∀ zs, Fits P [e] zs → ∃ r : α, asElem P e zs = f r ∧ ok r)
    (hok : Value.okWide P W .any base t v) (h : DataW.Trod enc P W 0 sp true t v d p) :
    ∃ rs : List α, ((∀ r ∈ rs, ok r) ∧ rs.length ≤ 9223372036854775807) ∧ RepD (KAll W) (.sl sz (rs.map f)) v := by
  obtain ⟨a, len, cap, rfl⟩ := okWide_slice ht hok
  obtain ⟨xs, hf, hr, _⟩ := met_of_trod n hp h
  obtain ⟨rs, rfl, h1, h2⟩ := hf.one_list f ok ht hsz hz
  exact ⟨rs, ⟨h1, h2⟩, rep_one rfl hr⟩
end Go.PS

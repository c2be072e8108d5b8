/-
  From the contract of a law to its calls.
-/
import Derived.Test.YtojgjdcciojpeaaPure18
import Derived.Carry
set_option linter.unusedSimpArgs false
set_option linter.unusedVariables false
namespace Go.PS
open Go Go.RowKit

/-- All cells of the world, frozen. -/
def KAll (w : World) : Nat → Nat → Option Value := fun b o => match w.cell? ⟨b, o, none⟩ with
  | some v => bif v.oneCell' then some v else none
  | none => none

theorem KAll.sub (w : World) : KSub (KAll w) w := fun b o v h => by
  unfold KAll at h
  split at h
  · rename_i u hu
    cases h1 : u.oneCell' with
    | true => rw [h1] at h; simp only [cond_true, Option.some.injEq] at h; subst h; exact Held.of_cell hu h1
    | false => rw [h1] at h; cases h
  · cases h

theorem law_calls {P : Program} {g : FuncId} {ds : List D} (h : PCall P g ds (.bool true)) {w : World} {vs : List Value} (hv : RepDL (KAll w) ds vs) :
    Calls P g vs.toArray w fun e w' => e = .returned (.bool true) ∧ Below w.heap.size w w' :=
  (h.2 (KAll w) w vs (KAll.sub w) hv).mono fun e w' ⟨v, K', he, hr, _, _, hb, _⟩ => by
    cases hr
    exact ⟨he, hb⟩

theorem met_of_trod {H : Type} {enc : TypeId × Value → H} {P : Program} {w : World} {base : Nat} {spare : Nat → Bool} {held : Bool} {t : TypeId} {v : Value} {d : DataW H} {ps : List MemPlace} (n : Nat) (hp : plainB P n t = true)
    (h : DataW.Trod enc P w base spare held t v d ps) : Met P (KAll w) [t] v.cells.toList := by
  obtain ⟨fuel, hf⟩ := h
  exact trod_met (fun _ _ _ h h1 => by simp [KAll, h, h1]) n t fuel _ _ hp hf

/-- A value of one cell. -/
theorem rep_one {K : Nat → Nat → Option Value} {x : D} {v : Value} (hv : v.cells = #[v]) (h : RepDL K [x] v.cells.toList) : RepD K x v := by
  rw [hv] at h
  exact h.2 0 x v rfl rfl

end Go.PS

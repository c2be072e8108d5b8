/-
  What comes in, as plain data: a reading of ints, bools, strings, slices and structs of them is met by frozen cells.
-/
import Derived.Test.YtojgjdcciojpeaaPure17
import Derived.Deep.Slices
import Derived.OpenShut
import Derived.Below
set_option linter.unusedSimpArgs false
set_option linter.unusedVariables false
namespace Go.PS
open Go Go.RowKit

/-- An element of a slice of type e, made of its cells. -/
def asElem (P : Program) (e : TypeId) (zs : List D) : D := match P.underlying e with
  | some (.struct _) | some (.array _ _) => .agg zs
  | _ => zs.getD 0 .nilp

/-- Cells that fit types. -/
inductive Fits (P : Program) : List TypeId → List D → Prop
  | nil : Fits P [] []
  | bool {t ts xs} (b : Bool) (ht : P.underlying t = some .bool) (h : Fits P ts xs) : Fits P (t :: ts) (.bool b :: xs)
  | int {t ts xs k} (n : Int) (ht : P.underlying t = some (.int k)) (hn : (Lit.int k n).wf = true) (h : Fits P ts xs) : Fits P (t :: ts) (.int k n :: xs)
  | str {t ts xs} (l : List UInt8) (ht : P.underlying t = some .string) (hl : l.length ≤ maxLen) (h : Fits P ts xs) : Fits P (t :: ts) (.str l :: xs)
  | sl {t ts xs e} (zss : List (List D)) (ht : P.underlying t = some (.slice e)) (hl : zss.length ≤ maxLen) (hz : ∀ zs ∈ zss, Fits P [e] zs) (h : Fits P ts xs) : Fits P (t :: ts) (.sl (P.cellsOf e) (zss.map (asElem P e)) :: xs)
  | strct {t ts ys xs fs} (ht : P.underlying t = some (.struct fs)) (hy : Fits P (fs.toList.map (·.type)) ys) (h : Fits P ts xs) : Fits P (t :: ts) (ys ++ xs)
  | arr {t ts ys xs n e} (ht : P.underlying t = some (.array n e)) (hy : Fits P (List.replicate n e) ys) (h : Fits P ts xs) : Fits P (t :: ts) (ys ++ xs)

theorem Fits.nil_inv {P : Program} {xs} (h : Fits P [] xs) : xs = [] := by cases h; rfl
theorem Fits.bool_inv {P : Program} {t ts xs} (ht : P.underlying t = some .bool) (h : Fits P (t :: ts) xs) : ∃ b xs', xs = .bool b :: xs' ∧ Fits P ts xs' := by
  cases h <;> first | exact ⟨_, _, rfl, by assumption⟩ | (rename_i h _; rw [ht] at h; cases h) | (rename_i h _ _; rw [ht] at h; cases h) | (rename_i h _ _ _; rw [ht] at h; cases h)
theorem Fits.int_inv {P : Program} {t ts xs k} (ht : P.underlying t = some (.int k)) (h : Fits P (t :: ts) xs) : ∃ n xs', xs = .int k n :: xs' ∧ (Lit.int k n).wf = true ∧ Fits P ts xs' := by
  cases h with
  | int n ht' hn h => rw [ht] at ht'; simp only [Option.some.injEq, TypeDesc.int.injEq] at ht'; subst ht'; exact ⟨_, _, rfl, hn, h⟩
  | bool b h' h => rw [ht] at h'; cases h'
  | str l h' hl h => rw [ht] at h'; cases h'
  | sl z h' hl hz h => rw [ht] at h'; cases h'
  | strct h' hy h => rw [ht] at h'; cases h'
  | arr h' hy h => rw [ht] at h'; cases h'
theorem Fits.str_inv {P : Program} {t ts xs} (ht : P.underlying t = some .string) (h : Fits P (t :: ts) xs) : ∃ l xs', xs = .str l :: xs' ∧ l.length ≤ maxLen ∧ Fits P ts xs' := by
  cases h with
  | int n h' hn h => rw [ht] at h'; cases h'
  | bool b h' h => rw [ht] at h'; cases h'
  | str l h' hl h => exact ⟨_, _, rfl, hl, h⟩
  | sl z h' hl hz h => rw [ht] at h'; cases h'
  | strct h' hy h => rw [ht] at h'; cases h'
  | arr h' hy h => rw [ht] at h'; cases h'
theorem Fits.sl_inv {P : Program} {t ts xs e} (ht : P.underlying t = some (.slice e)) (h : Fits P (t :: ts) xs) :
    ∃ (zss : List (List D)) (xs' : List D), xs = .sl (P.cellsOf e) (zss.map (asElem P e)) :: xs' ∧ zss.length ≤ maxLen ∧ (∀ zs ∈ zss, Fits P [e] zs) ∧ Fits P ts xs' := by
  cases h with
  | int n h' hn h => rw [ht] at h'; cases h'
  | bool b h' h => rw [ht] at h'; cases h'
  | str l h' hl h => rw [ht] at h'; cases h'
  | sl z h' hl hz h => rw [ht] at h'; simp only [Option.some.injEq, TypeDesc.slice.injEq] at h'; subst h'; exact ⟨_, _, rfl, hl, hz, h⟩
  | strct h' hy h => rw [ht] at h'; cases h'
  | arr h' hy h => rw [ht] at h'; cases h'
theorem Fits.strct_inv {P : Program} {t ts xs fs} (ht : P.underlying t = some (.struct fs)) (h : Fits P (t :: ts) xs) :
    ∃ ys xs', xs = ys ++ xs' ∧ Fits P (fs.toList.map (·.type)) ys ∧ Fits P ts xs' := by
  cases h with
  | int n h' hn h => rw [ht] at h'; cases h'
  | bool b h' h => rw [ht] at h'; cases h'
  | str l h' hl h => rw [ht] at h'; cases h'
  | sl z h' hl hz h => rw [ht] at h'; cases h'
  | strct h' hy h => rw [ht] at h'; simp only [Option.some.injEq, TypeDesc.struct.injEq] at h'; subst h'; exact ⟨_, _, rfl, hy, h⟩
  | arr h' hy h => rw [ht] at h'; cases h'

theorem Fits.arr_inv {P : Program} {t ts xs n e} (ht : P.underlying t = some (.array n e)) (h : Fits P (t :: ts) xs) : ∃ ys xs', xs = ys ++ xs' ∧ Fits P (List.replicate n e) ys ∧ Fits P ts xs' := by
  cases h with
  | arr ht' hy h => rw [ht] at ht'; cases ht'; exact ⟨_, _, rfl, hy, h⟩
  | bool _ ht' _ => rw [ht] at ht'; cases ht'
  | int _ ht' _ _ => rw [ht] at ht'; cases ht'
  | str _ ht' _ _ => rw [ht] at ht'; cases ht'
  | sl _ ht' _ _ _ => rw [ht] at ht'; cases ht'
  | strct ht' _ _ => rw [ht] at ht'; cases ht'
theorem Fits.append {P : Program} {t ts a b} (ha : Fits P [t] a) (hb : Fits P ts b) : Fits P (t :: ts) (a ++ b) := by
  cases ha with
  | bool b ht h => cases h; exact .bool _ ht hb
  | int n ht hn h => cases h; exact .int _ ht hn hb
  | str l ht hl h => cases h; exact .str _ ht hl hb
  | sl z ht hl hz h => cases h; exact .sl _ ht hl hz hb
  | strct ht hy h => cases h; rw [List.append_nil]; exact .strct ht hy hb
  | arr ht hy h => cases h; rw [List.append_nil]; exact .arr ht hy hb

def consecB (P : Program) : Nat → List Field → Nat → Bool
  | off, [], total => off == total
  | off, f :: fs, total => f.offset == off && consecB P (off + P.cellsOf f.type) fs total

/-- Ints, bools, strings, slices and structs of such. -/
def plainB (P : Program) : Nat → TypeId → Bool
  | 0, _ => false
  | n + 1, t => match P.underlying t with
    | some .bool | some (.int _) | some .string => true
    | some (.slice e) => Nat.blt 0 (P.cellsOf e) && plainB P n e
    | some (.struct fs) => consecB P 0 fs.toList (P.cellsOf t) && fs.toList.all fun f => plainB P n f.type
    | some (.array m e) => Nat.beq (P.cellsOf t) (m * P.cellsOf e) && plainB P n e
    | _ => false

variable {H : Type} {enc : TypeId × Value → H} {P : Program} {w : World} {base : Nat} {spare : Nat → Bool} {held : Bool} {K : Nat → Nat → Option Value}

/-- What a reading comes to. -/
def Met (P : Program) (K : Nat → Nat → Option Value) (ts : List TypeId) (cs : List Value) : Prop := ∃ xs, Fits P ts xs ∧ RepDL K xs cs ∧ ∀ x ∈ xs, x.cell = true

theorem met_fields : ∀ (fs : List Field) (off : Nat) (cs : List Value), consecB P off fs cs.length = true →
    (∀ f ∈ fs, Met P K [f.type] ((cs.drop f.offset).take (P.cellsOf f.type))) → Met P K (fs.map (·.type)) (cs.drop off)
  | [], off, cs, hc, _ => by
    simp only [consecB, beq_iff_eq] at hc
    rw [List.drop_of_length_le (by omega)]
    exact ⟨[], .nil, RepDL.nil, fun x hx => (by cases hx)⟩
  | f :: fs, off, cs, hc, hm => by
    simp only [consecB, Bool.and_eq_true, beq_iff_eq] at hc
    obtain ⟨rfl, hc⟩ := hc
    obtain ⟨a, ha, hra, hca⟩ := hm f (by simp)
    obtain ⟨b, hb, hrb, hcb⟩ := met_fields fs (f.offset + P.cellsOf f.type) cs hc (fun g hg => hm g (by simp [hg]))
    have hsplit : cs.drop f.offset = (cs.drop f.offset).take (P.cellsOf f.type) ++ cs.drop (f.offset + P.cellsOf f.type) := by
      rw [← List.drop_drop, List.take_append_drop]
    refine ⟨a ++ b, ha.append hb, ?_, fun x hx => ?_⟩
    · rw [hsplit]; exact hra.append hrb
    · rcases List.mem_append.1 hx with h | h
      · exact hca x h
      · exact hcb x h

theorem cells_of_cell {x : D} (h : x.cell = true) : x.cells = [x] := by
  cases x <;> first | rfl | (simp [D.cell] at h)

theorem asElem_cells {e : TypeId} {zs : List D} {n : Nat} (hp : plainB P n e = true) (h : Fits P [e] zs) (hc : ∀ x ∈ zs, x.cell = true) : (asElem P e zs).cells = zs := by
  unfold asElem
  cases h with
  | bool b ht h => cases h; rw [ht]; rfl
  | int n ht hn h => cases h; rw [ht]; rfl
  | str l ht hl h => cases h; rw [ht]; rfl
  | sl z ht hl hz h => cases h; rw [ht]; rfl
  | strct ht hy h => cases h; rw [ht, List.append_nil]; rfl
  | arr ht hy h => cases h; rw [ht, List.append_nil]; rfl

theorem met_elems (e : TypeId) (sz : Nat) : ∀ (n off : Nat) (cs : List Value), cs.length = (off + n) * sz →
    (∀ i, off ≤ i → i < off + n → Met P K [e] ((cs.drop (i * sz)).take sz)) → Met P K (List.replicate n e) (cs.drop (off * sz))
  | 0, off, cs, hc, _ => by
    rw [List.drop_of_length_le (by rw [hc]; simp)]
    exact ⟨[], .nil, RepDL.nil, fun x hx => (by cases hx)⟩
  | n + 1, off, cs, hc, hm => by
    obtain ⟨a, ha, hra, hca⟩ := hm off (Nat.le_refl _) (by omega)
    obtain ⟨b, hb, hrb, hcb⟩ := met_elems e sz n (off + 1) cs (by rw [hc]; congr 1; omega) (fun i h1 h2 => hm i (by omega) (by omega))
    have hsplit : cs.drop (off * sz) = (cs.drop (off * sz)).take sz ++ cs.drop ((off + 1) * sz) := by
      rw [Nat.add_mul, Nat.one_mul, ← List.drop_drop, List.take_append_drop]
    refine ⟨a ++ b, ha.append hb, ?_, fun x hx => ?_⟩
    · rw [hsplit]; exact hra.append hrb
    · rcases List.mem_append.1 hx with h | h
      · exact hca x h
      · exact hcb x h

theorem trod_met (hK : ∀ b o v, w.cell? ⟨b, o, none⟩ = some v → v.oneCell' = true → K b o = some v) : ∀ (n : Nat) (t : TypeId) (fuel : Nat) (cs : List Value) (x : DataW H × List MemPlace), plainB P n t = true →
    DataW.trod enc P w base spare held fuel t cs = some x → Met P K [t] cs
  | 0, t, fuel, cs, x, hp, h => by cases hp
  | n + 1, t, fuel, cs, x, hp, h => by
    unfold plainB at hp
    split at hp
    · rename_i ht
      cases fuel with
      | zero => simp [DataW.trod] at h
      | succ fuel =>
        unfold DataW.trod at h
        rw [ht] at h
        split at h <;> simp_all
        exact ⟨[.bool _], .bool _ ht .nil, RepDL.cons (.bool _) RepDL.nil, by simp [D.cell]⟩
    · rename_i k ht
      cases fuel with
      | zero => simp [DataW.trod] at h
      | succ fuel =>
        unfold DataW.trod at h
        rw [ht] at h
        split at h <;> simp_all
        obtain ⟨⟨rfl, hw⟩, _⟩ := h
        exact ⟨[.int _ _], .int _ ht hw .nil, RepDL.cons (.int _ _) RepDL.nil, by simp [D.cell]⟩
    · rename_i ht
      cases fuel with
      | zero => simp [DataW.trod] at h
      | succ fuel =>
        unfold DataW.trod at h
        rw [ht] at h
        split at h <;> simp_all
        rename_i s
        refine ⟨[.str s.data.toList], .str _ ht (by simpa using h.1) .nil, RepDL.cons ?_ RepDL.nil, by simp [D.cell]⟩
        have := RepD.str (K := K) s.data.toList
        simpa using this
    · rename_i e ht
      simp only [Bool.and_eq_true] at hp
      obtain ⟨hpos, hp⟩ := hp
      have hpos : 0 < P.cellsOf e := Nat.le_of_ble_eq_true hpos
      rcases Deep.open_slice ht h with ⟨rfl, _⟩ | ⟨a, len, cap, m, q, Dd, Pl, rfl, hb, hl, hm, hmm, _, hall⟩
      · refine ⟨[.sl (P.cellsOf e) []], .sl [] ht (by simp [maxLen]) (fun z hz => (by cases hz)) .nil, RepDL.cons ?_ RepDL.nil, by simp [D.cell]⟩
        exact RepD.sl _ [] none 0 0 0 (fun _ _ => default) (Nat.le_refl _) (fun h => absurd rfl h) (fun i x h => by simp at h) (fun i j x d h => by simp at h) (fun i j x d h => by simp at h) (fun i j x d h => by simp at h)
      · have hlm : len ≤ m := by rw [hmm]; split <;> omega
        have hex : ∀ i, ∃ p : List D × List Value, i < len → Fits P [e] p.1 ∧ RepDL K p.1 p.2 ∧ (∀ x ∈ p.1, x.cell = true) ∧ w.cells? base (a.add (i * P.cellsOf e)) (P.cellsOf e) = some p.2 := fun i => by
          by_cases hi : i < len
          · obtain ⟨cs', h1, h2⟩ := hall i (by omega)
            obtain ⟨xs, f1, f2, f3⟩ := trod_met hK n e q cs' _ hp h2
            exact ⟨(xs, cs'), fun _ => ⟨f1, f2, f3, h1⟩⟩
          · exact ⟨([], []), fun h => absurd h hi⟩
        let Z := fun i => (Classical.choose (hex i)).1
        let V := fun i => (Classical.choose (hex i)).2
        have hZ : ∀ i, i < len → Fits P [e] (Z i) ∧ RepDL K (Z i) (V i) ∧ (∀ x ∈ Z i, x.cell = true) ∧ w.cells? base (a.add (i * P.cellsOf e)) (P.cellsOf e) = some (V i) := fun i hi => Classical.choose_spec (hex i) hi
        have hget : ∀ (i : Nat) (x : D), (((List.range len).map Z).map (asElem P e))[i]? = some x → i < len ∧ x.cells = Z i := fun i x hx => by
          simp only [List.getElem?_map, Option.map_eq_some_iff, List.getElem?_range', List.getElem?_range] at hx
          obtain ⟨z, ⟨i', hi', rfl⟩, rfl⟩ := hx
          have hlt : i < len := by
            rcases Nat.lt_or_ge i len with h | h
            · exact h
            · simp [List.getElem?_eq_none (show (List.range len).length ≤ i by simpa using h)] at hi'
          rw [List.getElem?_range hlt] at hi'
          simp only [Option.some.injEq] at hi'
          subst hi'
          exact ⟨hlt, asElem_cells hp (hZ _ hlt).1 (hZ _ hlt).2.2.1⟩
        have hcell : ∀ (i j : Nat) (d : D), i < len → (Z i)[j]? = some d → ∃ v, (V i)[j]? = some v ∧ j < P.cellsOf e ∧ w.cell? ((a.add (i * P.cellsOf e)).add j) = some v ∧ RepD K d v := fun i j d hi hd => by
          obtain ⟨_, hr, _, hc⟩ := hZ i hi
          obtain ⟨_, hlen, hg⟩ := World.cells?_some hc
          have hj : j < (Z i).length := (List.getElem?_eq_some_iff.1 hd).1
          have hj2 : j < (V i).length := by rw [← hr.1]; exact hj
          have hv : (V i)[j]? = some ((V i)[j]) := List.getElem?_eq_getElem hj2
          exact ⟨_, hv, by omega, by rw [hg j (by omega), hv], hr.2 j d _ hd hv⟩
        obtain ⟨b, o, spot⟩ := a
        have hsp : ∀ (d : D), 0 < len → (Z 0)[0]? = some d → spot = none := fun d hi hd => by
          obtain ⟨v, _, _, h1, _⟩ := hcell 0 0 d hi hd
          rw [Nat.zero_mul] at h1
          simpa [Addr.add] using World.cell?_spot h1
        have hadd : ∀ o k : Nat, (Addr.mk b o none).add k = ⟨b, o + k, none⟩ := fun o k => by
          unfold Addr.add; split
          · rename_i h; subst h; rfl
          · rfl
        by_cases hne : spot = none
        · subst hne
          refine ⟨[.sl (P.cellsOf e) (((List.range len).map Z).map (asElem P e))], .sl _ ht (by simp; omega) (fun zs hz => ?_) .nil, RepDL.cons ?_ RepDL.nil, by simp [D.cell]⟩
          · obtain ⟨i, hi, rfl⟩ := List.mem_map.1 hz
            exact (hZ i (List.mem_range.1 hi)).1
          · have hlen : (((List.range len).map Z).map (asElem P e)).length = len := by simp
            have := RepD.sl (K := K) (P.cellsOf e) (((List.range len).map Z).map (asElem P e)) (some ⟨b, o, none⟩) cap b o (fun i j => ((V i)[j]?).getD default) (by omega) (fun _ => rfl)
              (fun i x hx => by
                obtain ⟨hi, hc⟩ := hget i x hx
                obtain ⟨_, hr, _, hcs⟩ := hZ i hi
                rw [hc, hr.1]; exact (World.cells?_some hcs).2.1)
              (fun i j x d hx hd => by
                obtain ⟨hi, hc⟩ := hget i x hx
                rw [hc] at hd
                obtain ⟨v, hv, _, h1, _⟩ := hcell i j d hi hd
                rw [hv]
                exact hK _ _ _ (by rw [hadd, hadd] at h1; exact h1) (by
                  obtain ⟨v', hv', _, _, hr'⟩ := hcell i j d hi hd
                  rw [hv] at hv'; cases hv'
                  exact hr'.oneCell ((hZ i hi).2.2.1 d (List.mem_of_getElem? hd))))
              (fun i j x d hx hd => by
                obtain ⟨hi, hc⟩ := hget i x hx
                rw [hc] at hd
                obtain ⟨v, hv, _, h1, hr⟩ := hcell i j d hi hd
                rw [hv]
                exact hr.oneCell ((hZ i hi).2.2.1 d (List.mem_of_getElem? hd)))
              (fun i j x d hx hd => by
                obtain ⟨hi, hc⟩ := hget i x hx
                rw [hc] at hd
                obtain ⟨v, hv, _, h1, hr⟩ := hcell i j d hi hd
                rw [hv]
                exact hr)
            rw [hlen] at this
            exact this
        · have hl0 : len = 0 := by
            rcases Nat.eq_zero_or_pos len with h0 | h0
            · exact h0
            · exfalso
              obtain ⟨_, hr, _, hcs⟩ := hZ 0 h0
              have hl := (World.cells?_some hcs).2.1
              have hj : 0 < (Z 0).length := by rw [hr.1, hl]; exact hpos
              exact hne (hsp _ h0 (List.getElem?_eq_getElem hj))
          subst hl0
          refine ⟨[.sl (P.cellsOf e) []], .sl [] ht (by simp [maxLen]) (fun z hz => (by cases hz)) .nil, RepDL.cons ?_ RepDL.nil, by simp [D.cell]⟩
          exact RepD.sl _ [] _ cap 0 0 (fun _ _ => default) (Nat.zero_le _) (fun h => absurd rfl h) (fun i x h => by simp at h) (fun i j x d h => by simp at h) (fun i j x d h => by simp at h) (fun i j x d h => by simp at h)
    · rename_i fs ht
      simp only [Bool.and_eq_true] at hp
      obtain ⟨xs, q, _, _, hlen, hxl, hall⟩ := DataW.trod_struct ht h
      have hf : ∀ f ∈ fs.toList, ∃ y, DataW.trod enc P w base spare held q f.type ((cs.drop f.offset).take (P.cellsOf f.type)) = some y := fun f hf => by
        obtain ⟨i, hi, rfl⟩ := List.getElem_of_mem hf
        have hi' : i < fs.size := by simpa using hi
        have := hall i fs[i] (by simp [hi'])
        rw [List.getElem?_eq_getElem (by omega)] at this
        exact ⟨_, by simpa using this⟩
      obtain ⟨ys, f1, f2, f3⟩ := met_fields (P := P) (K := K) fs.toList 0 cs (by rw [hlen]; exact hp.1) (fun f hfm => by
        obtain ⟨y, hy⟩ := hf f hfm
        exact trod_met hK n f.type q _ y (List.all_eq_true.1 hp.2 f hfm) hy)
      rw [List.drop_zero] at f2
      exact ⟨ys ++ [], .strct ht f1 .nil, by rw [List.append_nil]; exact f2, by rw [List.append_nil]; exact f3⟩
    · rename_i m e ht
      simp only [Bool.and_eq_true] at hp
      obtain ⟨xs, q, _, _, hlen, hxl, hall⟩ := DataW.trod_array ht h
      have hsz := Nat.eq_of_beq_eq_true hp.1
      obtain ⟨ys, f1, f2, f3⟩ := met_elems (P := P) (K := K) e (P.cellsOf e) m 0 cs (by rw [hlen, hsz]; simp) (fun i _ hi => by
        have hi' : i < m := by omega
        have := hall i hi'
        rw [List.getElem?_eq_getElem (by omega)] at this
        exact trod_met hK n e q _ _ hp.2 this)
      rw [Nat.zero_mul, List.drop_zero] at f2
      exact ⟨ys ++ [], .arr ht f1 .nil, by rw [List.append_nil]; exact f2, by rw [List.append_nil]; exact f3⟩
    · cases hp

end Go.PS

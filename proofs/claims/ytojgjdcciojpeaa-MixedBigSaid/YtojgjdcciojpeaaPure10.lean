/-
  Every operation of the pure layer stands for the model's own: literals and made rows; all operations together.
-/
import Derived.Test.YtojgjdcciojpeaaPure9
namespace Go.PS
open Go Go.RowKit

variable {P : Program} {T : Nat → Option TI}
variable {E : Env} {γ : Gh} {own : Nat → Option Nat} {ob : Nat → Option OB} {tk : Nat → TS} {w : World}

theorem made_rep {z : Value} {size : Nat} (h1 : Nat.beq (ofConst z).cells.length size = true) (h2 : (ofConst z).cells.all PV.cell = true) (h0 : 0 < size) (n : Nat) :
    RepL γ ((List.replicate n (ofConst z).cells).flatten) (madeCells z.cells (n * size)).toList ∧ ∀ u ∈ (madeCells z.cells (n * size)).toList, u.oneCell' = true := by
  have hsz := zero_size h1 h2
  obtain ⟨hr, hu⟩ := (rep_ofConst γ z).cells h2
  have hlen : (ofConst z).cells.length = size := Nat.eq_of_beq_eq_true h1
  have hget : ∀ j, j < n * size → (madeCells z.cells (n * size)).toList[j]? = z.cells.toList[j % size]? := by
    intro j hj
    have hm : j % size < z.cells.size := by rw [hsz]; exact Nat.mod_lt _ h0
    simp only [madeCells, Array.toList_map, List.getElem?_map, Array.toList_range, List.getElem?_range hj, Option.map_some, hsz]
    rw [getElem!_pos z.cells _ hm, Array.getElem?_toList, getElem?_pos z.cells _ hm]
  have hfl : ∀ j, j < n * size → ((List.replicate n (ofConst z).cells).flatten)[j]? = (ofConst z).cells[j % size]? := by
    intro j hj
    obtain ⟨a, b, c⟩ := split_index hj
    have := flatMap_get (fun x : List PV => x) size (List.replicate n (ofConst z).cells) (fun x hx => by rw [List.eq_of_mem_replicate hx]; exact hlen) (j / size) (j % size) b
    rw [← c] at this
    simp only [List.flatMap_id'] at this
    rw [this]
    simp [a]
  refine ⟨⟨?_, ?_⟩, ?_⟩
  · simp [hlen, madeCells]
  · intro j c v hc hv
    have hj : j < n * size := by
      have := (List.getElem?_eq_some_iff.1 hv).1
      simpa [madeCells] using this
    rw [hfl j hj] at hc
    rw [hget j hj] at hv
    exact hr.2 _ c v hc hv
  · intro u hm
    obtain ⟨j, hj⟩ := List.mem_iff_getElem?.1 hm
    have hj' : j < n * size := by
      have := (List.getElem?_eq_some_iff.1 hj).1
      simpa [madeCells] using this
    rw [hget j hj'] at hj
    exact hu u (List.mem_of_getElem? hj)

theorem evalMakeSlice_sound (hT : TabOk P T) (hw : ConcW E γ own ob tk w) {d : Nat} {t : TypeId} {l c v : PV} {lu cu : Value} {eff : HEff} (hl : Rep γ l lu) (hc : Rep γ c cu)
    (hdn : d < E.n) (h : evalMakeSlice T (some d) t l c ob tk = some (true, v, eff)) :
    ∃ γ' own' u w', (Instr.makeSlice t lu cu).run P w = .ok u w' ∧ GhLe γ γ' ∧ Rep γ' v u ∧
      ConcW E γ' own' (eff.obA ob) (eff.tkA tk) w' := by
  unfold evalMakeSlice at h
  split at h
  · rename_i e z es d2 n m ht hd2
    cases hd2
    obtain ⟨inf, dd, hinf, hdd, _, _, _, hk, _⟩ := hT.facts ht
    cases dd <;> simp only [TK.of, reduceCtorEq, TK.slice.injEq] at hk
    rename_i e
    subst hk
    rw [rep_int hl, rep_int hc]
    split at h
    · rename_i te hte
      obtain ⟨i, d', hi, hd', hz, hsz, hby, _, _⟩ := hT.facts hte
      cases hn0 : decide (n = 0) with
      | true =>
        rw [hn0] at h
        simp only [cond_true] at h
        obtain rfl : n = 0 := of_decide_eq_true hn0
        split at h
        · rename_i htd
          simp only [Option.some.injEq, Prod.mk.injEq, Bool.and_eq_true, decide_eq_true_eq, Bool.not_eq_true'] at h
          obtain ⟨⟨⟨⟨⟨⟨⟨⟨hts, h0⟩, hnm⟩, hb⟩, hm⟩, hs0⟩, hz1⟩, hz2⟩, rfl, rfl⟩ := h
          have hpos : 0 < te.size := by
            rcases Nat.eq_zero_or_pos te.size with h | h
            · rw [h] at hs0; simp at hs0
            · exact h
          have hrun := run_make (P := P) w t e i te.zero hdd hi hz .i64 .i64 0 m h0 hnm (by rw [hby]; omega) (by omega)
          change (Instr.makeSlice t (.int .i64 0) (.int .i64 m)).run P w = _ at hrun
          obtain ⟨γ', own', hK, hτ, hle, hw'⟩ := hw.grow htd (kill := none) (g := w.heap.size) (e := e) (size := te.size) (n := 0) (cap := m.toNat) (cur := madeCells te.zero.cells (m.toNat * te.size))
            (v' := .slice (some ⟨w.heap.size, 0, none⟩) 0 m.toNat) (w' := w.alloc (.cells (madeCells te.zero.cells (m.toNat * te.size)) e)) (all := [])
            rfl (heap_new w _) (Nat.zero_le _) (by simp only [maxLen]; omega) (by rw [rsz_lt hts]; exact size_madeCells _ _) (by simp) (by simp) rfl rfl rfl (by simp) (fun k hk _ => heap_old w _ hk) (.inl (Nat.le_refl _))
            (fun o v hv => by have := hw.ksub.lt hv; omega)
          rw [hsz] at hrun
          exact ⟨γ', own', _, _, hrun, hle, .own (.sl_nil _ _ _) hτ, hw'⟩
        · cases h
      | false =>
        rw [hn0] at h
        simp only [cond_false] at h
        split at h
        · rename_i hod
          simp only [Option.some.injEq, Prod.mk.injEq, Bool.and_eq_true, decide_eq_true_eq, Bool.not_eq_true'] at h
          obtain ⟨⟨⟨⟨⟨⟨⟨⟨⟨⟨hts, h0⟩, hnm⟩, hb⟩, hm⟩, hs0⟩, hz1⟩, hz2⟩, heq⟩, hty⟩, rfl, rfl⟩ := h
          subst heq
          have hpos : 0 < te.size := by
            rcases Nat.eq_zero_or_pos te.size with h | h
            · rw [h] at hs0; simp at hs0
            · exact h
          have hrun := run_make (P := P) w t e i te.zero hdd hi hz .i64 .i64 n n h0 hnm (by rw [hby]; omega) (by omega)
          obtain ⟨hr, h1⟩ := made_rep (γ := γ) hz1 hz2 hpos n.toNat
          obtain ⟨γ', hle, hmd, hw'⟩ := hw.newObj hod hdn (o := ⟨e, te.size, List.replicate n.toNat (ofConst te.zero)⟩) (cs := madeCells te.zero.cells (n.toNat * te.size))
            (by simpa [flat, List.flatMap_replicate] using hr) h1 (fun x hx => by rw [List.eq_of_mem_replicate hx]; exact Nat.eq_of_beq_eq_true hz1)
          rw [hsz] at hrun
          rw [objOf_cells (ty := e) (by simpa [mapTag] using hty)] at hw'
          simp only [Array.append_empty] at hw'
          refine ⟨γ', own, _, _, hrun, hle, ?_, hw'⟩
          have := Rep.hrow (γ := γ') (lo := 0) (len := n.toNat) (cap := n.toNat) hmd (Nat.le_refl _) (Nat.le_refl _)
          simpa using this
        · cases h
    · cases h
  · cases h

theorem elemsD_flat (agg : Bool) (size : Nat) (h0 : 0 < size) (hag : agg = true ∨ size = 1) : ∀ (n : Nat) (ds : List D), ds.length = n * size → (ds.all D.cell) = true →
    (elemsD agg size n ds).flatMap D.cells = ds ∧ (∀ x ∈ elemsD agg size n ds, x.cells.length = size) ∧ (elemsD agg size n ds).length = n
  | 0, ds, hl, _ => by
    have : ds = [] := List.eq_nil_of_length_eq_zero (by simpa using hl)
    subst this
    simp [elemsD]
  | n + 1, ds, hl, hc => by
    rw [Nat.add_mul, Nat.one_mul] at hl
    have ih := elemsD_flat agg size h0 hag n (ds.drop size) (by rw [List.length_drop]; omega) (by rw [List.all_eq_true] at hc ⊢; exact fun x hx => hc x (List.mem_of_mem_drop hx))
    have hhead : (bif agg then D.agg (ds.take size) else ds.headD .nilp).cells = ds.take size := by
      cases agg with
      | true => rfl
      | false =>
        have h1 : size = 1 := by
          rcases hag with h | h
          · cases h
          · exact h
        subst h1
        cases ds with
        | nil => simp at hl
        | cons x ds =>
          simp only [List.all_cons, Bool.and_eq_true] at hc
          have : x.cells = [x] := by cases x <;> first | rfl | (simp [D.cell] at hc)
          simp [this]
    refine ⟨?_, ?_, ?_⟩
    · simp only [elemsD, List.flatMap_cons, hhead, ih.1, List.take_append_drop]
    · intro x hx
      simp only [elemsD, List.mem_cons] at hx
      rcases hx with h | h
      · rw [h, hhead, List.length_take]; omega
      · exact ih.2.1 x h
    · simp [elemsD, ih.2.2]

theorem evalBuildSlice_sound (hT : TabOk P T) (hw : ConcW E γ own ob tk w) {t : TypeId} {n : Nat} {parts : List (Nat × PV)} {vparts : Array (Nat × Value)} {v : PV} (hl : parts.length = vparts.toList.length)
    (hp : ∀ (i : Nat) (p : Nat × PV) (q : Nat × Value), parts[i]? = some p → vparts.toList[i]? = some q → p.1 = q.1 ∧ Rep γ p.2 q.2) (h : evalBuildSlice T t n parts = some (true, v)) :
    ∃ γ' u w', (Instr.buildSlice t n vparts).run P w = .ok u w' ∧ GhLe γ γ' ∧ Rep γ' v u ∧ ConcW E γ' own ob tk w' := by
  unfold evalBuildSlice at h
  split at h
  · rename_i e z es ht
    obtain ⟨inf, dd, hinf, hdd, _, _, _, hk, _⟩ := hT.facts ht
    cases dd <;> simp only [TK.of, reduceCtorEq, TK.slice.injEq] at hk
    rename_i e
    subst hk
    split at h
    · rename_i te hte
      obtain ⟨i, d', hi, hd', hz, hsz, hby, hk', _⟩ := hT.facts hte
      split at h
      · rename_i cells hf
        split at h
        · rename_i ds hds
          simp only [Option.some.injEq, Prod.mk.injEq, Bool.and_eq_true, Bool.not_eq_true', Bool.or_eq_true] at h
          obtain ⟨⟨⟨⟨⟨⟨hs0, hz1⟩, hz2⟩, hle⟩, hag⟩, hdc⟩, rfl⟩ := h
          have hpos : 0 < te.size := by
            rcases Nat.eq_zero_or_pos te.size with h | h
            · rw [h] at hs0; simp at hs0
            · exact h
          have hle' := Nat.le_of_ble_eq_true hle
          obtain ⟨hr, h1⟩ := made_rep (γ := γ) hz1 hz2 hpos n
          obtain ⟨us, hu, h2, h3, h4⟩ := fillP_sound (fun i => some (i * te.size, te.size)) hl hp hr h1 hf
          obtain ⟨γ', hgle, hK, hw'⟩ := hw.newImm us.toArray (by simpa using h3) e
          have hdr := (RepL.toDs h2 hds).mono hgle.K
          have hdl : ds.length = n * te.size := by rw [hdr.1, h4]; simp [madeCells]
          have hag' : te.k.agg = true ∨ te.size = 1 := hag.imp id Nat.eq_of_beq_eq_true
          obtain ⟨hfl, hel, hen⟩ := elemsD_flat te.k.agg te.size hpos hag' n ds hdl hdc
          have hzs := zero_size hz1 hz2
          refine ⟨γ', .slice (some ⟨w.heap.size, 0, none⟩) n n, w.alloc (.cells us.toArray e), ?_, hgle, .own ?_ (.inr ⟨_, _, rfl⟩), hw'⟩
          · have hno : ¬ n * te.size > 2 ^ 24 := by omega
            have hu' : Instr.fill (fun i => some (i * te.size, te.size)) (madeCells te.zero.cells (n * te.size)) vparts.toList = some us.toArray := by simpa using hu
            simp only [Instr.buildSlice, Sem.run_bind, run_underlying hdd, Result.andThen_ok, run_sizeOf hi, hsz]
            rw [if_neg hno]
            by_cases h0 : n * te.size = 0
            · rw [if_pos h0]
              have hc : (Array.range (n * te.size)).map (fun x => (#[] : Array Value)[x % (#[] : Array Value).size]!) = madeCells te.zero.cells (n * te.size) := by
                rw [h0]; simp [madeCells]
              simp only [Sem.run_bind, Sem.run_pure, Result.andThen_ok, hc, hu']
              simp [newRow]
            · rw [if_neg h0]
              have hc : (Array.range (n * te.size)).map (fun x => te.zero.cells[x % te.zero.cells.size]!) = madeCells te.zero.cells (n * te.size) := rfl
              simp only [Sem.run_bind, run_zeroValue hi hz, Sem.run_pure, Result.andThen_ok, hc, hu']
              simp [newRow]
          · have key := RepD.of_flat (K := γ'.K) (sz := te.size) (xs := elemsD te.k.agg te.size n ds) hel (b := w.heap.size) (o := 0) (c := n) (by rw [hen]; exact Nat.le_refl _) (vals := us)
              (fun j u hj => by rw [hK]; simpa using hj) (by rw [hfl]; exact hdr) h3
            rw [hen] at key
            exact key
        · cases h
      · cases h
    · cases h
  · cases h

end Go.PS

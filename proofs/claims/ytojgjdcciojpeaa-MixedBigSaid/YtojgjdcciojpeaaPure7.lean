/-
  Every operation of the pure layer stands for the model's own: addresses, slices, loads.
-/
import Derived.Test.YtojgjdcciojpeaaPure6
namespace Go.PS
open Go Go.RowKit

variable {P : Program} {T : Nat → Option TI}

theorem addr_add (b o n : Nat) : (⟨b, o, none⟩ : Addr).add n = ⟨b, o + n, none⟩ := by
  unfold Addr.add
  split
  · rename_i h; subst h; rfl
  · rfl

theorem rep_ref_drop {γ : Gh} {cs : List D} {b o : Nat} {f : Nat → Value} (hk : ∀ (j : Nat) (d : D), cs[j]? = some d → γ.K b (o + j) = some (f j))
    (h1 : ∀ (j : Nat) (d : D), cs[j]? = some d → (f j).oneCell' = true) (hr : ∀ (j : Nat) (d : D), cs[j]? = some d → RepD γ.K d (f j)) (off : Nat) :
    Rep γ (.d (.ref (cs.drop off))) (.pointer (some ⟨b, o + off, none⟩)) := by
  refine .d (.ref _ b (o + off) (fun j => f (off + j)) ?_ ?_ ?_)
  · intro j d hj; rw [List.getElem?_drop] at hj; have := hk _ d hj; rwa [← Nat.add_assoc] at this
  · intro j d hj; rw [List.getElem?_drop] at hj; exact h1 _ d hj
  · intro j d hj; rw [List.getElem?_drop] at hj; exact hr _ d hj

theorem evalFieldAddr_sound (hT : TabOk P T) {γ : Gh} (w : World) {s : TypeId} {x : PV} {xv : Value} {f : Nat} {v : PV} (hx : Rep γ x xv) (h : evalFieldAddr T s x f = some (true, v)) : ValOk P γ w (Instr.fieldAt s xv f) v := by
  unfold evalFieldAddr at h
  split at h
  · rename_i fs z e hs
    split at h
    · rename_i off t hf
      split at h
      · rename_i ti ht
        obtain ⟨i, d, hi, hd, _, _, _, hk, _⟩ := hT.facts hs
        obtain ⟨i', d', hi', hd', _, hsz, _, hk', _⟩ := hT.facts ht
        cases d <;> simp only [TK.of, reduceCtorEq, TK.struct.injEq] at hk
        rename_i fields
        rw [← hk] at hf
        simp only [List.getElem?_map, Option.map_eq_some_iff, Prod.mk.injEq] at hf
        obtain ⟨fd, hfd, rfl, rfl⟩ := hf
        have hfd' : fields[f]? = some fd := by simpa using hfd
        have run : ∀ b o, ti.size ≠ 0 → (Instr.fieldAt s (.pointer (some ⟨b, o, none⟩)) f).run P w = .ok (.pointer (some ⟨b, o + fd.offset, none⟩)) w := by
          intro b o hne
          simp [Instr.fieldAt, run_underlying hd, hfd', Instr.sureAddr, fieldPlace, run_sizeOf hi', hsz, hne, addr_add]
        split at h
        · rename_i id k o
          simp only [Option.some.injEq, Prod.mk.injEq, Bool.not_eq_true'] at h
          obtain ⟨h0, rfl⟩ := h
          have hne : ti.size ≠ 0 := fun e => by rw [e] at h0; simp at h0
          obtain ⟨blk, sz, hm, rfl⟩ := rep_hp hx
          refine ⟨_, run _ _ hne, ?_⟩
          rw [Nat.add_assoc]
          exact .hp hm
        · rename_i cs
          simp only [Option.some.injEq, Prod.mk.injEq, Bool.not_eq_true'] at h
          obtain ⟨h0, rfl⟩ := h
          have hne : ti.size ≠ 0 := fun e => by rw [e] at h0; simp at h0
          obtain ⟨b, o, g, rfl, hk1, h1, hr⟩ := rep_ref hx
          exact ⟨_, run _ _ hne, rep_ref_drop hk1 h1 hr _⟩
        · cases h
      · cases h
    · cases h
  · cases h

theorem rep_elem {γ : Gh} {sz : Nat} {xs : List D} {v : Value} (h : RepD γ.K (.sl sz xs) v) {n : Nat} (hn : n < xs.length) :
    ∃ b o c, v = .slice (some ⟨b, o, none⟩) xs.length c ∧ Rep γ (.d (.ref (xs.getD n .nilp).cells)) (.pointer (some ⟨b, o + n * sz, none⟩)) := by
  cases h with
  | sl _ _ a c b o f hc ha hs hk h1 hr =>
    have hne : xs ≠ [] := fun e => by subst e; simp at hn
    have hx : xs[n]? = some (xs.getD n .nilp) := by simp [List.getD, hn]
    exact ⟨b, o, c, by rw [ha hne], .d (.ref _ b (o + n * sz) (fun j => f n j) (fun j d hd => hk n j _ d hx hd) (fun j d hd => h1 n j _ d hx hd) (fun j d hd => hr n j _ d hx hd))⟩

theorem evalIndexAddr_sound (hT : TabOk P T) {γ : Gh} (w : World) {t : TypeId} {x i : PV} {xv iv : Value} {v : PV} (hx : Rep γ x xv) (hi : Rep γ i iv) (h : evalIndexAddr T t x i = some (true, v)) : ValOk P γ w (Instr.indexAt t xv iv) v := by
  unfold evalIndexAddr at h
  split at h
  · rename_i e z es k n ht
    obtain ⟨inf, d, hinf, hd, _, _, _, hk, _⟩ := hT.facts ht
    cases d <;> simp only [TK.of, reduceCtorEq, TK.slice.injEq] at hk
    subst hk
    rw [rep_int hi]
    split at h
    · rename_i te hte
      obtain ⟨i', d', hi', hd', _, hsz, _, _, _⟩ := hT.facts hte
      have run : ∀ (b o len cap : Nat), 0 ≤ n → n < (len : Int) → (Instr.indexAt t (.slice (some ⟨b, o, none⟩) len cap) (.int k n)).run P w = .ok (.pointer (some ⟨b, o + n.toNat * te.size, none⟩)) w := by
        intro b o len cap h0 h1
        simp [Instr.indexAt, asIntOf, run_underlying hd, h0, h1, run_sizeOf hi', hsz, addr_add]
      split at h
      · rename_i id sz lo len cap
        simp only [Option.some.injEq, Prod.mk.injEq, Bool.and_eq_true, decide_eq_true_eq] at h
        obtain ⟨⟨⟨h0, h1⟩, h2⟩, rfl⟩ := h
        have hse := Nat.eq_of_beq_eq_true h0
        subst hse
        cases hx with
        | hrow hm =>
          refine ⟨_, run _ _ _ _ h1 h2, ?_⟩
          have := Rep.hp (γ := γ) (i := lo + n.toNat) (off := 0) hm
          rw [Nat.add_mul, Nat.add_zero] at this
          exact this
      · split at h
        · rename_i sz xs hsl
          simp only [Option.some.injEq, Prod.mk.injEq, Bool.and_eq_true, decide_eq_true_eq] at h
          obtain ⟨⟨⟨h0, h1⟩, h2⟩, rfl⟩ := h
          have hse := Nat.eq_of_beq_eq_true h0
          subst hse
          obtain ⟨b, o, c, rfl, hr⟩ := rep_elem (asSl_rep hx hsl) (n := n.toNat) (by omega)
          exact ⟨_, run _ _ _ _ h1 h2, hr⟩
        · cases h
    · cases h
  · rename_i m e z es k n ht
    obtain ⟨inf, d, hinf, hd, _, _, _, hk, _⟩ := hT.facts ht
    cases d <;> simp only [TK.of, reduceCtorEq, TK.array.injEq] at hk
    rename_i len' elem'
    obtain ⟨hk1, hk2⟩ := hk
    subst hk1; subst hk2
    rw [rep_int hi]
    split at h
    · rename_i te hte
      obtain ⟨i', d', hi', hd', _, hsz, _, _, _⟩ := hT.facts hte
      have run : ∀ (b o : Nat), 0 ≤ n → n < (len' : Int) → (Instr.indexAt t (.pointer (some ⟨b, o, none⟩)) (.int k n)).run P w = .ok (.pointer (some ⟨b, o + n.toNat * te.size, none⟩)) w := by
        intro b o h0 h1
        simp [Instr.indexAt, asIntOf, run_underlying hd, Instr.sureAddr, h0, h1, run_sizeOf hi', hsz, addr_add]
      split at h
      · simp only [Option.some.injEq, Prod.mk.injEq, Bool.and_eq_true, decide_eq_true_eq] at h
        obtain ⟨⟨h1, h2⟩, rfl⟩ := h
        obtain ⟨blk, sz, hm, rfl⟩ := rep_hp hx
        refine ⟨_, run _ _ h1 h2, ?_⟩
        rw [Nat.add_assoc]
        exact .hp hm
      · simp only [Option.some.injEq, Prod.mk.injEq, Bool.and_eq_true, decide_eq_true_eq] at h
        obtain ⟨⟨h1, h2⟩, rfl⟩ := h
        obtain ⟨b, o, g, rfl, hk1, hc1, hr⟩ := rep_ref hx
        exact ⟨_, run _ _ h1 h2, rep_ref_drop hk1 hc1 hr _⟩
      · cases h
    · cases h
  · cases h

theorem evalIndex_sound (hT : TabOk P T) {γ : Gh} (w : World) {t : TypeId} {x i : PV} {xv iv : Value} {v : PV} (hx : Rep γ x xv) (hi : Rep γ i iv) (h : evalIndex T t x i = some (true, v)) : ValOk P γ w (Instr.index t xv iv) v := by
  unfold evalIndex at h
  split at h
  · rename_i z es k n ht
    obtain ⟨inf, d, hinf, hd, _, _, _, hk, _⟩ := hT.facts ht
    cases d <;> simp only [TK.of, reduceCtorEq] at hk
    rw [rep_int hi]
    split at h
    · rename_i l
      simp only [Option.some.injEq, Prod.mk.injEq, Bool.and_eq_true, decide_eq_true_eq] at h
      obtain ⟨⟨h1, h2⟩, rfl⟩ := h
      rw [rep_str hx]
      have hlt : n.toNat < l.length := by omega
      have hg : (ByteArray.mk l.toArray)[n.toNat]? = some (l.getD n.toNat 0) := by
        have h3 : n.toNat < (ByteArray.mk l.toArray).size := by simpa [ByteArray.size] using hlt
        rw [getElem?_pos (ByteArray.mk l.toArray) n.toNat h3]
        simp [List.getD, hlt, ByteArray.getElem_eq_getElem_data]
      refine ⟨.int .u8 ((l.getD n.toNat 0).toNat : Int), ?_, .d (.int _ _)⟩
      simp only [Instr.index, asIntOf, Sem.run_bind, Sem.run_pure, Result.andThen_ok, run_underlying hd, h1, if_true, hg]
    · cases h
  · rename_i m e z es k n ht
    obtain ⟨inf, d, hinf, hd, _, _, _, hk, _⟩ := hT.facts ht
    cases d <;> simp only [TK.of, reduceCtorEq, TK.array.injEq] at hk
    rename_i len' elem'
    obtain ⟨hk1, hk2⟩ := hk
    subst hk1; subst hk2
    rw [rep_int hi]
    split at h
    · rename_i te cs hte
      obtain ⟨i', d', hi', hd', _, hsz, _, hk', _⟩ := hT.facts hte
      simp only [Option.some.injEq, Prod.mk.injEq, Bool.and_eq_true, decide_eq_true_eq] at h
      obtain ⟨⟨⟨h1, h2⟩, h3⟩, rfl⟩ := h
      obtain ⟨vs, rfl, hr, hc1⟩ := Rep.agg_iff.1 hx
      obtain ⟨u, hu, hur⟩ := part_sound hT w hte hr hc1 (Nat.le_of_ble_eq_true h3)
      refine ⟨u, ?_, hur⟩
      simp [Instr.index, asIntOf, run_underlying hd, h1, h2, run_sizeOf hi', hsz, hu]
    · cases h
  · cases h

/-- What an object of the walk's own holds. -/
theorem obj_cells {M : Nat → Prop} {γ : Gh} {w : World} {blk : Nat} {o : OB} {cs : Array Value} (hok : ObjOk M γ w blk o cs) (hty : Nat.ble mapTag o.ty = false) {i : Nat} (hi : i < o.elems.length) :
    ∃ vs : List Value, RepL γ (o.elems.getD i .any).cells vs ∧ (∀ u ∈ vs, u.oneCell' = true) ∧ ∀ (j : Nat) (u : Value), vs[j]? = some u → w.cell? ⟨blk, i * o.sz + j, none⟩ = some u := by
  have hx : o.elems[i]? = some (o.elems.getD i .any) := by simp [List.getD, hi]
  have hsz := hok.size _ (List.mem_of_getElem? hx)
  have hfl := flatMap_len PV.cells o.sz o.elems hok.size
  have hcl : cs.toList.length = o.elems.length * o.sz := by rw [← hok.rep.1]; exact hfl
  have hle : i * o.sz + o.sz ≤ o.elems.length * o.sz := by rw [← Nat.succ_mul]; exact Nat.mul_le_mul_right _ hi
  have hget : ∀ j, j < o.sz → ((cs.toList.drop (i * o.sz)).take o.sz)[j]? = cs.toList[i * o.sz + j]? := fun j hj => by rw [List.getElem?_take, if_pos hj, List.getElem?_drop]
  refine ⟨(cs.toList.drop (i * o.sz)).take o.sz, ⟨?_, ?_⟩, fun u hu => hok.one u (List.mem_of_mem_drop (List.mem_of_mem_take hu)), ?_⟩
  · rw [List.length_take, List.length_drop, hcl, hsz]; omega
  · intro j c v hc hv
    have hj : j < o.sz := by rw [← hsz]; exact (List.getElem?_eq_some_iff.1 hc).1
    rw [hget j hj] at hv
    have := flatMap_get PV.cells o.sz o.elems hok.size i j hj
    rw [hx] at this
    exact hok.rep.2 _ c v (this.trans hc) hv
  · intro j u hu
    have hj : j < o.sz := by
      have := (List.getElem?_eq_some_iff.1 hu).1
      rw [List.length_take] at this; omega
    rw [hget j hj] at hu
    obtain ⟨spare, hheap⟩ := hok.heap
    rw [objOf_cells hty] at hheap
    have hlt : i * o.sz + j < cs.size := by have := (List.getElem?_eq_some_iff.1 hu).1; simpa using this
    simp only [World.cell?, hheap]
    simpa [Array.getElem?_append, hlt] using hu

theorem run_loadVar_cells (w : World) {t : TypeId} {ti : TI} (hT : TabOk P T) (ht : T t = some ti) {γ : Gh} {b o : Nat} {cs : List PV} {vs : List Value} (hr : RepL γ cs vs) (h1 : ∀ u ∈ vs, u.oneCell' = true)
    (hc : ∀ (j : Nat) (u : Value), vs[j]? = some u → w.cell? ⟨b, o + j, none⟩ = some u) (hle : (bif ti.k.agg then ti.size else 1) ≤ cs.length) :
    ValOk P γ w (loadVar t ⟨b, o, none⟩) (bif ti.k.agg then .agg (cs.take ti.size) else cs.getD 0 .any) := by
  obtain ⟨i, d, hi, hd, hz, hs, hb, hk, _⟩ := hT.facts ht
  unfold loadVar ValOk
  simp only [Sem.run_bind, run_isAgg hd, Result.andThen_ok, hk]
  cases ha : ti.k.agg with
  | true =>
    rw [ha] at hle
    simp only [cond_true] at hle ⊢
    have hlen : (vs.take ti.size).length = ti.size := by rw [List.length_take, ← hr.1]; omega
    have hl := run_loadCells_list (P := P) w ⟨b, o, none⟩ (vs.take ti.size) (fun j v hv => by
      rw [addr_add]
      rw [List.getElem?_take] at hv
      split at hv
      · exact hc j v hv
      · cases hv)
    rw [hlen] at hl
    simp only [if_true, Sem.run_bind, run_sizeOf hi, Result.andThen_ok, hs, hl, Sem.run_pure]
    refine ⟨_, rfl, Rep.agg_iff.2 ⟨vs.take ti.size, rfl, ⟨by simp [hr.1], ?_⟩, fun u hu => h1 u (List.mem_of_mem_take hu)⟩⟩
    intro i c v hc hv
    rw [List.getElem?_take] at hc hv
    split at hc
    · rename_i h; rw [if_pos h] at hv; exact hr.2 _ c v hc hv
    · cases hc
  | false =>
    rw [ha] at hle
    simp only [cond_false] at hle ⊢
    have hcl : 0 < cs.length := by omega
    have hvl : 0 < vs.length := by rw [← hr.1]; exact hcl
    have := hc 0 vs[0] (List.getElem?_eq_getElem hvl)
    simp only [Nat.add_zero] at this
    simp only [Bool.false_eq_true, if_false, run_load, this]
    refine ⟨_, rfl, ?_⟩
    simp only [List.getD, List.getElem?_eq_getElem hcl, Option.getD_some]
    exact hr.2 0 _ _ (List.getElem?_eq_getElem hcl) (List.getElem?_eq_getElem hvl)

theorem RepL.drop {γ : Gh} {cs : List PV} {vs : List Value} (h : RepL γ cs vs) (n : Nat) : RepL γ (cs.drop n) (vs.drop n) :=
  ⟨by simp [h.1], fun i c v hc hv => by rw [List.getElem?_drop] at hc hv; exact h.2 _ c v hc hv⟩

theorem evalLoad_sound (hT : TabOk P T) {E : Env} {γ : Gh} {own ob tk} {w : World} (hw : ConcW E γ own ob tk w) {t : TypeId} {a : PV} {av : Value} {v : PV} (ha : Rep γ a av) (h : evalLoad T t a ob = some (true, v)) :
    ValOk P γ w (Instr.loadAt t av) v := by
  unfold evalLoad at h
  split at h
  · cases h
  · rename_i ti ht
    split at h
    · rename_i id i off
      split at h
      · rename_i o ho
        simp only [Option.some.injEq, Prod.mk.injEq, Bool.and_eq_true] at h
        obtain ⟨⟨⟨h0, h1⟩, h2⟩, rfl⟩ := h
        have hty : Nat.ble mapTag o.ty = false := by simpa [mapTag] using h0
        have hi := Nat.lt_of_lt_of_le (Nat.lt_succ_self _) (Nat.le_of_ble_eq_true (by simpa [Nat.blt] using h1))
        have hle := Nat.le_of_ble_eq_true h2
        obtain ⟨blk, cs, hm, hok⟩ := hw.obj id o ho
        obtain ⟨blk', sz', hm', rfl⟩ := rep_hp ha
        rw [hm] at hm'; cases hm'
        obtain ⟨vs, hr, hv1, hc⟩ := obj_cells hok hty hi
        have := run_loadVar_cells (P := P) w hT ht (b := blk) (o := i * o.sz + off) (hr.drop off) (fun u hu => hv1 u (List.mem_of_mem_drop hu))
          (fun j u hu => by rw [List.getElem?_drop] at hu; have := hc _ u hu; rwa [← Nat.add_assoc] at this) (by rw [List.length_drop]; omega)
        obtain ⟨u, hu, hur⟩ := this
        refine ⟨u, by simp [Instr.loadAt, Instr.sureAddr, hu], ?_⟩
        have e : subPV (o.elems.getD i .any) ti.k.agg off ti.size = (bif ti.k.agg then PV.agg (((o.elems.getD i .any).cells.drop off).take ti.size) else ((o.elems.getD i .any).cells.drop off).getD 0 .any) := by
          unfold subPV
          congr 1
          simp [List.getD]
        rw [e]
        exact hur
      · cases h
    · rename_i cs
      simp only [Option.some.injEq, Prod.mk.injEq] at h
      obtain ⟨h1, rfl⟩ := h
      have hle := Nat.le_of_ble_eq_true h1
      obtain ⟨b, o, f, rfl, hk, hc1, hr⟩ := rep_ref ha
      have hrl : RepL γ (cs.map .d) ((List.range cs.length).map f) := ⟨by simp, fun j c v hc hv => by
        simp only [List.getElem?_map, Option.map_eq_some_iff] at hc hv
        obtain ⟨x, hx, rfl⟩ := hc
        obtain ⟨j', hj', rfl⟩ := hv
        have hj : j < cs.length := (List.getElem?_eq_some_iff.1 hx).1
        have : j' = j := by simpa [List.getElem?_range hj] using hj'.symm
        subst this
        exact .d (hr _ _ hx)⟩
      have hmem : ∀ (j : Nat) (u : Value), ((List.range cs.length).map f)[j]? = some u → ∃ d, cs[j]? = some d ∧ u = f j := by
        intro j u hu
        simp only [List.getElem?_map, Option.map_eq_some_iff] at hu
        obtain ⟨j', hj', rfl⟩ := hu
        have hj : j < cs.length := by
          rcases Nat.lt_or_ge j cs.length with hl | hl
          · exact hl
          · rw [List.getElem?_eq_none (by simpa using hl)] at hj'; cases hj'
        have : j' = j := by simpa [List.getElem?_range hj] using hj'.symm
        subst this
        exact ⟨_, List.getElem?_eq_getElem hj, rfl⟩
      have := run_loadVar_cells (P := P) w hT ht (b := b) (o := o) hrl (fun u hu => by
          obtain ⟨j, hj⟩ := List.mem_iff_getElem?.1 hu
          obtain ⟨d, hd, rfl⟩ := hmem j u hj
          exact hc1 _ _ hd)
        (fun j u hu => by obtain ⟨d, hd, rfl⟩ := hmem j u hu; exact (hw.ksub _ _ _ (hk _ _ hd)).cell (hc1 _ _ hd)) (by simpa using hle)
      obtain ⟨u, hu, hur⟩ := this
      refine ⟨u, by simp [Instr.loadAt, Instr.sureAddr, hu], ?_⟩
      have e : (bif ti.k.agg then PV.agg ((cs.take ti.size).map PV.d) else PV.d (cs.getD 0 .nilp)) = (bif ti.k.agg then PV.agg ((cs.map PV.d).take ti.size) else (cs.map PV.d).getD 0 .any) := by
        cases hag : ti.k.agg with
        | true => simp [List.map_take]
        | false =>
          rw [hag] at hle
          simp only [cond_false] at hle
          simp [List.getD, show 0 < cs.length by omega]
      rw [e]
      exact hur
    · cases h

end Go.PS

/-
  slices.Sorted(maps.Keys(m)) at a map from bytes that is not written any more: the keys, sorted. At most twelve keys.
-/
import Derived.Test.YtpdkccbongnboaaS8
import Derived.Test.YtpdkccbongnboaaS9
set_option linter.unusedSimpArgs false
set_option linter.unusedVariables false
namespace Go.Proofs.Ytpdkccbongnboaa
open Go Go.RowKit Go.Maps Go.Sort Go.Shelf Go.Proofs Go.PS Go.WideElems Go.MapKept

structure Ch where
  k : Int
  c : Int
  deriving DecidableEq, Inhabited
def Ch.d (c : Ch) : D := .agg [.int .u8 c.k, .int .i64 c.c]
def kvD (l : List Ch) : List D := (l.map Ch.d).flatMap D.cells
def kvV (l : List Ch) : List Value := l.flatMap fun c => [.int .u8 c.k, .int .i64 c.c]
def ents : Nat → List Ch → List MapEntry
  | _, [] => []
  | n, c :: l => ⟨.int .u8 c.k, .int .i64 c.c, n⟩ :: ents (n + 1) l

theorem kv_rep {K} : ∀ (l : List Ch) (vs : List Value), RepDL K (kvD l) vs → vs = kvV l
  | [], vs, h => List.eq_nil_of_length_eq_zero (by simpa [kvD] using h.1.symm)
  | c :: l, vs, h => by
    have e : kvD (c :: l) = .int .u8 c.k :: .int .i64 c.c :: kvD l := by simp [kvD, Ch.d, D.cells]
    rw [e] at h
    obtain ⟨a, vs1, rfl, ha, h1⟩ := h.cons_inv
    obtain ⟨b, vs2, rfl, hb, h2⟩ := h1.cons_inv
    cases ha; cases hb
    rw [kv_rep l vs2 h2]; rfl
theorem ents_of : ∀ (l : List Ch) (n : Nat), entriesOf n (kvV l) = ents n l
  | [], n => rfl
  | c :: l, n => by
    have e : kvV (c :: l) = .int .u8 c.k :: .int .i64 c.c :: kvV l := by simp [kvV]
    rw [e, entriesOf, ents_of l (n + 1)]; rfl
theorem ents_len : ∀ (l : List Ch) (n : Nat), (ents n l).length = l.length
  | [], n => rfl
  | c :: l, n => by simp [ents, ents_len l]
theorem ents_born : ∀ (l : List Ch) (n : Nat), (∀ x ∈ ents n l, n ≤ x.born ∧ x.born < n + l.length) ∧ ((ents n l).map (·.born)).Nodup
  | [], n => ⟨fun x h => (List.not_mem_nil h).elim, List.nodup_nil⟩
  | c :: l, n => by
    obtain ⟨h1, h2⟩ := ents_born l (n + 1)
    refine ⟨fun x hx => ?_, ?_⟩
    · rcases List.mem_cons.1 hx with rfl | hx
      · exact ⟨Nat.le_refl _, by simp⟩
      · have := h1 x hx; simp only [List.length_cons]; omega
    · simp only [ents, List.map_cons, List.nodup_cons]
      refine ⟨fun h => ?_, h2⟩
      obtain ⟨y, hy, e⟩ := List.mem_map.1 h
      have := (h1 y hy).1
      omega
theorem ents_key : ∀ (l : List Ch) (n : Nat), (ents n l).map (·.key) = l.map (fun c => Value.int .u8 c.k)
  | [], n => rfl
  | c :: l, n => by simp [ents, ents_key l]
theorem ents_keys : ∀ (l : List Ch) (n : Nat), ∀ x ∈ ents n l, ∃ c ∈ l, x.key = .int .u8 c.k
  | [], n, x, h => (List.not_mem_nil h).elim
  | c :: l, n, x, h => by
    rcases List.mem_cons.1 h with rfl | h
    · exact ⟨c, by simp, rfl⟩
    · obtain ⟨c', h1, h2⟩ := ents_keys l (n + 1) x h
      exact ⟨c', by simp [h1], h2⟩
theorem ents_has : ∀ (l : List Ch) (n : Nat), ∀ c ∈ l, ∃ x ∈ ents n l, x.key = .int .u8 c.k
  | [], n, c, h => (List.not_mem_nil h).elim
  | c' :: l, n, c, h => by
    rcases List.mem_cons.1 h with rfl | h
    · exact ⟨_, List.mem_cons_self, rfl⟩
    · obtain ⟨x, h1, h2⟩ := ents_has l (n + 1) c h
      exact ⟨x, List.mem_cons_of_mem _ h1, h2⟩

theorem bD_flat : ∀ ss : List Int, (ss.map bD).flatMap D.cells = ss.map bD
  | [] => rfl
  | x :: r => by
    have := bD_flat r
    rw [List.map_cons, List.flatMap_cons, this]; rfl

/-- A value is not looked at. -/
def noVal (_ : Value) : Option (DataW Unit × List MemPlace) := some (.nil, [])
theorem rd_ent {x : MapEntry} {k : Int} (hk : 0 ≤ k ∧ k ≤ 255) (he : x.key = .int .u8 k) : rd Try.prog 5 noVal x = some (.int .u8 k, .nil) := by
  have hw : (Lit.int .u8 k).wf = true := by
    simp [Lit.wf, IntKind.min, IntKind.max, IntKind.signed, IntKind.bits]; omega
  simp only [rd, he, Maps.keyOf_int_mk Try.underlying5 hw, noVal, Option.bind_some, Option.map_some]
theorem rg_ent {x : MapEntry} {k : Int} (hk : 0 ≤ k ∧ k ≤ 255) (he : x.key = .int .u8 k) : rg Try.prog 5 noVal x = (.int .u8 k, .nil) := by
  simp [rg, rd_ent hk he]

def datOf (P : Program) (l : List Ch) : DataW Unit := .map (((ents 0 l).map (rg P 5 noVal)).foldr DataW.insert [])
theorem owns_map {w : World} {mb : Nat} {l : List Ch} (hl : l.length ≤ 12) (hk : ∀ c ∈ l, 0 ≤ c.k ∧ c.k ≤ 255) (hnd : (l.map (·.k)).Nodup) (hb : w.heap[mb]? = some (mapObj (kvV l))) : w.ownsMap Try.prog 5 noVal mb l.length (datOf Try.prog l) := by
  refine ⟨(ents 0 l).toArray, (ents 0 l).length, by rw [hb, mapObj, ents_of], ⟨by simp [ents_len, maxLen]; omega, ⟨fun x hx => ?_, ?_, ?_⟩, fun x hx => ?_⟩, by simp [ents_len], by simp [datOf]⟩
  · have := (ents_born l 0).1 x (by simpa using hx); rw [ents_len]; omega
  · simpa using (ents_born l 0).2
  · simp only [ents_key]
    have : l.map (fun c => Value.int .u8 c.k) = (l.map (·.k)).map (Value.int .u8) := by simp
    rw [this]
    exact List.pairwise_map.2 (hnd.imp fun {a b} h e => h (by simpa using e))
  · obtain ⟨c, hc, he⟩ := ents_keys l 0 x (by simpa using hx)
    exact ⟨_, rd_ent (hk c hc) he⟩
theorem size_dat (l : List Ch) : Maps.size (datOf Try.prog l) = l.length := by
  simp only [datOf, Maps.size_eq]
  have := (WideShapes.sorted_perm ((ents 0 l).map (rg Try.prog 5 noVal))).length_eq
  rw [this, List.length_map, ents_len]
theorem has_dat {l : List Ch} (hk : ∀ c ∈ l, 0 ≤ c.k ∧ c.k ≤ 255) (x : Int) : Maps.has (datOf Try.prog l) (.int .u8 x) = true ↔ x ∈ l.map (·.k) := by
  simp only [datOf, Maps.has_eq, List.any_eq_true]
  constructor
  · rintro ⟨p, hp, hs⟩
    obtain ⟨e, he, rfl⟩ := List.mem_map.1 ((WideShapes.sorted_perm _).mem_iff.1 hp)
    obtain ⟨c, hc, hkc⟩ := ents_keys l 0 e he
    rw [rg_ent (hk c hc) hkc] at hs
    have : c.k = x := by simpa [Lit.sameKey] using hs
    exact List.mem_map.2 ⟨c, hc, this⟩
  · intro hx
    obtain ⟨c, hc, rfl⟩ := List.mem_map.1 hx
    obtain ⟨e, he, hke⟩ := ents_has l 0 c hc
    exact ⟨_, (WideShapes.sorted_perm _).mem_iff.2 (List.mem_map.2 ⟨e, he, rfl⟩), by rw [rg_ent (hk c hc) hke]; simp [Lit.sameKey]⟩

theorem came_perm {l : List Ch} (hk : ∀ c ∈ l, 0 ≤ c.k ∧ c.k ≤ 255) (hnd : (l.map (·.k)).Nodup) {ss : List Int} (h : Came (datOf Try.prog l) (fun _ => false) ss) : ss.Perm (l.map (·.k)) :=
  (List.perm_ext_iff_of_nodup h.1 hnd).2 fun x => by rw [h.2 x, has_dat hk]; simp

set_option maxHeartbeats 1000000 in
theorem sorted24 (l : List Ch) (hne : l ≠ []) (hl : l.length ≤ 12) (hk : ∀ c ∈ l, 0 ≤ c.k ∧ c.k ≤ 255) (hnd : (l.map (·.k)).Nodup) :
    PCall Try.prog 24 [.fn (.func 36) [] [.ref [.map (kvD l)]]] (.sl 1 ((sortK (l.map (·.k))).map bD)) := by
  refine ⟨⟨Try.f24, Try.func24, rfl, rfl⟩, fun K w vs hK hv => ?_⟩
  obtain ⟨fv, vs', rfl, hf, hv'⟩ := hv.cons_inv
  have : vs' = [] := List.eq_nil_of_length_eq_zero (by simpa using hv'.1.symm)
  subst this
  cases hf with
  | fn _ _ _ vf vc hlf hlc hff hcc =>
  have : vf = [] := List.eq_nil_of_length_eq_zero (by simpa using hlf.symm)
  subst this
  match vc, hlc with
  | [u], _ =>
  have hu := hcc 0 _ u rfl rfl
  cases hu with
  | ref _ b o f hkk h1 hr =>
  have hc0 := (hK _ _ _ (hkk 0 _ rfl)).cell (h1 0 _ rfl)
  have hr0 := hr 0 _ rfl
  rw [Nat.add_zero] at hc0
  generalize f 0 = u0 at hc0 hr0
  cases hr0 with
  | map _ mb mvs hkm hlm hrm =>
  have hmv := kv_rep l mvs ⟨hlm, hrm⟩
  subst hmv
  have hheap : w.heap[mb]? = some (mapObj (kvV l)) := by
    have := hK _ _ _ hkm
    simpa [Held] using this
  have hown := owns_map hl hk hnd hheap
  have hBm : b < w.heap.size := World.block_lt_of_cell? w _ hc0
  have hcol : Calls Try.prog 34 #[.func (.func 36) #[] #[.pointer (some ⟨b, o, none⟩)]] w _ := (callsIn_wide (n := 6)).1 (collect34 Fence.wide 6 trivial trivial trivial rfl (by omega) b o mb l.length (datOf Try.prog l) (by rw [size_dat]; omega) w hBm hc0 hown)
  -- what the sort does to the row
  have hsort : ∀ (ss : List Int) (g cap : Nat) (cur : Array Value) (w1 : World), ss.Perm (l.map (·.k)) → Below w.heap.size w w1 → w.heap.size ≤ g → w1.heap[g]? = some (.cells cur 5 (0, 0)) → ss.length ≤ cap → cur.toList.take (ss.length * 1) = ss.map uB →
      Calls Try.prog 35 #[.slice (some ⟨g, 0, none⟩) ss.length cap] w1 fun e w2 => e = .returned (.tuple #[]) ∧ ∃ K', RepD K' (.sl 1 ((sortK (l.map (·.k))).map bD)) (.slice (some ⟨g, 0, none⟩) ss.length cap) ∧ KLe K K' ∧ KSub K' w2 ∧ Below w.heap.size w w2 ∧ ∀ b' o', K' b' o' ≠ K b' o' → w.heap.size ≤ b' := by
    intro ss g cap cur w1 hperm hb1 hg hcur hcap htk
    have hssl : ss.length = l.length := by rw [hperm.length_eq, List.length_map]
    have hK1 : KSub K w1 := fun b' o' v' hk' => by
      have h0 := hK b' o' v' hk'
      exact h0.block (hb1.block b' h0.lt)
    have hsc := (sort35 ss (by omega)).2 K (fun id => if id = 5000 then some (g, 1) else none) w1 [.slice (some ⟨g, 0, none⟩) ss.length cap] hK1
      (fun id hno => if_neg fun e => hno (bPO ss) (by simp) e.symm)
      (fun q hq => by
        simp only [List.mem_singleton] at hq
        subst hq
        refine ⟨⟨g, 1, (ss.map uB).toArray, (cur.toList.drop (ss.length * 1)).toArray, if_pos rfl, ?_, ?_, ?_, fun off => ?_⟩, g, if_pos rfl⟩
        · rw [hcur]
          show some _ = some (objOf 5 _ _)
          rw [objOf_cells (ty := 5) rfl]
          congr 2
          apply Array.ext'
          rw [Array.toList_append]
          have := List.take_append_drop (ss.length * 1) cur.toList
          rw [htk] at this
          simpa using this.symm
        · have e : (bPO ss).elems.flatMap D.cells = ss.map bD := bD_flat ss
          rw [e]
          refine ⟨by simp, fun i d v hd hv => ?_⟩
          simp only [List.getElem?_map, Option.map_eq_some_iff] at hd hv
          obtain ⟨x, hx, rfl⟩ := hd
          obtain ⟨y, hy, rfl⟩ := hv
          rw [hx] at hy; cases hy
          exact .int _ _
        · intro v hv
          have hv' : v ∈ ss.map uB := by simpa using hv
          obtain ⟨x, _, rfl⟩ := List.mem_map.1 hv'
          rfl
        · cases hkg : K g off with
          | none => rfl
          | some v => have := (hK _ _ _ hkg).lt; omega)
      (fun i j b' s t hi hj => by
        by_cases h1 : i = 5000 <;> by_cases h2 : j = 5000 <;> simp_all)
      (.cons (by
        have := Rep.hrow (γ := ⟨K, fun id => if id = 5000 then some (g, 1) else none, fun _ => none⟩) (id := 5000) (sz := 1) (lo := 0) (len := ss.length) (cap := ss.length) (c := cap) (blk := g) (by show (if (5000 : Nat) = 5000 then some (g, 1) else none) = _; rw [if_pos rfl]) hcap hcap
        simpa [MA.pv] using this) .nil)
    refine hsc.mono fun e w2 ⟨v, K', he, hr, hle, hsub, hbm, hnew, hpost⟩ => ?_
    obtain ⟨rvs, rfl, hrl⟩ := RepD.tup_iff.1 hr
    have : rvs = [] := List.eq_nil_of_length_eq_zero (by simpa using hrl.1.symm)
    subst this
    obtain ⟨blk, s, cs, spare, hm, hheap2, hrep, hone, hfree⟩ := hpost _ (List.mem_singleton.2 rfl)
    have hm' : (if (5000 : Nat) = 5000 then some (g, 1) else none) = some (blk, s) := hm
    rw [if_pos rfl] at hm'
    cases hm'
    have hheap3 : w2.heap[g]? = some (.cells (cs ++ spare) 5 (0, 0)) := by rw [hheap2]; exact congrArg some (objOf_cells (ty := 5) rfl _ _)
    have hle2 : KLe K' (kadd K' g cs.toList) := kadd_le fun off v hv => by rw [hfree] at hv; cases hv
    have hbb : Below w.heap.size w w2 := hb1.trans ⟨hbm.os, hbm.tape, hbm.output, hbm.size, fun k hk => hbm.block k (by have := hb1.size; omega) fun ⟨id, s, hid⟩ => by
      have hid' : (if id = 5000 then some (g, 1) else none) = some (k, s) := hid
      split at hid'
      · cases hid'; omega
      · cases hid'⟩
    refine ⟨he, kadd K' g cs.toList, ?_, hle.trans hle2, ?_, hbb, ?_⟩
    · have hlen : (sortK (l.map (·.k))).length = ss.length := by rw [(sortK_perm _).length_eq, hperm.length_eq]
      have e1 : isort ltI ss.length ss 1 = sortK (l.map (·.k)) := sortK_of_perm hperm
      have hrep2 : RepDL (kadd K' g cs.toList) ((sortK (l.map (·.k))).map bD |>.flatMap D.cells) cs.toList := by
        have := hrep.mono hle2
        show RepDL _ (((sortK (l.map (·.k))).map bD).flatMap D.cells) _
        rw [← e1]; exact this
      have key := RepD.of_flat (K := kadd K' g cs.toList) (sz := 1) (xs := (sortK (l.map (·.k))).map bD) (b := g) (o := 0) (c := cap) (vals := cs.toList)
        (fun x hx => by obtain ⟨y, _, rfl⟩ := List.mem_map.1 hx; rfl) (by rw [List.length_map, hlen]; exact hcap)
        (fun j u hu => by simp [kadd, hu]) hrep2 hone
      rw [List.length_map, hlen] at key
      exact key
    · intro b' o' v hv
      by_cases hb' : b' = g
      · subst hb'
        simp only [kadd, if_true] at hv
        refine Held.of_cell ?_ (hone v (List.mem_of_getElem? hv))
        have hlt : o' < cs.size := by have := (List.getElem?_eq_some_iff.1 hv).1; simpa using this
        simp only [World.cell?, hheap3]
        simpa [Array.getElem?_append, hlt] using hv
      · simp only [kadd, hb', if_false] at hv
        exact hsub _ _ _ hv
    · intro b' o' hne'
      by_cases hb' : b' = g
      · subst hb'; exact hg
      · simp only [kadd, hb', if_false] at hne'
        have := hnew b' o' hne'
        have := hb1.size
        omega
  go_enter Try.func24, Try.ntmps24
  go_wp2_with (first
    | (go_at_call 34; refine hcol.mono ?_; rintro e w1 ⟨v1, ss, rfl, hC, hrow, hb1⟩
       have hperm := came_perm hk hnd hC
       have hpos : ss.length ≠ 0 := by
         have h9 := hperm.length_eq
         rw [List.length_map] at h9
         have := List.length_pos_iff.2 hne
         omega
       obtain ⟨g, cap, cur, rfl, hg, hcur, hcap, _, _, htk⟩ := hrow.2.resolve_left (fun h => hpos h.2)
       go_frame)
    | (go_at_call 35; refine (hsort ss _ _ _ _ hperm hb1 hg hcur hcap htk).mono ?_; rintro e w2 ⟨rfl, hfin⟩))
  go_ret
  obtain ⟨K', f1, f2, f3, f4, f5⟩ := hfin
  exact ⟨_, K', rfl, f1, f2, f3, f4, f5⟩
end Go.Proofs.Ytpdkccbongnboaa

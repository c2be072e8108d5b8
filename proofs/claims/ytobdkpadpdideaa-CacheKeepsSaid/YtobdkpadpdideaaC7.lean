/-
  A part of the walks of this seat: each theorem says what a function of the program gives. No condition beyond its own premises.
-/
import Derived.Test.YtobdkpadpdideaaC6
set_option linter.unusedSimpArgs false
set_option linter.unusedVariables false
namespace Go.Proofs.Ytobdkpadpdideaa
open Go Go.PS

/-- What a cache of the laws keeps to. -/
structure Inv (room : Int) (l : List Entry) : Prop where
  lo : 0 ≤ room
  hi : room ≤ 40
  nd : (l.map Entry.k).Nodup
  sum : sumW l ≤ room
  len : ∀ e ∈ l, e.k.length = 1 ∧ e.v.length ≤ 131

theorem ent_len (x : Raw) : (ent x).k.length = 1 ∧ (ent x).v.length ≤ 131 := by
  have h1 : x.key % 6 < 6 := Nat.mod_lt _ (by omega)
  have h2 : x.val % 26 < 26 := Nat.mod_lt _ (by omega)
  have h3 : x.val % 61 < 61 := Nat.mod_lt _ (by omega)
  have hl : letters.length = 26 := rfl
  refine ⟨by simp only [ent, keyOf, List.length_take, List.length_drop, hl]; omega, ?_⟩
  simp only [ent, valOf, List.length_append, List.length_replicate, List.length_take, List.length_drop]
  split <;> omega
theorem len_bd {l : List Entry} (h : ∀ e ∈ l, e.k.length = 1 ∧ e.v.length ≤ 131) : ∀ e ∈ l, e.k.length ≤ 1000 ∧ e.v.length ≤ 1000 := fun e he => by have := h e he; omega
theorem Inv.n {room : Int} {l : List Entry} (h : Inv room l) : l.length ≤ 40 := by
  have := sumW_bd (len_bd h.len); have := h.sum; have := h.hi; omega
theorem Inv.sm {room : Int} {l : List Entry} (h : Inv room l) : Sm l := ⟨by have := h.n; omega, len_bd h.len⟩
theorem Inv.dist {room : Int} {l : List Entry} (h : Inv room l) : Dist l := fun i j hi hj he => by
  have := List.nodup_iff_pairwise_ne.1 h.nd
  rw [List.pairwise_iff_getElem] at this
  have := this j i (by simp; omega) (by simpa using hi) hj
  simp at this
  exact this he.symm

theorem fit_pre (room : Int) : ∀ (l : List Entry) (s : Int), ∃ k, fit room s l = l.take k := by
  intro l
  induction l with
  | nil => exact fun s => ⟨0, rfl⟩
  | cons e l ih =>
    intro s
    rw [fit]
    split
    · obtain ⟨k, hk⟩ := ih (s + wt e.k e.v)
      exact ⟨k + 1, by rw [hk]; rfl⟩
    · exact ⟨0, rfl⟩
theorem fit_sum (room : Int) : ∀ (l : List Entry) (s : Int), s ≤ room → s + sumW (fit room s l) ≤ room := by
  intro l
  induction l with
  | nil => intro s h; simpa [fit, sumW] using h
  | cons e l ih =>
    intro s h
    rw [fit]
    split
    · rename_i h'
      have := ih _ h'
      simp only [sumW]; omega
    · simpa [sumW] using h
theorem fit_all (room : Int) : ∀ (l : List Entry) (s : Int), (∀ e ∈ l, 0 ≤ wt e.k e.v) → s + sumW l ≤ room → fit room s l = l := by
  intro l
  induction l with
  | nil => intro s _ h; rfl
  | cons e l ih =>
    intro s hp h
    simp only [sumW] at h
    have h0 : 0 ≤ sumW l := by
      clear ih h
      induction l with
      | nil => simp [sumW]
      | cons x l ih => have := hp x (by simp); have := ih fun y hy => hp y (by simp at hy ⊢; rcases hy with h | h <;> simp [h]); simp only [sumW]; omega
    rw [fit, if_pos (by omega), ih _ (fun x hx => hp x (by simp [hx])) (by omega)]
theorem wt_nn (k v : List UInt8) : 0 ≤ wt k v := by unfold wt; omega

theorem wo_id {l : List Entry} {key : List UInt8} (h : ∀ e ∈ l, e.k ≠ key) : wo l key = l := by
  unfold wo; rw [List.filter_eq_self]; intro e he; simpa using h e he
theorem wo_sum (l : List Entry) (key : List UInt8) : sumW (wo l key) ≤ sumW l := by
  induction l with
  | nil => simp [wo]
  | cons e l ih =>
    have := wt_nn e.k e.v
    by_cases h : e.k = key
    · have : wo (e :: l) key = wo l key := by simp [wo, h]
      rw [this]; simp only [sumW]; omega
    · have : wo (e :: l) key = e :: wo l key := by simp [wo, h]
      rw [this]; simp only [sumW]; omega
theorem wo_sub (l : List Entry) (key : List UInt8) : (wo l key).Sublist l := List.filter_sublist
theorem wo_key {l : List Entry} {key : List UInt8} : key ∉ (wo l key).map Entry.k := by
  simp [wo]
theorem posn_none_iff {l : List Entry} {key : List UInt8} (h : posn l key = none) : ∀ e ∈ l, e.k ≠ key := by
  unfold posn at h
  rw [List.findIdx?_eq_none_iff] at h
  intro e he; simpa using h e he
theorem erase_wo {l : List Entry} {key : List UInt8} (hn : (l.map Entry.k).Nodup) : ∀ {i}, posn l key = some i → l.eraseIdx i = wo l key ∧ sumW l = wt (l.getD i ⟨[], []⟩).k (l.getD i ⟨[], []⟩).v + sumW (wo l key) := by
  induction l with
  | nil => intro i h; simp [posn] at h
  | cons e l ih =>
    intro i h
    rw [List.map_cons, List.nodup_cons] at hn
    by_cases he : e.k = key
    · have hi : i = 0 := by
        simp [posn, List.findIdx?_cons, he] at h; exact h.symm
      subst hi
      have hw : wo l key = l := wo_id fun x hx hk => hn.1 (List.mem_map.2 ⟨x, hx, hk.trans he.symm⟩)
      have hw2 : wo (e :: l) key = l := by rw [← hw]; simp [wo, he]
      rw [hw2]
      exact ⟨rfl, rfl⟩
    · have hw : wo (e :: l) key = e :: wo l key := by simp [wo, he]
      have hp : ∃ j, posn l key = some j ∧ i = j + 1 := by
        simp only [posn, List.findIdx?_cons, he, decide_false] at h
        cases hq : posn l key with
        | none => unfold posn at hq; simp [hq] at h
        | some j => unfold posn at hq; exact ⟨j, rfl, by simpa [hq] using h.symm⟩
      obtain ⟨j, hj, rfl⟩ := hp
      obtain ⟨h1, h2⟩ := ih hn.2 hj
      rw [hw]
      refine ⟨by rw [List.eraseIdx_cons_succ, h1], ?_⟩
      simp only [sumW, List.getD_cons_succ]
      omega
theorem drop_wo {l : List Entry} {key : List UInt8} (hn : (l.map Entry.k).Nodup) : dropP l key = wo l key := by
  unfold dropP
  split
  · rename_i i h; exact (erase_wo hn h).1
  · rename_i h; exact (wo_id (posn_none_iff h)).symm

def putS (room : Int) (l : List Entry) (e : Entry) : List Entry := fit room 0 (e :: wo l e.k)
def useS (l : List Entry) (key : List UInt8) : List Entry := match posn l key with
  | some i => l.getD i ⟨[], []⟩ :: wo l key
  | none => l
def valS (l : List Entry) (key : List UInt8) : List UInt8 := match posn l key with
  | some i => (l.getD i ⟨[], []⟩).v
  | none => []
def hasS (l : List Entry) (key : List UInt8) : Bool := (posn l key).isSome
def stepS (room : Int) (l : List Entry) (x : Raw) : List Entry :=
  if x.what % 8 = 5 ∨ x.what % 8 = 6 then useS l (ent x).k else if x.what % 8 = 7 then wo l (ent x).k else putS room l (ent x)
def scriptS (room : Int) : List Entry → List Raw → List Entry
  | l, [] => l
  | l, x :: xs => scriptS room (stepS room l x) xs

theorem Inv.sub {room : Int} {l m : List Entry} (h : Inv room l) (hs : m.Sublist l) (hw : sumW m ≤ room) : Inv room m :=
  ⟨h.lo, h.hi, h.nd.sublist (hs.map _), hw, fun e he => h.len e (hs.subset he)⟩
theorem Inv.wo {room : Int} {l : List Entry} (h : Inv room l) (key : List UInt8) : Inv room (wo l key) := h.sub (wo_sub l key) (by have := wo_sum l key; have := h.sum; omega)
theorem Inv.put {room : Int} {l : List Entry} (h : Inv room l) (e : Entry) (he : e.k.length = 1 ∧ e.v.length ≤ 131) : Inv room (putS room l e) := by
  have hn : ((e :: Ytobdkpadpdideaa.wo l e.k).map Entry.k).Nodup := List.nodup_cons.2 ⟨wo_key, (h.wo e.k).nd⟩
  obtain ⟨k, hk⟩ := fit_pre room (e :: Ytobdkpadpdideaa.wo l e.k) 0
  have hsum := fit_sum room (e :: Ytobdkpadpdideaa.wo l e.k) 0 h.lo
  unfold putS
  refine ⟨h.lo, h.hi, ?_, by omega, ?_⟩
  · rw [hk]; exact hn.sublist ((List.take_sublist k _).map _)
  · rw [hk]
    intro x hx
    rcases List.mem_cons.1 (List.mem_of_mem_take hx) with rfl | hx
    · exact he
    · exact (h.wo e.k).len x hx
theorem posn_mem {l : List Entry} {key : List UInt8} {i : Nat} (h : posn l key = some i) : l.getD i ⟨[], []⟩ ∈ l ∧ (l.getD i ⟨[], []⟩).k = key := by
  obtain ⟨hi, hk⟩ := posn_lt h
  simp [hi, hk]
theorem Inv.use {room : Int} {l : List Entry} (h : Inv room l) (key : List UInt8) : Inv room (useS l key) := by
  unfold useS
  split
  · rename_i i hi
    obtain ⟨h1, h2⟩ := posn_mem hi
    refine ⟨h.lo, h.hi, List.nodup_cons.2 ⟨by rw [h2]; exact wo_key, (h.wo key).nd⟩, ?_, ?_⟩
    · have := (erase_wo h.nd hi).2; have := h.sum; simp only [sumW]; omega
    · intro x hx
      rcases List.mem_cons.1 hx with rfl | hx
      · exact h.len _ h1
      · exact (h.wo key).len x hx
  · exact h
theorem Inv.step {room : Int} {l : List Entry} (h : Inv room l) (x : Raw) : Inv room (stepS room l x) := by
  unfold stepS
  split
  · exact h.use _
  · split
    · exact h.wo _
    · exact h.put _ (ent_len x)
theorem Inv.script {room : Int} : ∀ (xs : List Raw) {l : List Entry}, Inv room l → Inv room (scriptS room l xs)
  | [], _, h => h
  | x :: xs, _, h => Inv.script xs (h.step x)
theorem Inv.nil {room : Int} (h0 : 0 ≤ room) (h1 : room ≤ 40) : Inv room [] := ⟨h0, h1, List.nodup_nil, h0, fun e he => (by cases he)⟩

theorem getP_S {room : Int} {l : List Entry} (h : Inv room l) (key : List UInt8) : getP room l key = [cD room (useS l key), .str (valS l key), .bool (hasS l key)] := by
  unfold getP useS valS hasS
  cases hp : posn l key with
  | none => rfl
  | some i =>
    obtain ⟨h1, h2⟩ := posn_mem hp
    simp only [Option.isSome_some]
    rw [(erase_wo h.nd hp).1]
    have : (⟨key, (l.getD i ⟨[], []⟩).v⟩ : Entry) = l.getD i ⟨[], []⟩ := by rw [← h2]
    rw [this]
theorem refGot_S {room : Int} {l : List Entry} (h : Inv room l) (key : List UInt8) : refGot room l key = gotD room (useS l key) (valS l key) (hasS l key) := by
  have hu := h.use key
  unfold refGot
  unfold useS at hu ⊢
  unfold valS hasS
  cases hp : posn l key with
  | none => rfl
  | some i =>
    rw [hp] at hu
    simp only [Option.isSome_some]
    rw [fit_all room _ 0 (fun e _ => wt_nn _ _) (by have := hu.sum; simp only at this; omega)]
theorem refDrop_S {room : Int} {l : List Entry} (h : Inv room l) (key : List UInt8) : fit room 0 (wo l key) = wo l key :=
  fit_all room _ 0 (fun e _ => wt_nn _ _) (by have := (h.wo key).sum; omega)

end Go.Proofs.Ytobdkpadpdideaa

/-
  A part of the walks of this seat: each theorem says what a function of the program gives. No condition beyond its own premises.
-/
import Derived.Laws.StructEq
import Derived.Test.YtojgjdcciojpeaaGreatD1
namespace Go.PS
open Go Go.RowKit

theorem flatMap_get {α β : Type} (f : α → List β) (sz : Nat) : ∀ (xs : List α), (∀ x ∈ xs, (f x).length = sz) → ∀ i r, r < sz → (xs.flatMap f)[i * sz + r]? = (xs[i]?).bind fun x => (f x)[r]?
  | [], _, i, r, _ => by simp
  | x :: xs, h, i, r, hr => by
    have hx := h x (by simp)
    simp only [List.flatMap_cons]
    cases i with
    | zero => simp [List.getElem?_append_left (show r < (f x).length by omega)]
    | succ i =>
      rw [List.getElem?_append_right (by rw [hx, Nat.add_mul]; omega)]
      have e : (i + 1) * sz + r - (f x).length = i * sz + r := by rw [hx, Nat.add_mul]; omega
      rw [e]
      simpa using flatMap_get f sz xs (fun y hy => h y (by simp [hy])) i r hr

theorem flatMap_len {α β : Type} (f : α → List β) (sz : Nat) : ∀ (xs : List α), (∀ x ∈ xs, (f x).length = sz) → (xs.flatMap f).length = xs.length * sz
  | [], _ => by simp
  | x :: xs, h => by
    have := flatMap_len f sz xs (fun y hy => h y (by simp [hy]))
    simp [List.flatMap_cons, h x (by simp), this, Nat.add_mul, Nat.add_comm]

theorem split_index {n sz j : Nat} (h : j < n * sz) : j / sz < n ∧ j % sz < sz ∧ j = j / sz * sz + j % sz := by
  have hs : 0 < sz := by
    rcases Nat.eq_zero_or_pos sz with h0 | h0
    · subst h0; simp at h
    · exact h0
  exact ⟨(Nat.div_lt_iff_lt_mul hs).2 h, Nat.mod_lt _ hs, by rw [Nat.mul_comm]; exact (Nat.div_add_mod j sz).symm⟩

theorem RepD.sl_flat {K} {sz : Nat} {xs : List D} {v : Value} (h : RepD K (.sl sz xs) v) :
    ∃ a c, v = .slice a xs.length c ∧ xs.length ≤ c ∧ (∀ x ∈ xs, x.cells.length = sz) ∧ (xs ≠ [] → ∃ b o vals, a = some ⟨b, o, none⟩ ∧ vals.length = xs.length * sz ∧
      (∀ (j : Nat) (u : Value), vals[j]? = some u → K b (o + j) = some u) ∧ RepDL K (xs.flatMap D.cells) vals ∧ ∀ u ∈ vals, u.oneCell' = true) := by
  cases h with
  | sl _ _ a c b o f hc ha hs hk h1 hr =>
    have hs' : ∀ x ∈ xs, x.cells.length = sz := fun x hx => by
      obtain ⟨i, hi⟩ := List.mem_iff_getElem?.1 hx
      exact hs i x hi
    refine ⟨a, c, rfl, hc, hs', fun hne => ⟨b, o, (List.range (xs.length * sz)).map fun j => f (j / sz) (j % sz), ha hne, by simp, ?_, ?_, ?_⟩⟩
    · intro j u hu
      simp only [List.getElem?_map, Option.map_eq_some_iff] at hu
      obtain ⟨j', hj', rfl⟩ := hu
      have hj : j < xs.length * sz := by
        rcases Nat.lt_or_ge j (xs.length * sz) with hl | hl
        · exact hl
        · rw [List.getElem?_eq_none (by simpa using hl)] at hj'; cases hj'
      have : j' = j := by simpa [List.getElem?_range hj] using hj'.symm
      subst this
      obtain ⟨h1, h2, h3⟩ := split_index hj
      have hx := List.getElem?_eq_getElem h1
      have hl := hs _ _ hx
      have hd := List.getElem?_eq_getElem (show j' % sz < (xs[j' / sz]).cells.length by omega)
      have := hk _ _ _ _ hx hd
      rwa [Nat.add_assoc, ← h3] at this
    · refine ⟨by rw [flatMap_len D.cells sz xs hs']; simp, fun j d u hd hu => ?_⟩
      simp only [List.getElem?_map, Option.map_eq_some_iff] at hu
      obtain ⟨j', hj', rfl⟩ := hu
      have hj : j < xs.length * sz := by
        rcases Nat.lt_or_ge j (xs.length * sz) with hl | hl
        · exact hl
        · rw [List.getElem?_eq_none (by simpa using hl)] at hj'; cases hj'
      have : j' = j := by simpa [List.getElem?_range hj] using hj'.symm
      subst this
      obtain ⟨h1, h2, h3⟩ := split_index hj
      have hx := List.getElem?_eq_getElem h1
      rw [h3, flatMap_get D.cells sz xs hs' _ _ h2, hx] at hd
      exact hr _ _ _ _ hx (by simpa using hd)
    · intro u hu
      simp only [List.mem_map, List.mem_range] at hu
      obtain ⟨j, hj, rfl⟩ := hu
      obtain ⟨h1', h2, h3⟩ := split_index hj
      have hx := List.getElem?_eq_getElem h1'
      have hl := hs _ _ hx
      exact h1 _ _ _ _ hx (List.getElem?_eq_getElem (show j % sz < (xs[j / sz]).cells.length by omega))

theorem RepD.of_flat {K} {sz : Nat} {xs : List D} (hs : ∀ x ∈ xs, x.cells.length = sz) {b o c : Nat} (hc : xs.length ≤ c) {vals : List Value}
    (hk : ∀ (j : Nat) (u : Value), vals[j]? = some u → K b (o + j) = some u) (hr : RepDL K (xs.flatMap D.cells) vals) (h1 : ∀ u ∈ vals, u.oneCell' = true) :
    RepD K (.sl sz xs) (.slice (some ⟨b, o, none⟩) xs.length c) := by
  have hlen : vals.length = xs.length * sz := by rw [← hr.1, flatMap_len D.cells sz xs hs]
  have hget : ∀ (i j : Nat) (x d : D), xs[i]? = some x → x.cells[j]? = some d → (xs.flatMap D.cells)[i * sz + j]? = some d ∧ ∃ u, vals[i * sz + j]? = some u := by
    intro i j x d hx hd
    have hj : j < sz := by rw [← hs x (List.mem_of_getElem? hx)]; exact (List.getElem?_eq_some_iff.1 hd).1
    have hf : (xs.flatMap D.cells)[i * sz + j]? = some d := by rw [flatMap_get D.cells sz xs hs i j hj, hx]; exact hd
    refine ⟨hf, ?_⟩
    have hlt : i * sz + j < vals.length := by rw [← hr.1]; exact (List.getElem?_eq_some_iff.1 hf).1
    exact ⟨_, List.getElem?_eq_getElem hlt⟩
  refine .sl sz xs (some ⟨b, o, none⟩) c b o (fun i j => vals.getD (i * sz + j) undef) hc (fun _ => rfl) (fun i x hx => hs x (List.mem_of_getElem? hx)) ?_ ?_ ?_
  · intro i j x d hx hd
    obtain ⟨_, u, hu⟩ := hget i j x d hx hd
    have := hk _ _ hu
    simp only [List.getD, hu, Option.getD_some]
    rwa [← Nat.add_assoc] at this
  · intro i j x d hx hd
    obtain ⟨_, u, hu⟩ := hget i j x d hx hd
    simp only [List.getD, hu, Option.getD_some]
    exact h1 u (List.mem_of_getElem? hu)
  · intro i j x d hx hd
    obtain ⟨hf, u, hu⟩ := hget i j x d hx hd
    simp only [List.getD, hu, Option.getD_some]
    exact hr.2 _ _ _ hf hu

theorem RepD.sl_nil {K} (sz : Nat) (a : Option Addr) (c : Nat) : RepD K (.sl sz []) (.slice a 0 c) :=
  .sl sz [] a c 0 0 (fun _ _ => default) (Nat.zero_le _) (fun h => absurd rfl h) (fun i x h => by simp at h) (fun i j x d h => by simp at h) (fun i j x d h => by simp at h) (fun i j x d h => by simp at h)

theorem RepDL.append {K} {as bs us vs} (ha : RepDL K as us) (hb : RepDL K bs vs) : RepDL K (as ++ bs) (us ++ vs) :=
  ⟨by simp [ha.1, hb.1], fun i c v hc hv => by
    by_cases hi : i < as.length
    · rw [List.getElem?_append_left hi] at hc
      rw [List.getElem?_append_left (by rw [← ha.1]; exact hi)] at hv
      exact ha.2 i c v hc hv
    · rw [List.getElem?_append_right (by omega)] at hc
      rw [List.getElem?_append_right (by rw [← ha.1]; omega), ← ha.1] at hv
      exact hb.2 _ c v hc hv⟩

theorem tkAfter_live {tk : Nat → TS} {kill : Option Nat} {d : Nat} {e : TypeId} {size t : Nat} {e' : TypeId} {s' : Nat} (ht : tkAfter tk kill d (.live e size) t = .live e' s') :
    (t = d ∧ e' = e ∧ s' = size) ∨ (t ≠ d ∧ tk t = .live e' s' ∧ kill ≠ some t) := by
  by_cases htd : t = d
  · subst htd
    left
    cases kill <;> simp only [tkAfter, upd_same] at ht <;> cases ht <;> exact ⟨rfl, rfl, rfl⟩
  · right
    cases kill with
    | none => rw [tkAfter, upd_other _ _ _ _ htd] at ht; exact ⟨htd, ht, by simp⟩
    | some k =>
      rw [tkAfter, upd_other _ _ _ _ htd] at ht
      by_cases hk : t = k
      · subst hk; rw [upd_same] at ht; cases ht
      · rw [upd_other _ _ _ _ hk] at ht; exact ⟨htd, ht, by simpa using Ne.symm hk⟩

theorem tkAfter_never {tk : Nat → TS} {kill : Option Nat} {d : Nat} {e : TypeId} {size t : Nat} (ht : tkAfter tk kill d (.live e size) t = .never) : t ≠ d ∧ tk t = .never := by
  by_cases htd : t = d
  · subst htd
    cases kill <;> simp only [tkAfter, upd_same] at ht <;> cases ht
  · refine ⟨htd, ?_⟩
    cases kill with
    | none => rwa [tkAfter, upd_other _ _ _ _ htd] at ht
    | some k =>
      rw [tkAfter, upd_other _ _ _ _ htd] at ht
      by_cases hk : t = k
      · subst hk; rw [upd_same] at ht; cases ht
      · rwa [upd_other _ _ _ _ hk] at ht

section
variable {E : Env} {γ γ' : Gh} {own : Nat → Option Nat} {st : St} {a : Act} {w w' : World} {ob : Nat → Option OB} {tk : Nat → TS}

/-- A row of cells grows: in place, behind what is known of it, or anew. -/
theorem ConcW.grow (h : ConcW E γ own ob tk w) {d : Nat} (hd : tk d = .never) {kill : Option Nat} {g : Nat} {e : TypeId} {size n cap : Nat} {cur : Array Value} {v' : Value} {all : List Value}
    (hv' : v' = .slice (some ⟨g, 0, none⟩) n cap) (hheap : w'.heap[g]? = some (.cells cur e (0, 0))) (hle : n ≤ cap) (hmax : cap ≤ maxLen) (hsz : cur.size = cap * rsz size)
    (htake : cur.toList.take (n * rsz size) = all) (hone : ∀ u ∈ all, u.oneCell' = true) (hos : w'.os = w.os) (htp : w'.tape = w.tape) (hout : w'.output = w.output) (hsize : w.heap.size ≤ w'.heap.size)
    (hblock : ∀ k, k < w.heap.size → k ≠ g → w'.heap[k]? = w.heap[k]?)
    (hg : w.heap.size ≤ g ∨ ∃ t e' s', kill = some t ∧ tk t = .live e' s' ∧ own t = some g)
    (hold : ∀ o v, γ.K g o = some v → all[o]? = some v) :
    ∃ γ' own', γ'.K = kadd γ.K g all ∧ γ'.τ d = some v' ∧ GhLe γ γ' ∧ ConcW E γ' own' ob (tkAfter tk kill d (.live e size)) w' := by
  have hall : all.length = n * rsz size := by
    rw [← htake, List.length_take, Array.length_toList, hsz]
    exact Nat.min_eq_left (Nat.mul_le_mul_right _ hle)
  have hτd : γ.τ d = none := h.ntok d hd
  have hgle : GhLe γ ⟨kadd γ.K g all, γ.m, upd γ.τ d (some v')⟩ := ⟨kadd_le hold, fun _ _ h => h, fun i x hx => by
    by_cases hi : i = d
    · subst hi; rw [hτd] at hx; cases hx
    · exact (upd_other _ _ _ _ hi).trans hx⟩
  have hBg : E.mine g := by
    rcases hg with hg | ⟨t, e', s', _, hl, ho⟩
    · exact .inl (Nat.le_trans h.lt hg)
    · obtain ⟨v, _, hok⟩ := h.tok t e' s' hl
      rw [ho] at hok
      obtain ⟨n, cap, cur, hok⟩ := hok
      exact hok.base
  have hnoobj : ∀ id s, γ.m id ≠ some (g, s) := by
    intro id s hm
    rcases hg with hg | ⟨t, e', s', _, hl, ho⟩
    · have := (h.mlt hm).1; omega
    · obtain ⟨v, _, hok⟩ := h.tok t e' s' hl
      rw [ho] at hok
      obtain ⟨n, cap, cur, hok⟩ := hok
      exact hok.noobj id s hm
  -- live tokens behind it
  have hlive := fun t e' s' => tkAfter_live (tk := tk) (kill := kill) (d := d) (e := e) (size := size) (t := t) (e' := e') (s' := s')
  have hother : ∀ t e' s' g', tk t = .live e' s' → kill ≠ some t → own t = some g' → g' ≠ g := by
    intro t e' s' g' ht hk ho he
    subst he
    rcases hg with hg | ⟨t', e'', s'', hk', hl, ho'⟩
    · obtain ⟨v, _, hok⟩ := h.tok t e' s' ht
      rw [ho] at hok
      obtain ⟨n, cap, cur, hok⟩ := hok
      have := (Array.getElem?_eq_some_iff.1 hok.heap).1
      omega
    · exact hk (hk'.trans (congrArg some (h.tinj _ _ _ _ _ _ _ hl ht ho' ho)))
  refine ⟨⟨kadd γ.K g all, γ.m, upd γ.τ d (some v')⟩, upd own d (some g), rfl, upd_same _ _ _, hgle, ?_⟩
  refine ⟨h.k0.trans hgle.K, ?_, ?_, h.below.trans ⟨hos, htp, hout, hsize, fun k hk hm => hblock k (by have := h.lt; omega) (fun e => by subst e; rcases hBg with h | h; (· omega); exact hm h)⟩, ?_, h.nob, h.inj, ?_, ?_, ?_, h.pas, ?_⟩
  · intro b o hk
    by_cases hb : b = g
    · subst hb; exact hBg
    · exact h.knew b o (by simpa [kadd, hb] using hk)
  · intro b o v hk
    by_cases hb : b = g
    · subst hb
      simp only [kadd, if_true] at hk
      refine Held.of_cell ?_ (hone v (List.mem_of_getElem? hk))
      rw [← htake, List.getElem?_take] at hk
      split at hk
      · simpa [World.cell?, hheap] using hk
      · cases hk
    · simp only [kadd, hb, if_false] at hk
      exact (h.ksub b o v hk).block (hblock b (h.ksub.lt hk) hb)
  · intro id o ho
    obtain ⟨blk, cs, hb, hok⟩ := h.obj id o ho
    have hne : blk ≠ g := fun e => hnoobj id o.sz (e ▸ hb)
    exact ⟨blk, cs, hb, hok.keep hgle (hblock blk (h.mlt hb).1 hne) fun off => by simpa [kadd, hne] using hok.free off⟩
  · intro t e' s' ht
    rcases hlive t e' s' ht with ⟨rfl, rfl, rfl⟩ | ⟨htd, ht', hk⟩
    · refine ⟨v', upd_same _ _ _, ?_⟩
      rw [upd_same]
      exact ⟨n, cap, cur, hv', hBg, hheap, hle, hmax, hsz, fun o ho => by simp [kadd, List.getElem?_eq_none (show all.length ≤ o by omega)], hnoobj⟩
    · obtain ⟨v, hv, hok⟩ := h.tok t e' s' ht'
      refine ⟨v, (upd_other _ _ _ _ htd).trans hv, ?_⟩
      rw [upd_other _ _ _ _ htd]
      cases ho : own t with
      | none => rw [ho] at hok; exact hok
      | some g' =>
        rw [ho] at hok
        obtain ⟨n', cap', cur', hok⟩ := hok
        have hne := hother t e' s' g' ht' hk ho
        have hlt := (Array.getElem?_eq_some_iff.1 hok.heap).1
        exact ⟨n', cap', cur', hok.keep (hblock g' hlt hne) (fun o hle => by simpa [kadd, hne] using hok.free o hle) hok.noobj⟩
  · intro t t' e1 e2 s1 s2 g' h1 h2 ho1 ho2
    rcases hlive t e1 s1 h1 with ⟨rfl, _, _⟩ | ⟨htd, ht, hk⟩ <;> rcases hlive t' e2 s2 h2 with ⟨rfl, _, _⟩ | ⟨htd', ht', hk'⟩
    · rfl
    · rw [upd_same] at ho1; cases ho1
      rw [upd_other _ _ _ _ htd'] at ho2
      exact absurd rfl (hother t' e2 s2 _ ht' hk' ho2)
    · rw [upd_same] at ho2; cases ho2
      rw [upd_other _ _ _ _ htd] at ho1
      exact absurd rfl (hother t e1 s1 _ ht hk ho1)
    · rw [upd_other _ _ _ _ htd] at ho1
      rw [upd_other _ _ _ _ htd'] at ho2
      exact h.tinj _ _ _ _ _ _ _ ht ht' ho1 ho2
  · intro t ht
    obtain ⟨htd, ht'⟩ := tkAfter_never ht
    exact (upd_other _ _ _ _ htd).trans (h.ntok t ht')
  · intro t e' s' v h3 ht hτ ho
    rcases hlive t e' s' ht with ⟨rfl, rfl, rfl⟩ | ⟨htd, ht', hk⟩
    · rw [upd_same] at ho; cases ho
    · rw [upd_other _ _ _ _ htd] at ho
      exact h.tmine t e' s' v h3 ht' ((upd_other _ _ _ _ htd).symm.trans hτ) ho

/-- A token passes on: nothing was appended. -/
theorem ConcW.pass (h : ConcW E γ own ob tk w) {d : Nat} (hd : tk d = .never) {kill : Option Nat} {e : TypeId} {size : Nat} {v : Value}
    (hv : (kill = none ∧ FullV v) ∨ ∃ t, kill = some t ∧ t ≠ d ∧ tk t = .live e size ∧ γ.τ t = some v) (hmine : 1000000 ≤ size → kill = none → ∃ a, v = .slice a 0 0) :
    ∃ γ' own', γ'.K = γ.K ∧ γ'.τ d = some v ∧ GhLe γ γ' ∧ ConcW E γ' own' ob (tkAfter tk kill d (.live e size)) w := by
  have hτd : γ.τ d = none := h.ntok d hd
  have hgle : GhLe γ ⟨γ.K, γ.m, upd γ.τ d (some v)⟩ := ⟨KLe.refl _, fun _ _ h => h, fun i x hx => by
    by_cases hi : i = d
    · subst hi; rw [hτd] at hx; cases hx
    · exact (upd_other _ _ _ _ hi).trans hx⟩
  have hlive := fun t e' s' => tkAfter_live (tk := tk) (kill := kill) (d := d) (e := e) (size := size) (t := t) (e' := e') (s' := s')
  refine ⟨⟨γ.K, γ.m, upd γ.τ d (some v)⟩, upd own d (kill.bind own), rfl, upd_same _ _ _, hgle, ?_⟩
  refine ⟨h.k0, h.knew, h.ksub, h.below, ?_, h.nob, h.inj, ?_, ?_, ?_, h.pas, ?_⟩
  · intro id o ho
    obtain ⟨blk, cs, hb, hok⟩ := h.obj id o ho
    exact ⟨blk, cs, hb, hok.keep hgle rfl hok.free⟩
  · intro t e' s' ht
    rcases hlive t e' s' ht with ⟨rfl, rfl, rfl⟩ | ⟨htd, ht', hk⟩
    · refine ⟨v, upd_same _ _ _, ?_⟩
      rw [upd_same]
      rcases hv with ⟨rfl, hf⟩ | ⟨t', rfl, hne, hl, hτ⟩
      · exact hf
      · obtain ⟨v', hv', hok⟩ := h.tok t' _ _ hl
        rw [hτ] at hv'; cases hv'
        simp only [Option.bind_some]
        cases ho : own t' with
        | none => rw [ho] at hok; exact hok
        | some g => rw [ho] at hok; obtain ⟨n', cap', cur', hok⟩ := hok; exact ⟨n', cap', cur', hok.keep rfl hok.free hok.noobj⟩
    · obtain ⟨v', hv', hok⟩ := h.tok t e' s' ht'
      refine ⟨v', (upd_other _ _ _ _ htd).trans hv', ?_⟩
      rw [upd_other _ _ _ _ htd]
      cases ho : own t with
      | none => rw [ho] at hok; exact hok
      | some g => rw [ho] at hok; obtain ⟨n', cap', cur', hok⟩ := hok; exact ⟨n', cap', cur', hok.keep rfl hok.free hok.noobj⟩
  · intro t t' e1 e2 s1 s2 g' h1 h2 ho1 ho2
    have hd' : ∀ t2 e2 s2 g', tk t2 = .live e2 s2 → kill ≠ some t2 → own t2 = some g' → (kill.bind own) = some g' → False := by
      intro t2 e2 s2 g' hl hk ho ho'
      rcases hv with ⟨rfl, hf⟩ | ⟨t3, rfl, hne, hl3, hτ⟩
      · cases ho'
      · exact hk (congrArg some (h.tinj _ _ _ _ _ _ _ hl3 hl ho' ho))
    rcases hlive t e1 s1 h1 with ⟨rfl, _, _⟩ | ⟨htd, ht, hk⟩ <;> rcases hlive t' e2 s2 h2 with ⟨rfl, _, _⟩ | ⟨htd', ht', hk'⟩
    · rfl
    · rw [upd_same] at ho1
      rw [upd_other _ _ _ _ htd'] at ho2
      exact (hd' _ _ _ _ ht' hk' ho2 ho1).elim
    · rw [upd_same] at ho2
      rw [upd_other _ _ _ _ htd] at ho1
      exact (hd' _ _ _ _ ht hk ho1 ho2).elim
    · rw [upd_other _ _ _ _ htd] at ho1
      rw [upd_other _ _ _ _ htd'] at ho2
      exact h.tinj _ _ _ _ _ _ _ ht ht' ho1 ho2
  · intro t ht
    obtain ⟨htd, ht'⟩ := tkAfter_never ht
    exact (upd_other _ _ _ _ htd).trans (h.ntok t ht')
  · intro t e' s' v' h3 ht hτ ho
    rcases hlive t e' s' ht with ⟨rfl, rfl, rfl⟩ | ⟨htd, ht', hk⟩
    · rw [upd_same] at ho
      have hτ2 : upd γ.τ t (some v) t = some v' := hτ
      rw [upd_same] at hτ2
      cases hτ2
      rcases hv with ⟨rfl, hf⟩ | ⟨t', rfl, hne, hl, hτ'⟩
      · exact hmine h3 rfl
      · exact h.tmine t' _ _ _ h3 hl hτ' ho
    · rw [upd_other _ _ _ _ htd] at ho
      exact h.tmine t e' s' v' h3 ht' ((upd_other _ _ _ _ htd).symm.trans hτ) ho

/-- An object of the walk's own is written. -/
theorem ConcW.setObj (h : ConcW E γ own ob tk w) {id : Nat} {o o' : OB} (ho : ob id = some o) {blk : Nat} {cs cs' : Array Value} (hm : γ.m id = some (blk, o.sz)) (hok : ObjOk E.mine γ w blk o cs)
    (hsz : o'.sz = o.sz) (hr : RepL γ (flat o'.elems) cs'.toList) (h1 : ∀ u ∈ cs'.toList, u.oneCell' = true) (hs : ∀ e ∈ o'.elems, e.cells.length = o'.sz)
    {spare : Array Value} (hnew : w'.heap[blk]? = some (objOf o'.ty cs' spare)) (hgb : ∀ k, k ≠ blk → w'.heap[k]? = w.heap[k]?) (hos : w'.os = w.os) (htp : w'.tape = w.tape) (hout : w'.output = w.output) (hsize : w.heap.size ≤ w'.heap.size) :
    ConcW E γ own (upd ob id (some o')) tk w' := by
  refine ⟨h.k0, h.knew, ?_, h.below.trans ⟨hos, htp, hout, hsize, fun k hk hnm => hgb k (fun e => by subst e; rcases hok.base with h | h; (· omega); exact hnm h)⟩, ?_, ?_, h.inj, ?_, h.tinj, h.ntok, h.pas, h.tmine⟩
  · intro b off v hk
    have hne : b ≠ blk := fun e => by subst e; rw [hok.free] at hk; cases hk
    exact (h.ksub b off v hk).block (hgb b hne)
  · intro j oj hj
    by_cases hi : j = id
    · subst hi
      rw [upd_same] at hj
      cases hj
      exact ⟨blk, cs', by rw [hsz]; exact hm, hok.base, ⟨spare, hnew⟩, hr, h1, hs, hok.free⟩
    · rw [upd_other _ _ _ _ hi] at hj
      obtain ⟨blk', cs'', hb, hok'⟩ := h.obj j oj hj
      have hne : blk' ≠ blk := fun e => by subst e; exact hi (h.inj _ _ _ _ _ hb hm)
      exact ⟨blk', cs'', hb, hok'.keep (GhLe.refl _) (hgb blk' hne) hok'.free⟩
  · intro j hj
    by_cases hi : j = id
    · subst hi; rw [upd_same] at hj; cases hj
    · rw [upd_other _ _ _ _ hi] at hj; exact h.nob j hj
  · intro t e sz ht
    obtain ⟨v, hv, hk⟩ := h.tok t e sz ht
    refine ⟨v, hv, ?_⟩
    cases hot : own t with
    | none => rw [hot] at hk; exact hk
    | some g =>
      rw [hot] at hk
      obtain ⟨n, cap, cur, hk⟩ := hk
      have hne : g ≠ blk := fun e => by subst e; exact hk.noobj _ _ hm
      exact ⟨n, cap, cur, hk.keep (hgb g hne) hk.free hk.noobj⟩

end
end Go.PS
namespace Go.PS
open Go Go.RowKit

section inv
variable {γ : Gh} {v : Value}
theorem rep_int {k n} (h : Rep γ (.d (.int k n)) v) : v = .int k n := by cases h with | d h => cases h; rfl
theorem rep_bool {b} (h : Rep γ (.d (.bool b)) v) : v = .bool b := by cases h with | d h => cases h; rfl
theorem rep_str {l} (h : Rep γ (.d (.str l)) v) : v = .string ⟨l.toArray⟩ := by cases h with | d h => cases h; rfl
theorem rep_hp {id i off} (h : Rep γ (.hp id i off) v) : ∃ blk sz, γ.m id = some (blk, sz) ∧ v = .pointer (some ⟨blk, i * sz + off, none⟩) := by
  cases h with | hp h => exact ⟨_, _, h, rfl⟩
theorem rep_ref {cs} (h : Rep γ (.d (.ref cs)) v) : ∃ (b o : Nat) (f : Nat → Value), v = .pointer (some ⟨b, o, none⟩) ∧ (∀ (j : Nat) (d : D), cs[j]? = some d → γ.K b (o + j) = some (f j)) ∧
    (∀ (j : Nat) (d : D), cs[j]? = some d → (f j).oneCell' = true) ∧ (∀ (j : Nat) (d : D), cs[j]? = some d → RepD γ.K d (f j)) := by
  cases h with | d h => cases h with | ref _ b o f h1 h2 h3 => exact ⟨b, o, f, rfl, h1, h2, h3⟩
end inv

theorem asSl_rep {γ : Gh} {x : PV} {v : Value} {sz : Nat} {xs : List D} (h : Rep γ x v) (hx : asSl x = some (sz, xs)) : RepD γ.K (.sl sz xs) v := by
  unfold asSl at hx
  split at hx
  · cases hx; cases h with | d h => exact h
  · cases hx; cases h with | own h _ => exact h
  · cases hx

def ValOk (P : Program) (γ : Gh) (w : World) (s : Sem Value) (v : PV) : Prop := ∃ u, s.run P w = .ok u w ∧ Rep γ v u

theorem wrap_id {k : IntKind} {n : Int} (h : inR k n = true) : k.wrap n = n := by
  simp only [inR, Bool.and_eq_true, decide_eq_true_eq] at h
  cases k <;> simp [IntKind.wrap, IntKind.min, IntKind.max, IntKind.signed, IntKind.bits] at h ⊢ <;> (first | omega | (split <;> omega))

theorem ba_toList (l : List UInt8) : (ByteArray.mk l.toArray).toList = l := by
  have : ∀ b : ByteArray, b.toList = b.data.toList := by
    intro b
    have key : ∀ (n i : Nat) (r : List UInt8), b.size - i = n → ByteArray.toList.loop b i r = r.reverse ++ b.data.toList.drop i := by
      intro n
      induction n with
      | zero =>
        intro i r hn
        unfold ByteArray.toList.loop
        have hs : b.size = b.data.size := rfl
        rw [if_neg (by omega), List.drop_of_length_le (by rw [Array.length_toList]; omega)]
        simp
      | succ n ih =>
        intro i r hn
        unfold ByteArray.toList.loop
        have hs : b.size = b.data.size := rfl
        have hi : i < b.data.toList.length := by rw [Array.length_toList]; omega
        rw [if_pos (by omega), ih (i + 1) _ (by omega), List.drop_eq_getElem_cons hi]
        have hg : b.get! i = b.data.toList[i] := by
          show b.data[i]! = _
          simp [getElem!_pos b.data i (by simpa using hi)]
        simp [hg]
    have := key b.size 0 [] (by omega)
    simpa [ByteArray.toList] using this
  first | (simp; done) | simpa using this ⟨l.toArray⟩

variable {P : Program} {T : Nat → Option TI}

theorem evalInt_sound {op : BinOp} {k : IntKind} {a b : Int} {d : D} {γ : Gh} (w : World) {xt : TypeId} (h : evalInt op k a b = some (true, d)) : ValOk P γ w (binOp op xt (.int k a) (.int k b)) (.d d) := by
  have hb1 : (a == b) = decide (a = b) := by rw [Bool.eq_iff_iff]; simp
  have hb2 : (a != b) = !decide (a = b) := by rw [Bool.eq_iff_iff]; simp
  cases op <;> simp only [evalInt, Option.some.injEq, Prod.mk.injEq, reduceCtorEq] at h
  case add =>
    obtain ⟨h1, rfl⟩ := h
    exact ⟨.int k _, by simp only [binOp, Op.intArith, ne_eq, not_true_eq_false, if_false, wrap_id h1, Sem.run_pure], .d (.int _ _)⟩
  case sub =>
    obtain ⟨h1, rfl⟩ := h
    exact ⟨.int k _, by simp only [binOp, Op.intArith, ne_eq, not_true_eq_false, if_false, wrap_id h1, Sem.run_pure], .d (.int _ _)⟩
  case mul =>
    obtain ⟨h1, rfl⟩ := h
    exact ⟨.int k _, by simp only [binOp, Op.intArith, ne_eq, not_true_eq_false, if_false, wrap_id h1, Sem.run_pure], .d (.int _ _)⟩
  case quo =>
    obtain ⟨h1, rfl⟩ := h
    simp only [Bool.and_eq_true, decide_eq_true_eq] at h1
    obtain ⟨⟨h0, hm⟩, hb⟩ := h1
    have hkm : k.min ≤ 0 := by cases k <;> simp [IntKind.min, IntKind.signed, IntKind.bits]
    have hkx : 0 ≤ k.max := by cases k <;> simp [IntKind.max, IntKind.signed, IntKind.bits]
    have e : a.tdiv b = divT a b := by
      unfold divT
      split
      · rename_i h; exact Int.tdiv_eq_ediv_of_nonneg h
      · rename_i h
        have h2 : a = -(-a) := by omega
        rw [h2, Int.neg_tdiv, Int.tdiv_eq_ediv_of_nonneg (by omega), ← h2]
    have hw : inR k (divT a b) = true := by
      simp only [inR, Bool.and_eq_true, decide_eq_true_eq]
      unfold divT
      split
      · rename_i h
        have hq0 : 0 ≤ a / b := Int.ediv_nonneg h (by omega)
        have hq1 : a / b ≤ a := Int.ediv_le_self b h
        omega
      · rename_i h
        have hq0 : 0 ≤ -a / b := Int.ediv_nonneg (by omega) (by omega)
        have hq1 : -a / b ≤ -a := Int.ediv_le_self b (by omega)
        omega
    exact ⟨.int k (divT a b), by simp only [binOp, Op.intDiv, ne_eq, not_true_eq_false, if_false, show b ≠ 0 by omega, e, wrap_id hw, Sem.run_pure], .d (.int _ _)⟩
  case rem =>
    obtain ⟨h1, rfl⟩ := h
    simp only [Bool.and_eq_true, decide_eq_true_eq] at h1
    have e : a.tmod b = a % b := Int.tmod_eq_emod_of_nonneg h1.1
    exact ⟨.int k (a % b), by simp only [binOp, Op.intDiv, ne_eq, not_true_eq_false, if_false, show b ≠ 0 by omega, e, Sem.run_pure], .d (.int _ _)⟩
  all_goals
    obtain ⟨_, rfl⟩ := h
    exact ⟨.bool _, by simp only [binOp, Op.intCmp, ne_eq, not_true_eq_false, if_false, Sem.run_pure, hb1, hb2]; try rfl, .d (.bool _)⟩

theorem evalStr_sound {op : BinOp} {a b : List UInt8} {d : D} {γ : Gh} (w : World) {xt : TypeId} (h : evalStr op a b = some (true, d)) : ValOk P γ w (binOp op xt (.string ⟨a.toArray⟩) (.string ⟨b.toArray⟩)) (.d d) := by
  have hbeq : (a == b) = decide (a = b) := by rw [Bool.eq_iff_iff]; simp
  cases op <;> simp only [evalStr, Option.some.injEq, Prod.mk.injEq, reduceCtorEq] at h
  case add =>
    obtain ⟨h1, rfl⟩ := h
    have h1' : ((a.length + b.length : Nat) : Int) ≤ IntKind.i64.max := by simpa using h1
    have hs : ¬ ((((ByteArray.mk a.toArray).size + (ByteArray.mk b.toArray).size : Nat) : Int) > IntKind.i64.max) := by
      have e1 : (ByteArray.mk a.toArray).size = a.length := by simp [ByteArray.size]
      have e2 : (ByteArray.mk b.toArray).size = b.length := by simp [ByteArray.size]
      rw [e1, e2]; omega
    refine ⟨.string (⟨a.toArray⟩ ++ ⟨b.toArray⟩), ?_, ?_⟩
    · simp only [binOp, Op.stringOp, hs, if_false, Sem.run_pure]
    · have e : (ByteArray.mk a.toArray) ++ (ByteArray.mk b.toArray) = ByteArray.mk (a ++ b).toArray := by
        apply ByteArray.ext
        simp
      rw [e]
      exact .d (.str _)
  all_goals
    obtain ⟨_, rfl⟩ := h
    exact ⟨.bool _, by simp only [binOp, Op.stringOp, ba_toList, hbeq, Sem.run_pure]; try rfl, .d (.bool _)⟩

theorem run_isAgg {t : TypeId} {d : TypeDesc} (h : P.underlying t = some d) (w : World) : (isAgg t).run P w = .ok (TK.of d).agg w := by
  simp only [isAgg, Sem.run_bind, run_underlying h, Result.andThen_ok]
  cases d <;> rfl

theorem run_sizeOf {t : TypeId} {i : TypeInfo} (h : P.info? t = some i) (w : World) : (sizeOf t).run P w = .ok i.size w := by
  simp [sizeOf, typeInfo, h]

theorem run_zeroValue {t : TypeId} {i : TypeInfo} {z : Value} (h : P.info? t = some i) (hz : i.zero = some z) (w : World) : (zeroValue t).run P w = .ok z w := by
  simp [zeroValue, typeInfo, h, hz]

/-- A part of a struct, read out of its cells. -/
theorem part_sound (hT : TabOk P T) {γ : Gh} (w : World) {t : TypeId} {ti : TI} (ht : T t = some ti) {cs : List PV} {vs : List Value} (hr : RepL γ cs vs) (h1 : ∀ u ∈ vs, u.oneCell' = true) {off : Nat}
    (hle : off + (bif ti.k.agg then ti.size else 1) ≤ cs.length) : ValOk P γ w (part t vs.toArray off) (bif ti.k.agg then .agg ((cs.drop off).take ti.size) else cs.getD off .any) := by
  obtain ⟨i, d, hi, hd, hz, hs, hb, hk, _⟩ := hT.facts ht
  unfold part ValOk
  simp only [Sem.run_bind, run_isAgg hd, Result.andThen_ok, hk]
  cases ha : ti.k.agg with
  | true =>
    simp only [if_true, Sem.run_bind, run_sizeOf hi, Result.andThen_ok, Sem.run_pure, hs, cond_true]
    rw [ha] at hle
    simp only [cond_true] at hle
    refine ⟨_, rfl, Rep.agg_iff.2 ⟨(vs.drop off).take ti.size, ?_, ⟨?_, ?_⟩, fun u hu => h1 u (List.mem_of_mem_drop (List.mem_of_mem_take hu))⟩⟩
    · congr 1
      apply Array.ext'
      simp
    · simp [hr.1]
    · intro i c v hc hv
      simp only [List.getElem?_take, List.getElem?_drop] at hc hv
      split at hc
      · rename_i h; rw [if_pos h] at hv; exact hr.2 _ c v hc hv
      · cases hc
  | false =>
    rw [ha] at hle
    simp only [cond_false] at hle
    have hc : off < cs.length := by omega
    have hv : off < vs.length := by rw [← hr.1]; exact hc
    simp only [Bool.false_eq_true, if_false, List.getElem?_toArray, List.getElem?_eq_getElem hv, Sem.run_pure, cond_false]
    refine ⟨_, rfl, ?_⟩
    simp only [List.getD, List.getElem?_eq_getElem hc, Option.getD_some]
    exact hr.2 off _ _ (List.getElem?_eq_getElem hc) (List.getElem?_eq_getElem hv)

theorem evalField_sound (hT : TabOk P T) {γ : Gh} (w : World) {s : TypeId} {x : PV} {xv : Value} {f : Nat} {v : PV} (hx : Rep γ x xv) (h : evalField T s x f = some (true, v)) : ValOk P γ w (Instr.field s xv f) v := by
  unfold evalField at h
  split at h
  · rename_i fs z e cs hs
    split at h
    · rename_i off t hf
      split at h
      · rename_i ti ht
        simp only [Option.some.injEq, Prod.mk.injEq] at h
        obtain ⟨hle, rfl⟩ := h
        obtain ⟨vs, rfl, hr, h1⟩ := Rep.agg_iff.1 hx
        obtain ⟨i, d, hi, hd, hz, hsz, hb, hk, _⟩ := hT.facts hs
        cases d <;> simp only [TK.of, reduceCtorEq, TK.struct.injEq] at hk
        rename_i fields
        rw [← hk] at hf
        simp only [List.getElem?_map, Option.map_eq_some_iff, Prod.mk.injEq] at hf
        obtain ⟨fd, hfd, rfl, rfl⟩ := hf
        have hle' := Nat.le_of_ble_eq_true hle
        obtain ⟨u, hu, hur⟩ := part_sound hT w ht hr h1 hle'
        refine ⟨u, ?_, hur⟩
        have hfd' : fields[f]? = some fd := by simpa using hfd
        simp [Instr.field, run_underlying hd, hfd', asAgg, hu]
      · cases h
    · cases h
  · cases h

end Go.PS
namespace Go.PS
open Go Go.RowKit

variable {P : Program} {T : Nat → Option TI}

theorem eqField_sound {γ : Gh} (w : World) {k : TK} {x y : PV} {b : Bool} {t : TypeId} {d : TypeDesc} (hd : P.underlying t = some d) (hk : TK.of d = k) (n : Nat) {u v : Value}
    (hx : Rep γ x u) (hy : Rep γ y v) (h : eqField k x y = some b) : (Op.equalIn (n + 1) t u v).run P w = .ok b w := by
  unfold eqField at h
  split at h
  · rename_i a c
    cases h
    rw [rep_bool hx, rep_bool hy]
    cases d <;> simp only [TK.of, reduceCtorEq] at hk
    exact run_equalIn_bool w n t _ _ hd
  · rename_i k0 k1 a k2 c
    split at h
    · rename_i hkk
      subst hkk
      cases h
      rw [rep_int hx, rep_int hy]
      cases d <;> simp only [TK.of, reduceCtorEq] at hk
      rw [run_equalIn_int w n t k1 _ a c hd, show (a == c) = decide (a = c) by rw [Bool.eq_iff_iff]; simp]
    · cases h
  · rename_i a c
    cases h
    rw [rep_str hx, rep_str hy]
    cases d <;> simp only [TK.of, reduceCtorEq] at hk
    rw [run_equalIn_string w n t _ _ hd, ba_toList, ba_toList, show (a == c) = decide (a = c) by rw [Bool.eq_iff_iff]; simp]
  · cases h

theorem eqFields_sound (hT : TabOk P T) {γ : Gh} (w : World) (n : Nat) {xs ys : List PV} {us vs : List Value} (hx : RepL γ xs us) (hy : RepL γ ys vs) :
    ∀ (fs : List Field) (b : Bool), (fs.all fun f => f.name != "_") = true → eqFields T xs ys (fs.map fun f => (f.offset, f.type)) = some b → (Op.eqFields (n + 1) us.toArray vs.toArray fs).run P w = .ok b w
  | [], b, _, h => by simp only [List.map_nil, eqFields, Option.some.injEq] at h; subst h; rfl
  | f :: fs, b, hn, h => by
    simp only [List.all_cons, Bool.and_eq_true] at hn
    simp only [List.map_cons, eqFields] at h
    split at h
    · rename_i ti x y ht hxo hyo
      split at h
      · rename_i b1 b2 h1 h2
        simp only [Option.some.injEq] at h
        subst h
        obtain ⟨i, d, hi, hd, hz, hsz, hb, hk, _⟩ := hT.facts ht
        have hname : f.name ≠ "_" := by simpa using hn.1
        have hxl : f.offset < us.length := by rw [← hx.1]; exact (List.getElem?_eq_some_iff.1 hxo).1
        have hyl : f.offset < vs.length := by rw [← hy.1]; exact (List.getElem?_eq_some_iff.1 hyo).1
        have hagg : ti.k.agg = false := by
          cases hti : ti.k <;> rw [hti] at h1 <;> simp [eqField] at h1 <;> rfl
        have p1 : (part f.type us.toArray f.offset).run P w = .ok us[f.offset] w := by
          simp [part, run_isAgg hd, hk, hagg, hxl]
        have p2 : (part f.type vs.toArray f.offset).run P w = .ok vs[f.offset] w := by
          simp [part, run_isAgg hd, hk, hagg, hyl]
        have e1 := eqField_sound w hd hk n (hx.2 _ _ _ hxo (List.getElem?_eq_getElem hxl)) (hy.2 _ _ _ hyo (List.getElem?_eq_getElem hyl)) h1
        have ih := eqFields_sound hT w n hx hy fs b2 hn.2 h2
        simp only [Op.eqFields, hname, ne_eq, not_false_eq_true, if_true, Sem.run_bind, p1, p2, e1, Result.andThen_ok]
        cases b1 <;> simp [ih]
      · cases h
    · cases h

theorem run_equalIn_fnil (w : World) (n : Nat) (t : TypeId) (f : Fn) (x y : Array Value) {a b c} (h : P.underlying t = some (.func a b c)) : (Op.equalIn (n + 1) t (.func f x y) .nilFunc).run P w = .ok false w := by
  simp [Op.equalIn, run_underlying h]
theorem run_equalIn_nilnil (w : World) (n : Nat) (t : TypeId) {a b c} (h : P.underlying t = some (.func a b c)) : (Op.equalIn (n + 1) t .nilFunc .nilFunc).run P w = .ok true w := by
  simp [Op.equalIn, run_underlying h]
/-- A function held against nil. -/
theorem eqFn_sound (hT : TabOk P T) {γ : Gh} (w : World) {op : BinOp} {t : TypeId} {u v : Value} {r : PV} (xo yo : Operand) {q : Bool}
    (hq : ∀ a b c, P.underlying t = some (.func a b c) → (Op.equal t u v).run P w = .ok q w)
    (h : (match T t, op with
      | some ⟨_, _, .func, _, _⟩, .eql => some (true, PV.d (.bool q))
      | some ⟨_, _, .func, _, _⟩, .neq => some (true, PV.d (.bool !q))
      | _, _ => none) = some (true, r)) (hu : (∃ f a b, u = .func f a b) ∨ u = .nilFunc) (hv : v = .nilFunc) : ValOk P γ w (do eqGuard op t xo yo u v; binOp op t u v) r := by
  subst hv
  split at h
  · rename_i ht
    obtain ⟨i, d, hi, hd, _, _, _, hk, _⟩ := hT.facts ht
    cases d <;> simp only [TK.of, reduceCtorEq] at hk
    cases h
    have he := hq _ _ _ hd
    refine ⟨.bool q, ?_, .d (.bool _)⟩
    rcases hu with ⟨f, a, b, rfl⟩ | rfl <;> simp [eqGuard, binOp, he]
  · rename_i ht
    obtain ⟨i, d, hi, hd, _, _, _, hk, _⟩ := hT.facts ht
    cases d <;> simp only [TK.of, reduceCtorEq] at hk
    cases h
    have he := hq _ _ _ hd
    refine ⟨.bool (!q), ?_, .d (.bool _)⟩
    rcases hu with ⟨f, a, b, rfl⟩ | rfl <;> simp [eqGuard, binOp, he]
  · cases h

theorem evalBin_sound (hT : TabOk P T) {γ : Gh} (w : World) {op : BinOp} {t : TypeId} {x y : PV} {u v : Value} {r : PV} (xo yo : Operand) (hx : Rep γ x u) (hy : Rep γ y v)
    (h : evalBin T op t x y = some (true, r)) : ValOk P γ w (do eqGuard op t xo yo u v; binOp op t u v) r := by
  unfold evalBin at h
  split at h
  · rename_i k a k' b
    split at h
    · rename_i hkk
      subst hkk
      simp only [Option.map_eq_some_iff, Prod.mk.injEq] at h
      obtain ⟨⟨c, d⟩, h1, h2, h3⟩ := h
      simp only at h2 h3
      subst h2; subst h3
      rw [rep_int hx, rep_int hy]
      obtain ⟨z, hz, hr⟩ := evalInt_sound (P := P) (γ := γ) w (xt := t) h1
      refine ⟨z, ?_, hr⟩
      have hg : (eqGuard op t xo yo (.int k a) (.int k b)).run P w = .ok () w := by cases op <;> simp [eqGuard]
      simp [hg, hz]
    · cases h
  · rename_i a b
    simp only [Option.map_eq_some_iff, Prod.mk.injEq] at h
    obtain ⟨⟨c, d⟩, h1, h2, h3⟩ := h
    simp only at h2 h3
    subst h2; subst h3
    rw [rep_str hx, rep_str hy]
    obtain ⟨z, hz, hr⟩ := evalStr_sound (P := P) (γ := γ) w (xt := t) h1
    refine ⟨z, ?_, hr⟩
    have hg : (eqGuard op t xo yo (.string ⟨a.toArray⟩) (.string ⟨b.toArray⟩)).run P w = .ok () w := by cases op <;> simp [eqGuard]
    simp [hg, hz]
  · rename_i a b
    split at h
    · rename_i ht
      obtain ⟨i, d, hi, hd, _, _, _, hk, _⟩ := hT.facts ht
      cases d <;> simp only [TK.of, reduceCtorEq] at hk
      rw [rep_bool hx, rep_bool hy]
      simp only [Option.map_eq_some_iff, Prod.mk.injEq] at h
      obtain ⟨⟨c, d⟩, h1, h2, h3⟩ := h
      simp only at h2 h3
      subst h2; subst h3
      have he : (Op.equal t (.bool a) (.bool b)).run P w = .ok (a == b) w := run_equalIn_bool w 9999 t a b hd
      cases op <;> simp only [evalBool, Option.some.injEq, Prod.mk.injEq, reduceCtorEq, true_and] at h1
      · subst h1
        exact ⟨.bool _, by simp [eqGuard, binOp, he], .d (.bool _)⟩
      · subst h1
        exact ⟨.bool _, by simp [eqGuard, binOp, he], .d (.bool _)⟩
    · cases h
  · rename_i xs ys
    split at h
    · rename_i fs z ht
      obtain ⟨i, d, hi, hd, _, _, _, hk, hes⟩ := hT.facts ht
      cases d <;> simp only [TK.of, reduceCtorEq, TK.struct.injEq] at hk
      rename_i fields
      simp only [eqSimple, hd] at hes
      have hes' := hes.symm
      simp only [Bool.and_eq_true, Bool.not_eq_true'] at hes'
      obtain ⟨⟨hst, hnames⟩, hgt⟩ := hes'
      obtain ⟨us, rfl, hxr, _⟩ := Rep.agg_iff.1 hx
      obtain ⟨vs, rfl, hyr, _⟩ := Rep.agg_iff.1 hy
      have hfo : P.fieldsOf t = fields := by simp [Program.fieldsOf, hd]
      have hst' := run_equalIn_struct (P := P) w 9999 t us.toArray vs.toArray (by rw [hfo]; exact hd) hst
      have hg := run_eqGuard_agg (P := P) w op t xo yo us.toArray vs.toArray hgt
      split at h
      · rename_i b hf
        simp only [Option.some.injEq, Prod.mk.injEq, true_and] at h
        subst h
        rw [← hk] at hf
        have he := eqFields_sound hT w 9998 hxr hyr fields.toList b hnames hf
        refine ⟨.bool b, ?_, .d (.bool b)⟩
        rw [Sem.run_bind, hg, Result.andThen_ok, run_eql_struct, hst', hfo, he]
        rfl
      · rename_i b hf
        simp only [Option.some.injEq, Prod.mk.injEq, true_and] at h
        subst h
        rw [← hk] at hf
        have he := eqFields_sound hT w 9998 hxr hyr fields.toList b hnames hf
        refine ⟨.bool (!b), ?_, .d (.bool _)⟩
        rw [Sem.run_bind, hg, Result.andThen_ok, run_neq_struct, hst', hfo, he]
        rfl
      · cases h
    · cases h
  · rename_i f a b
    have hy' : v = .nilFunc := by cases hy with | d h => cases h; rfl
    obtain ⟨vf, vc, rfl⟩ : ∃ vf vc, u = .func f vf vc := by cases hx; exact ⟨_, _, rfl⟩
    subst hy'
    exact eqFn_sound (q := false) hT w xo yo (fun _ _ _ hd => run_equalIn_fnil w 9999 t _ _ _ hd) h (.inl ⟨_, _, _, rfl⟩) rfl
  · rename_i f a b
    have hy' : v = .nilFunc := by cases hy with | d h => cases h; rfl
    obtain ⟨vf, vc, rfl⟩ : ∃ vf vc, u = .func f vf vc := by cases hx with | d h => cases h; exact ⟨_, _, rfl⟩
    subst hy'
    exact eqFn_sound (q := false) hT w xo yo (fun _ _ _ hd => run_equalIn_fnil w 9999 t _ _ _ hd) h (.inl ⟨_, _, _, rfl⟩) rfl
  · have hx' : u = .nilFunc := by cases hx with | d h => cases h; rfl
    have hy' : v = .nilFunc := by cases hy with | d h => cases h; rfl
    subst hx'; subst hy'
    exact eqFn_sound (q := true) hT w xo yo (fun _ _ _ hd => run_equalIn_nilnil w 9999 t hd) h (.inr rfl) rfl
  · cases h

theorem evalUn_sound {γ : Gh} (w : World) {op : UnOp} {x r : PV} {u : Value} (hx : Rep γ x u) (h : evalUn op x = some (true, r)) : ValOk P γ w (Op.unary op u) r := by
  unfold evalUn at h
  split at h
  · split at h
    · cases h; rw [rep_bool hx]; exact ⟨.bool _, by simp [Op.unary], .d (.bool _)⟩
    · cases h
  · split at h
    · rename_i k n _
      simp only [Option.some.injEq, Prod.mk.injEq] at h
      obtain ⟨h1, rfl⟩ := h
      rw [rep_int hx]; exact ⟨.int k (0 - n), by simp only [Op.unary, Op.intArith, wrap_id h1, Sem.run_pure], .d (.int _ _)⟩
    · cases h
  · cases h

/-! ### Structs -/

theorem setSub_len (l : List PV) (off : Nat) : ∀ cs : List PV, (setSub l off cs).length = l.length
  | [] => rfl
  | c :: cs => by rw [setSub, setSub_len _ _ cs]; simp
  termination_by cs => cs.length

theorem RepL.set {γ : Gh} {cs : List PV} {vs : List Value} (h : RepL γ cs vs) (i : Nat) {c : PV} {v : Value} (hc : Rep γ c v) : RepL γ (cs.set i c) (vs.set i v) :=
  ⟨by simp [h.1], fun j c' v' h1 h2 => by
    rw [List.getElem?_set] at h1 h2
    by_cases hij : i = j
    · subst hij
      rw [if_pos rfl] at h1 h2
      split at h1
      · split at h2
        · cases h1; cases h2; exact hc
        · cases h2
      · cases h1
    · rw [if_neg hij] at h1 h2
      exact h.2 j c' v' h1 h2⟩

/-- What the model's fold writes. -/
theorem fold_set (off : Nat) : ∀ (vs : List Value) (k : Nat) (cs : Array Value), ((vs.zipIdx k).foldl (fun cs (x : Value × Nat) => cs.setIfInBounds (off + x.2) x.1) cs) = (vs.zipIdx k).foldl (fun cs (x : Value × Nat) => cs.setIfInBounds (off + x.2) x.1) cs := fun _ _ _ => rfl

def setSubV (l : List Value) (off : Nat) : List Value → List Value
  | [] => l
  | c :: cs => setSubV (l.set off c) (off + 1) cs

theorem foldl_setSubV (off : Nat) : ∀ (vs : List Value) (k : Nat) (cs : Array Value),
    ((vs.zipIdx k).foldl (fun (cs : Array Value) (x : Value × Nat) => cs.setIfInBounds (off + x.2) x.1) cs) = (setSubV cs.toList (off + k) vs).toArray
  | [], k, cs => by simp [setSubV]
  | v :: vs, k, cs => by
    simp only [List.zipIdx_cons, List.foldl_cons]
    rw [foldl_setSubV off vs (k + 1) _]
    simp [setSubV, Nat.add_assoc]

theorem RepL.setSub {γ : Gh} : ∀ {us : List Value} {xs : List PV} {cs : List PV} {vs : List Value} (off : Nat), RepL γ cs vs → RepL γ xs us → RepL γ (PS.setSub cs off xs) (setSubV vs off us)
  | [], xs, cs, vs, off, h, hx => by
    have : xs = [] := List.eq_nil_of_length_eq_zero (by simpa using hx.1)
    subst this
    exact h
  | u :: us, xs, cs, vs, off, h, hx => by
    cases xs with
    | nil => have := hx.1; simp at this
    | cons x xs =>
      obtain ⟨v, vs', e, h1, h2⟩ := hx.cons_inv
      cases e
      exact RepL.setSub (off + 1) (h.set off h1) h2

theorem setSubV_mem {p : Value → Prop} : ∀ {us vs : List Value} (off : Nat), (∀ v ∈ vs, p v) → (∀ u ∈ us, p u) → ∀ v ∈ setSubV vs off us, p v
  | [], vs, off, h, _ => h
  | u :: us, vs, off, h, hu => setSubV_mem (off + 1) (fun v hv => by
      rcases List.mem_or_eq_of_mem_set hv with h' | h'
      · exact h v h'
      · subst h'; exact hu _ (by simp)) (fun x hx => hu x (by simp [hx]))

theorem setSubV_len : ∀ (us vs : List Value) (off : Nat), (setSubV vs off us).length = vs.length
  | [], vs, off => rfl
  | u :: us, vs, off => by rw [setSubV, setSubV_len us]; simp

theorem fillP_sound {γ : Gh} (place : Nat → Option (Nat × Nat)) : ∀ {parts : List (Nat × PV)} {vparts : List (Nat × Value)} {cells r : List PV} {vs : List Value},
    parts.length = vparts.length → (∀ (i : Nat) (p : Nat × PV) (q : Nat × Value), parts[i]? = some p → vparts[i]? = some q → p.1 = q.1 ∧ Rep γ p.2 q.2) →
    RepL γ cells vs → (∀ v ∈ vs, v.oneCell' = true) → fillP place cells parts = some r →
    ∃ us : List Value, Instr.fill place vs.toArray vparts = some us.toArray ∧ RepL γ r us ∧ (∀ v ∈ us, v.oneCell' = true) ∧ us.length = vs.length
  | [], vparts, cells, r, vs, hl, _, hr, h1, h => by
    have : vparts = [] := List.eq_nil_of_length_eq_zero (by simpa using hl.symm)
    subst this
    simp only [fillP, Option.some.injEq] at h
    subst h
    exact ⟨vs, rfl, hr, h1, rfl⟩
  | (i, x) :: parts, vparts, cells, r, vs, hl, hp, hr, h1, h => by
    cases vparts with
    | nil => simp at hl
    | cons q vparts =>
      obtain ⟨j, v⟩ := q
      obtain ⟨hij, hxv⟩ := hp 0 (i, x) (j, v) rfl rfl
      simp only at hij hxv
      subst hij
      simp only [fillP] at h
      cases hpl : place i with
      | none => simp [hpl] at h
      | some os =>
        obtain ⟨off, size⟩ := os
        simp only [hpl] at h
        cases hc : (Nat.beq x.cells.length size && Nat.ble (off + size) cells.length && x.cells.all PV.cell) with
        | false => simp [hc] at h
        | true =>
          simp only [hc, cond_true] at h
          simp only [Bool.and_eq_true] at hc
          obtain ⟨⟨hc1, hc2⟩, hc3⟩ := hc
          have hsz := Nat.eq_of_beq_eq_true hc1
          have hle := Nat.le_of_ble_eq_true hc2
          obtain ⟨hrc, h1c⟩ := hxv.cells hc3
          have hvs : v.cells.size = size := by rw [← Array.length_toList, ← hrc.1]; exact hsz
          obtain ⟨us, hu, h2, h3, h4⟩ := fillP_sound place (by simpa using hl) (fun k p q hk hq => hp (k + 1) p q (by simpa using hk) (by simpa using hq)) (hr.setSub off hrc) (setSubV_mem off h1 h1c) h
          refine ⟨us, ?_, h2, h3, by rw [h4, setSubV_len]⟩
          have hno : ¬ (v.cells.size ≠ size ∨ off + v.cells.size > vs.length) := by
            rw [← hr.1, hvs]; omega
          have hf := foldl_setSubV off v.cells.toList 0 vs.toArray
          simp only [Nat.add_zero] at hf
          simp only [Instr.fill, hpl]
          rw [if_neg (by simpa using hno)]
          rw [← hu]
          congr 1
          rw [← hf, ← Array.toList_zipIdx, Array.foldl_toList]

theorem placesOf_run (hT : TabOk P T) (w : World) : ∀ (fs : List Field) (ps : List (Nat × Nat)), placesOf T (fs.map fun f => (f.offset, f.type)) = some ps →
    (fs.mapM (fun f => do pure (f.offset, ← sizeOf f.type) : Field → Sem (Nat × Nat))).run P w = .ok ps w
  | [], ps, h => by simp only [List.map_nil, placesOf, Option.some.injEq] at h; subst h; rfl
  | f :: fs, ps, h => by
    simp only [List.map_cons, placesOf] at h
    split at h
    · rename_i ti r ht hr
      simp only [Option.some.injEq] at h
      subst h
      obtain ⟨i, d, hi, hd, hz, hs, _⟩ := hT.facts ht
      have ih := placesOf_run hT w fs r hr
      simp only [List.mapM_cons, Sem.run_bind, run_sizeOf hi, Result.andThen_ok, Sem.run_pure, ih, hs]
    · cases h

theorem evalBuild_sound (hT : TabOk P T) {γ : Gh} (w : World) {t : TypeId} {parts : List (Nat × PV)} {vparts : Array (Nat × Value)} {r : PV} (hl : parts.length = vparts.toList.length)
    (hp : ∀ (i : Nat) (p : Nat × PV) (q : Nat × Value), parts[i]? = some p → vparts.toList[i]? = some q → p.1 = q.1 ∧ Rep γ p.2 q.2) (h : evalBuild T t parts = some r) : ValOk P γ w (Instr.build t vparts) r := by
  unfold evalBuild at h
  split at h
  · rename_i fs z e ht
    obtain ⟨i, d, hi, hd, hz, hs, _, hk, _⟩ := hT.facts ht
    cases d <;> simp only [TK.of, reduceCtorEq, TK.struct.injEq] at hk
    rename_i fields
    split at h
    · rename_i ps zc hps hzc
      simp only [Option.map_eq_some_iff] at h
      obtain ⟨cells, hf, rfl⟩ := h
      rw [← hk] at hps
      have hrz := rep_ofConst γ z
      rw [hzc] at hrz
      obtain ⟨vs, rfl, hrz, h1z⟩ := Rep.agg_iff.1 hrz
      obtain ⟨us, hu, h2, h3, _⟩ := fillP_sound (fun i => ps[i]?) hl hp hrz h1z hf
      refine ⟨.agg us.toArray, ?_, Rep.agg_iff.2 ⟨us, rfl, h2, h3⟩⟩
      have hpl := placesOf_run hT w fields.toList ps hps
      have hpl' : (fields.mapM (fun f => do pure (f.offset, ← sizeOf f.type) : Field → Sem (Nat × Nat))).run P w = .ok ps.toArray w := by
        rw [Array.mapM_eq_mapM_toList, Sem.run_map, hpl]
        rfl
      have hu' : Instr.fill (fun x => ps.toArray[x]?) vs.toArray vparts.toList = some us.toArray := by simpa using hu
      simp only [Instr.build, Sem.run_bind, run_zeroValue hi hz, Result.andThen_ok, run_underlying hd, hpl', Value.cells, hu', Sem.run_pure]
    · cases h
  · rename_i n e z es ht
    obtain ⟨i, d, hi, hd, hz, hs, _, hk, _⟩ := hT.facts ht
    cases d <;> simp only [TK.of, reduceCtorEq, TK.array.injEq] at hk
    obtain ⟨rfl, rfl⟩ := hk
    split at h
    · rename_i te zc hte hzc
      simp only [Option.map_eq_some_iff] at h
      obtain ⟨cells, hf, rfl⟩ := h
      obtain ⟨i', d', hi', hd', hz', hs', _⟩ := hT.facts hte
      have hrz := rep_ofConst γ z
      rw [hzc] at hrz
      obtain ⟨vs, rfl, hrz, h1z⟩ := Rep.agg_iff.1 hrz
      obtain ⟨us, hu, h2, h3, _⟩ := fillP_sound (fun i => some (i * te.size, te.size)) hl hp hrz h1z hf
      refine ⟨.agg us.toArray, ?_, Rep.agg_iff.2 ⟨us, rfl, h2, h3⟩⟩
      simp only [Instr.build, Sem.run_bind, run_zeroValue hi hz, Result.andThen_ok, run_underlying hd, run_sizeOf hi', hs', Value.cells, hu, Sem.run_pure]
    · cases h
  · cases h

end Go.PS
namespace Go.PS
open Go Go.RowKit

variable {P : Program} {T : Nat → Option TI}

theorem addr_add (b o n : Nat) : (⟨b, o, none⟩ : Addr).add n = ⟨b, o + n, none⟩ := by
  unfold Addr.add
  split
  · rename_i h; subst h; rfl
  · rfl

theorem rep_ref_drop {γ : Gh} {cs : List D} {b o : Nat} {f : Nat → Value} (hk : ∀ (j : Nat) (d : D), cs[j]? = some d → γ.K b (o + j) = some (f j))
    (h1 : ∀ (j : Nat) (d : D), cs[j]? = some d → (f j).oneCell' = true) (hr : ∀ (j : Nat) (d : D), cs[j]? = some d → RepD γ.K d (f j)) (off : Nat) :
    Rep γ (.d (.ref (cs.drop off))) (.pointer (some ⟨b, o + off, none⟩)) := by
  refine .d (.ref _ b (o + off) (fun j => f (off + j)) ?_ ?_ ?_)
  · intro j d hj; rw [List.getElem?_drop] at hj; have := hk _ d hj; rwa [← Nat.add_assoc] at this
  · intro j d hj; rw [List.getElem?_drop] at hj; exact h1 _ d hj
  · intro j d hj; rw [List.getElem?_drop] at hj; exact hr _ d hj

theorem evalFieldAddr_sound (hT : TabOk P T) {γ : Gh} (w : World) {s : TypeId} {x : PV} {xv : Value} {f : Nat} {v : PV} (hx : Rep γ x xv) (h : evalFieldAddr T s x f = some (true, v)) : ValOk P γ w (Instr.fieldAt s xv f) v := by
  unfold evalFieldAddr at h
  split at h
  · rename_i fs z e hs
    split at h
    · rename_i off t hf
      split at h
      · rename_i ti ht
        obtain ⟨i, d, hi, hd, _, _, _, hk, _⟩ := hT.facts hs
        obtain ⟨i', d', hi', hd', _, hsz, _, hk', _⟩ := hT.facts ht
        cases d <;> simp only [TK.of, reduceCtorEq, TK.struct.injEq] at hk
        rename_i fields
        rw [← hk] at hf
        simp only [List.getElem?_map, Option.map_eq_some_iff, Prod.mk.injEq] at hf
        obtain ⟨fd, hfd, rfl, rfl⟩ := hf
        have hfd' : fields[f]? = some fd := by simpa using hfd
        have run : ∀ b o, ti.size ≠ 0 → (Instr.fieldAt s (.pointer (some ⟨b, o, none⟩)) f).run P w = .ok (.pointer (some ⟨b, o + fd.offset, none⟩)) w := by
          intro b o hne
          simp [Instr.fieldAt, run_underlying hd, hfd', Instr.sureAddr, fieldPlace, run_sizeOf hi', hsz, hne, addr_add]
        split at h
        · rename_i id k o
          simp only [Option.some.injEq, Prod.mk.injEq, Bool.not_eq_true'] at h
          obtain ⟨h0, rfl⟩ := h
          have hne : ti.size ≠ 0 := fun e => by rw [e] at h0; simp at h0
          obtain ⟨blk, sz, hm, rfl⟩ := rep_hp hx
          refine ⟨_, run _ _ hne, ?_⟩
          rw [Nat.add_assoc]
          exact .hp hm
        · rename_i cs
          simp only [Option.some.injEq, Prod.mk.injEq, Bool.not_eq_true'] at h
          obtain ⟨h0, rfl⟩ := h
          have hne : ti.size ≠ 0 := fun e => by rw [e] at h0; simp at h0
          obtain ⟨b, o, g, rfl, hk1, h1, hr⟩ := rep_ref hx
          exact ⟨_, run _ _ hne, rep_ref_drop hk1 h1 hr _⟩
        · cases h
      · cases h
    · cases h
  · cases h

theorem rep_elem {γ : Gh} {sz : Nat} {xs : List D} {v : Value} (h : RepD γ.K (.sl sz xs) v) {n : Nat} (hn : n < xs.length) :
    ∃ b o c, v = .slice (some ⟨b, o, none⟩) xs.length c ∧ Rep γ (.d (.ref (xs.getD n .nilp).cells)) (.pointer (some ⟨b, o + n * sz, none⟩)) := by
  cases h with
  | sl _ _ a c b o f hc ha hs hk h1 hr =>
    have hne : xs ≠ [] := fun e => by subst e; simp at hn
    have hx : xs[n]? = some (xs.getD n .nilp) := by simp [List.getD, hn]
    exact ⟨b, o, c, by rw [ha hne], .d (.ref _ b (o + n * sz) (fun j => f n j) (fun j d hd => hk n j _ d hx hd) (fun j d hd => h1 n j _ d hx hd) (fun j d hd => hr n j _ d hx hd))⟩

theorem evalIndexAddr_sound (hT : TabOk P T) {γ : Gh} (w : World) {t : TypeId} {x i : PV} {xv iv : Value} {v : PV} (hx : Rep γ x xv) (hi : Rep γ i iv) (h : evalIndexAddr T t x i = some (true, v)) : ValOk P γ w (Instr.indexAt t xv iv) v := by
  unfold evalIndexAddr at h
  split at h
  · rename_i e z es k n ht
    obtain ⟨inf, d, hinf, hd, _, _, _, hk, _⟩ := hT.facts ht
    cases d <;> simp only [TK.of, reduceCtorEq, TK.slice.injEq] at hk
    subst hk
    rw [rep_int hi]
    split at h
    · rename_i te hte
      obtain ⟨i', d', hi', hd', _, hsz, _, _, _⟩ := hT.facts hte
      have run : ∀ (b o len cap : Nat), 0 ≤ n → n < (len : Int) → (Instr.indexAt t (.slice (some ⟨b, o, none⟩) len cap) (.int k n)).run P w = .ok (.pointer (some ⟨b, o + n.toNat * te.size, none⟩)) w := by
        intro b o len cap h0 h1
        simp [Instr.indexAt, asIntOf, run_underlying hd, h0, h1, run_sizeOf hi', hsz, addr_add]
      split at h
      · rename_i id sz lo len cap
        simp only [Option.some.injEq, Prod.mk.injEq, Bool.and_eq_true, decide_eq_true_eq] at h
        obtain ⟨⟨⟨h0, h1⟩, h2⟩, rfl⟩ := h
        have hse := Nat.eq_of_beq_eq_true h0
        subst hse
        cases hx with
        | hrow hm =>
          refine ⟨_, run _ _ _ _ h1 h2, ?_⟩
          have := Rep.hp (γ := γ) (i := lo + n.toNat) (off := 0) hm
          rw [Nat.add_mul, Nat.add_zero] at this
          exact this
      · split at h
        · rename_i sz xs hsl
          simp only [Option.some.injEq, Prod.mk.injEq, Bool.and_eq_true, decide_eq_true_eq] at h
          obtain ⟨⟨⟨h0, h1⟩, h2⟩, rfl⟩ := h
          have hse := Nat.eq_of_beq_eq_true h0
          subst hse
          obtain ⟨b, o, c, rfl, hr⟩ := rep_elem (asSl_rep hx hsl) (n := n.toNat) (by omega)
          exact ⟨_, run _ _ _ _ h1 h2, hr⟩
        · cases h
    · cases h
  · rename_i m e z es k n ht
    obtain ⟨inf, d, hinf, hd, _, _, _, hk, _⟩ := hT.facts ht
    cases d <;> simp only [TK.of, reduceCtorEq, TK.array.injEq] at hk
    rename_i len' elem'
    obtain ⟨hk1, hk2⟩ := hk
    subst hk1; subst hk2
    rw [rep_int hi]
    split at h
    · rename_i te hte
      obtain ⟨i', d', hi', hd', _, hsz, _, _, _⟩ := hT.facts hte
      have run : ∀ (b o : Nat), 0 ≤ n → n < (len' : Int) → (Instr.indexAt t (.pointer (some ⟨b, o, none⟩)) (.int k n)).run P w = .ok (.pointer (some ⟨b, o + n.toNat * te.size, none⟩)) w := by
        intro b o h0 h1
        simp [Instr.indexAt, asIntOf, run_underlying hd, Instr.sureAddr, h0, h1, run_sizeOf hi', hsz, addr_add]
      split at h
      · simp only [Option.some.injEq, Prod.mk.injEq, Bool.and_eq_true, decide_eq_true_eq] at h
        obtain ⟨⟨h1, h2⟩, rfl⟩ := h
        obtain ⟨blk, sz, hm, rfl⟩ := rep_hp hx
        refine ⟨_, run _ _ h1 h2, ?_⟩
        rw [Nat.add_assoc]
        exact .hp hm
      · simp only [Option.some.injEq, Prod.mk.injEq, Bool.and_eq_true, decide_eq_true_eq] at h
        obtain ⟨⟨h1, h2⟩, rfl⟩ := h
        obtain ⟨b, o, g, rfl, hk1, hc1, hr⟩ := rep_ref hx
        exact ⟨_, run _ _ h1 h2, rep_ref_drop hk1 hc1 hr _⟩
      · cases h
    · cases h
  · cases h

theorem evalIndex_sound (hT : TabOk P T) {γ : Gh} (w : World) {t : TypeId} {x i : PV} {xv iv : Value} {v : PV} (hx : Rep γ x xv) (hi : Rep γ i iv) (h : evalIndex T t x i = some (true, v)) : ValOk P γ w (Instr.index t xv iv) v := by
  unfold evalIndex at h
  split at h
  · rename_i z es k n ht
    obtain ⟨inf, d, hinf, hd, _, _, _, hk, _⟩ := hT.facts ht
    cases d <;> simp only [TK.of, reduceCtorEq] at hk
    rw [rep_int hi]
    split at h
    · rename_i l
      simp only [Option.some.injEq, Prod.mk.injEq, Bool.and_eq_true, decide_eq_true_eq] at h
      obtain ⟨⟨h1, h2⟩, rfl⟩ := h
      rw [rep_str hx]
      have hlt : n.toNat < l.length := by omega
      have hg : (ByteArray.mk l.toArray)[n.toNat]? = some (l.getD n.toNat 0) := by
        have h3 : n.toNat < (ByteArray.mk l.toArray).size := by simpa [ByteArray.size] using hlt
        rw [getElem?_pos (ByteArray.mk l.toArray) n.toNat h3]
        simp [List.getD, hlt, ByteArray.getElem_eq_getElem_data]
      refine ⟨.int .u8 ((l.getD n.toNat 0).toNat : Int), ?_, .d (.int _ _)⟩
      simp only [Instr.index, asIntOf, Sem.run_bind, Sem.run_pure, Result.andThen_ok, run_underlying hd, h1, if_true, hg]
    · cases h
  · rename_i m e z es k n ht
    obtain ⟨inf, d, hinf, hd, _, _, _, hk, _⟩ := hT.facts ht
    cases d <;> simp only [TK.of, reduceCtorEq, TK.array.injEq] at hk
    rename_i len' elem'
    obtain ⟨hk1, hk2⟩ := hk
    subst hk1; subst hk2
    rw [rep_int hi]
    split at h
    · rename_i te cs hte
      obtain ⟨i', d', hi', hd', _, hsz, _, hk', _⟩ := hT.facts hte
      simp only [Option.some.injEq, Prod.mk.injEq, Bool.and_eq_true, decide_eq_true_eq] at h
      obtain ⟨⟨⟨h1, h2⟩, h3⟩, rfl⟩ := h
      obtain ⟨vs, rfl, hr, hc1⟩ := Rep.agg_iff.1 hx
      obtain ⟨u, hu, hur⟩ := part_sound hT w hte hr hc1 (Nat.le_of_ble_eq_true h3)
      refine ⟨u, ?_, hur⟩
      simp [Instr.index, asIntOf, run_underlying hd, h1, h2, run_sizeOf hi', hsz, hu]
    · cases h
  · cases h

/-- What an object of the walk's own holds. -/
theorem obj_cells {M : Nat → Prop} {γ : Gh} {w : World} {blk : Nat} {o : OB} {cs : Array Value} (hok : ObjOk M γ w blk o cs) (hty : Nat.ble mapTag o.ty = false) {i : Nat} (hi : i < o.elems.length) :
    ∃ vs : List Value, RepL γ (o.elems.getD i .any).cells vs ∧ (∀ u ∈ vs, u.oneCell' = true) ∧ ∀ (j : Nat) (u : Value), vs[j]? = some u → w.cell? ⟨blk, i * o.sz + j, none⟩ = some u := by
  have hx : o.elems[i]? = some (o.elems.getD i .any) := by simp [List.getD, hi]
  have hsz := hok.size _ (List.mem_of_getElem? hx)
  have hfl := flatMap_len PV.cells o.sz o.elems hok.size
  have hcl : cs.toList.length = o.elems.length * o.sz := by rw [← hok.rep.1]; exact hfl
  have hle : i * o.sz + o.sz ≤ o.elems.length * o.sz := by rw [← Nat.succ_mul]; exact Nat.mul_le_mul_right _ hi
  have hget : ∀ j, j < o.sz → ((cs.toList.drop (i * o.sz)).take o.sz)[j]? = cs.toList[i * o.sz + j]? := fun j hj => by rw [List.getElem?_take, if_pos hj, List.getElem?_drop]
  refine ⟨(cs.toList.drop (i * o.sz)).take o.sz, ⟨?_, ?_⟩, fun u hu => hok.one u (List.mem_of_mem_drop (List.mem_of_mem_take hu)), ?_⟩
  · rw [List.length_take, List.length_drop, hcl, hsz]; omega
  · intro j c v hc hv
    have hj : j < o.sz := by rw [← hsz]; exact (List.getElem?_eq_some_iff.1 hc).1
    rw [hget j hj] at hv
    have := flatMap_get PV.cells o.sz o.elems hok.size i j hj
    rw [hx] at this
    exact hok.rep.2 _ c v (this.trans hc) hv
  · intro j u hu
    have hj : j < o.sz := by
      have := (List.getElem?_eq_some_iff.1 hu).1
      rw [List.length_take] at this; omega
    rw [hget j hj] at hu
    obtain ⟨spare, hheap⟩ := hok.heap
    rw [objOf_cells hty] at hheap
    have hlt : i * o.sz + j < cs.size := by have := (List.getElem?_eq_some_iff.1 hu).1; simpa using this
    simp only [World.cell?, hheap]
    simpa [Array.getElem?_append, hlt] using hu

theorem run_loadVar_cells (w : World) {t : TypeId} {ti : TI} (hT : TabOk P T) (ht : T t = some ti) {γ : Gh} {b o : Nat} {cs : List PV} {vs : List Value} (hr : RepL γ cs vs) (h1 : ∀ u ∈ vs, u.oneCell' = true)
    (hc : ∀ (j : Nat) (u : Value), vs[j]? = some u → w.cell? ⟨b, o + j, none⟩ = some u) (hle : (bif ti.k.agg then ti.size else 1) ≤ cs.length) :
    ValOk P γ w (loadVar t ⟨b, o, none⟩) (bif ti.k.agg then .agg (cs.take ti.size) else cs.getD 0 .any) := by
  obtain ⟨i, d, hi, hd, hz, hs, hb, hk, _⟩ := hT.facts ht
  unfold loadVar ValOk
  simp only [Sem.run_bind, run_isAgg hd, Result.andThen_ok, hk]
  cases ha : ti.k.agg with
  | true =>
    rw [ha] at hle
    simp only [cond_true] at hle ⊢
    have hlen : (vs.take ti.size).length = ti.size := by rw [List.length_take, ← hr.1]; omega
    have hl := run_loadCells_list (P := P) w ⟨b, o, none⟩ (vs.take ti.size) (fun j v hv => by
      rw [addr_add]
      rw [List.getElem?_take] at hv
      split at hv
      · exact hc j v hv
      · cases hv)
    rw [hlen] at hl
    simp only [if_true, Sem.run_bind, run_sizeOf hi, Result.andThen_ok, hs, hl, Sem.run_pure]
    refine ⟨_, rfl, Rep.agg_iff.2 ⟨vs.take ti.size, rfl, ⟨by simp [hr.1], ?_⟩, fun u hu => h1 u (List.mem_of_mem_take hu)⟩⟩
    intro i c v hc hv
    rw [List.getElem?_take] at hc hv
    split at hc
    · rename_i h; rw [if_pos h] at hv; exact hr.2 _ c v hc hv
    · cases hc
  | false =>
    rw [ha] at hle
    simp only [cond_false] at hle ⊢
    have hcl : 0 < cs.length := by omega
    have hvl : 0 < vs.length := by rw [← hr.1]; exact hcl
    have := hc 0 vs[0] (List.getElem?_eq_getElem hvl)
    simp only [Nat.add_zero] at this
    simp only [Bool.false_eq_true, if_false, run_load, this]
    refine ⟨_, rfl, ?_⟩
    simp only [List.getD, List.getElem?_eq_getElem hcl, Option.getD_some]
    exact hr.2 0 _ _ (List.getElem?_eq_getElem hcl) (List.getElem?_eq_getElem hvl)

theorem RepL.drop {γ : Gh} {cs : List PV} {vs : List Value} (h : RepL γ cs vs) (n : Nat) : RepL γ (cs.drop n) (vs.drop n) :=
  ⟨by simp [h.1], fun i c v hc hv => by rw [List.getElem?_drop] at hc hv; exact h.2 _ c v hc hv⟩

theorem evalLoad_sound (hT : TabOk P T) {E : Env} {γ : Gh} {own ob tk} {w : World} (hw : ConcW E γ own ob tk w) {t : TypeId} {a : PV} {av : Value} {v : PV} (ha : Rep γ a av) (h : evalLoad T t a ob = some (true, v)) :
    ValOk P γ w (Instr.loadAt t av) v := by
  unfold evalLoad at h
  split at h
  · cases h
  · rename_i ti ht
    split at h
    · rename_i id i off
      split at h
      · rename_i o ho
        simp only [Option.some.injEq, Prod.mk.injEq, Bool.and_eq_true] at h
        obtain ⟨⟨⟨h0, h1⟩, h2⟩, rfl⟩ := h
        have hty : Nat.ble mapTag o.ty = false := by simpa [mapTag] using h0
        have hi := Nat.lt_of_lt_of_le (Nat.lt_succ_self _) (Nat.le_of_ble_eq_true (by simpa [Nat.blt] using h1))
        have hle := Nat.le_of_ble_eq_true h2
        obtain ⟨blk, cs, hm, hok⟩ := hw.obj id o ho
        obtain ⟨blk', sz', hm', rfl⟩ := rep_hp ha
        rw [hm] at hm'; cases hm'
        obtain ⟨vs, hr, hv1, hc⟩ := obj_cells hok hty hi
        have := run_loadVar_cells (P := P) w hT ht (b := blk) (o := i * o.sz + off) (hr.drop off) (fun u hu => hv1 u (List.mem_of_mem_drop hu))
          (fun j u hu => by rw [List.getElem?_drop] at hu; have := hc _ u hu; rwa [← Nat.add_assoc] at this) (by rw [List.length_drop]; omega)
        obtain ⟨u, hu, hur⟩ := this
        refine ⟨u, by simp [Instr.loadAt, Instr.sureAddr, hu], ?_⟩
        have e : subPV (o.elems.getD i .any) ti.k.agg off ti.size = (bif ti.k.agg then PV.agg (((o.elems.getD i .any).cells.drop off).take ti.size) else ((o.elems.getD i .any).cells.drop off).getD 0 .any) := by
          unfold subPV
          congr 1
          simp [List.getD]
        rw [e]
        exact hur
      · cases h
    · rename_i cs
      simp only [Option.some.injEq, Prod.mk.injEq] at h
      obtain ⟨h1, rfl⟩ := h
      have hle := Nat.le_of_ble_eq_true h1
      obtain ⟨b, o, f, rfl, hk, hc1, hr⟩ := rep_ref ha
      have hrl : RepL γ (cs.map .d) ((List.range cs.length).map f) := ⟨by simp, fun j c v hc hv => by
        simp only [List.getElem?_map, Option.map_eq_some_iff] at hc hv
        obtain ⟨x, hx, rfl⟩ := hc
        obtain ⟨j', hj', rfl⟩ := hv
        have hj : j < cs.length := (List.getElem?_eq_some_iff.1 hx).1
        have : j' = j := by simpa [List.getElem?_range hj] using hj'.symm
        subst this
        exact .d (hr _ _ hx)⟩
      have hmem : ∀ (j : Nat) (u : Value), ((List.range cs.length).map f)[j]? = some u → ∃ d, cs[j]? = some d ∧ u = f j := by
        intro j u hu
        simp only [List.getElem?_map, Option.map_eq_some_iff] at hu
        obtain ⟨j', hj', rfl⟩ := hu
        have hj : j < cs.length := by
          rcases Nat.lt_or_ge j cs.length with hl | hl
          · exact hl
          · rw [List.getElem?_eq_none (by simpa using hl)] at hj'; cases hj'
        have : j' = j := by simpa [List.getElem?_range hj] using hj'.symm
        subst this
        exact ⟨_, List.getElem?_eq_getElem hj, rfl⟩
      have := run_loadVar_cells (P := P) w hT ht (b := b) (o := o) hrl (fun u hu => by
          obtain ⟨j, hj⟩ := List.mem_iff_getElem?.1 hu
          obtain ⟨d, hd, rfl⟩ := hmem j u hj
          exact hc1 _ _ hd)
        (fun j u hu => by obtain ⟨d, hd, rfl⟩ := hmem j u hu; exact (hw.ksub _ _ _ (hk _ _ hd)).cell (hc1 _ _ hd)) (by simpa using hle)
      obtain ⟨u, hu, hur⟩ := this
      refine ⟨u, by simp [Instr.loadAt, Instr.sureAddr, hu], ?_⟩
      have e : (bif ti.k.agg then PV.agg ((cs.take ti.size).map PV.d) else PV.d (cs.getD 0 .nilp)) = (bif ti.k.agg then PV.agg ((cs.map PV.d).take ti.size) else (cs.map PV.d).getD 0 .any) := by
        cases hag : ti.k.agg with
        | true => simp [List.map_take]
        | false =>
          rw [hag] at hle
          simp only [cond_false] at hle
          simp [List.getD, show 0 < cs.length by omega]
      rw [e]
      exact hur
    · cases h

end Go.PS

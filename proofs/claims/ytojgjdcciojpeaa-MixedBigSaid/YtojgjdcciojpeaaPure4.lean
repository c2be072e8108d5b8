/-
  Rows of cells, and how worlds grow.
-/
import Derived.Test.YtojgjdcciojpeaaPure3
namespace Go.PS
open Go Go.RowKit

theorem flatMap_get {α β : Type} (f : α → List β) (sz : Nat) : ∀ (xs : List α), (∀ x ∈ xs, (f x).length = sz) → ∀ i r, r < sz → (xs.flatMap f)[i * sz + r]? = (xs[i]?).bind fun x => (f x)[r]?
  | [], _, i, r, _ => by simp
  | x :: xs, h, i, r, hr => by
    have hx := h x (by simp)
    simp only [List.flatMap_cons]
    cases i with
    | zero => simp [List.getElem?_append_left (show r < (f x).length by omega)]
    | succ i =>
      rw [List.getElem?_append_right (by rw [hx, Nat.add_mul]; omega)]
      have e : (i + 1) * sz + r - (f x).length = i * sz + r := by rw [hx, Nat.add_mul]; omega
      rw [e]
      simpa using flatMap_get f sz xs (fun y hy => h y (by simp [hy])) i r hr

theorem flatMap_len {α β : Type} (f : α → List β) (sz : Nat) : ∀ (xs : List α), (∀ x ∈ xs, (f x).length = sz) → (xs.flatMap f).length = xs.length * sz
  | [], _ => by simp
  | x :: xs, h => by
    have := flatMap_len f sz xs (fun y hy => h y (by simp [hy]))
    simp [List.flatMap_cons, h x (by simp), this, Nat.add_mul, Nat.add_comm]

theorem split_index {n sz j : Nat} (h : j < n * sz) : j / sz < n ∧ j % sz < sz ∧ j = j / sz * sz + j % sz := by
  have hs : 0 < sz := by
    rcases Nat.eq_zero_or_pos sz with h0 | h0
    · subst h0; simp at h
    · exact h0
  exact ⟨(Nat.div_lt_iff_lt_mul hs).2 h, Nat.mod_lt _ hs, by rw [Nat.mul_comm]; exact (Nat.div_add_mod j sz).symm⟩

theorem RepD.sl_flat {K} {sz : Nat} {xs : List D} {v : Value} (h : RepD K (.sl sz xs) v) :
    ∃ a c, v = .slice a xs.length c ∧ xs.length ≤ c ∧ (∀ x ∈ xs, x.cells.length = sz) ∧ (xs ≠ [] → ∃ b o vals, a = some ⟨b, o, none⟩ ∧ vals.length = xs.length * sz ∧
      (∀ (j : Nat) (u : Value), vals[j]? = some u → K b (o + j) = some u) ∧ RepDL K (xs.flatMap D.cells) vals ∧ ∀ u ∈ vals, u.oneCell' = true) := by
  cases h with
  | sl _ _ a c b o f hc ha hs hk h1 hr =>
    have hs' : ∀ x ∈ xs, x.cells.length = sz := fun x hx => by
      obtain ⟨i, hi⟩ := List.mem_iff_getElem?.1 hx
      exact hs i x hi
    refine ⟨a, c, rfl, hc, hs', fun hne => ⟨b, o, (List.range (xs.length * sz)).map fun j => f (j / sz) (j % sz), ha hne, by simp, ?_, ?_, ?_⟩⟩
    · intro j u hu
      simp only [List.getElem?_map, Option.map_eq_some_iff] at hu
      obtain ⟨j', hj', rfl⟩ := hu
      have hj : j < xs.length * sz := by
        rcases Nat.lt_or_ge j (xs.length * sz) with hl | hl
        · exact hl
        · rw [List.getElem?_eq_none (by simpa using hl)] at hj'; cases hj'
      have : j' = j := by simpa [List.getElem?_range hj] using hj'.symm
      subst this
      obtain ⟨h1, h2, h3⟩ := split_index hj
      have hx := List.getElem?_eq_getElem h1
      have hl := hs _ _ hx
      have hd := List.getElem?_eq_getElem (show j' % sz < (xs[j' / sz]).cells.length by omega)
      have := hk _ _ _ _ hx hd
      rwa [Nat.add_assoc, ← h3] at this
    · refine ⟨by rw [flatMap_len D.cells sz xs hs']; simp, fun j d u hd hu => ?_⟩
      simp only [List.getElem?_map, Option.map_eq_some_iff] at hu
      obtain ⟨j', hj', rfl⟩ := hu
      have hj : j < xs.length * sz := by
        rcases Nat.lt_or_ge j (xs.length * sz) with hl | hl
        · exact hl
        · rw [List.getElem?_eq_none (by simpa using hl)] at hj'; cases hj'
      have : j' = j := by simpa [List.getElem?_range hj] using hj'.symm
      subst this
      obtain ⟨h1, h2, h3⟩ := split_index hj
      have hx := List.getElem?_eq_getElem h1
      rw [h3, flatMap_get D.cells sz xs hs' _ _ h2, hx] at hd
      exact hr _ _ _ _ hx (by simpa using hd)
    · intro u hu
      simp only [List.mem_map, List.mem_range] at hu
      obtain ⟨j, hj, rfl⟩ := hu
      obtain ⟨h1', h2, h3⟩ := split_index hj
      have hx := List.getElem?_eq_getElem h1'
      have hl := hs _ _ hx
      exact h1 _ _ _ _ hx (List.getElem?_eq_getElem (show j % sz < (xs[j / sz]).cells.length by omega))

theorem RepD.of_flat {K} {sz : Nat} {xs : List D} (hs : ∀ x ∈ xs, x.cells.length = sz) {b o c : Nat} (hc : xs.length ≤ c) {vals : List Value}
    (hk : ∀ (j : Nat) (u : Value), vals[j]? = some u → K b (o + j) = some u) (hr : RepDL K (xs.flatMap D.cells) vals) (h1 : ∀ u ∈ vals, u.oneCell' = true) :
    RepD K (.sl sz xs) (.slice (some ⟨b, o, none⟩) xs.length c) := by
  have hlen : vals.length = xs.length * sz := by rw [← hr.1, flatMap_len D.cells sz xs hs]
  have hget : ∀ (i j : Nat) (x d : D), xs[i]? = some x → x.cells[j]? = some d → (xs.flatMap D.cells)[i * sz + j]? = some d ∧ ∃ u, vals[i * sz + j]? = some u := by
    intro i j x d hx hd
    have hj : j < sz := by rw [← hs x (List.mem_of_getElem? hx)]; exact (List.getElem?_eq_some_iff.1 hd).1
    have hf : (xs.flatMap D.cells)[i * sz + j]? = some d := by rw [flatMap_get D.cells sz xs hs i j hj, hx]; exact hd
    refine ⟨hf, ?_⟩
    have hlt : i * sz + j < vals.length := by rw [← hr.1]; exact (List.getElem?_eq_some_iff.1 hf).1
    exact ⟨_, List.getElem?_eq_getElem hlt⟩
  refine .sl sz xs (some ⟨b, o, none⟩) c b o (fun i j => vals.getD (i * sz + j) undef) hc (fun _ => rfl) (fun i x hx => hs x (List.mem_of_getElem? hx)) ?_ ?_ ?_
  · intro i j x d hx hd
    obtain ⟨_, u, hu⟩ := hget i j x d hx hd
    have := hk _ _ hu
    simp only [List.getD, hu, Option.getD_some]
    rwa [← Nat.add_assoc] at this
  · intro i j x d hx hd
    obtain ⟨_, u, hu⟩ := hget i j x d hx hd
    simp only [List.getD, hu, Option.getD_some]
    exact h1 u (List.mem_of_getElem? hu)
  · intro i j x d hx hd
    obtain ⟨hf, u, hu⟩ := hget i j x d hx hd
    simp only [List.getD, hu, Option.getD_some]
    exact hr.2 _ _ _ hf hu

theorem RepD.sl_nil {K} (sz : Nat) (a : Option Addr) (c : Nat) : RepD K (.sl sz []) (.slice a 0 c) :=
  .sl sz [] a c 0 0 (fun _ _ => default) (Nat.zero_le _) (fun h => absurd rfl h) (fun i x h => by simp at h) (fun i j x d h => by simp at h) (fun i j x d h => by simp at h) (fun i j x d h => by simp at h)

theorem RepDL.append {K} {as bs us vs} (ha : RepDL K as us) (hb : RepDL K bs vs) : RepDL K (as ++ bs) (us ++ vs) :=
  ⟨by simp [ha.1, hb.1], fun i c v hc hv => by
    by_cases hi : i < as.length
    · rw [List.getElem?_append_left hi] at hc
      rw [List.getElem?_append_left (by rw [← ha.1]; exact hi)] at hv
      exact ha.2 i c v hc hv
    · rw [List.getElem?_append_right (by omega)] at hc
      rw [List.getElem?_append_right (by rw [← ha.1]; omega), ← ha.1] at hv
      exact hb.2 _ c v hc hv⟩

theorem tkAfter_live {tk : Nat → TS} {kill : Option Nat} {d : Nat} {e : TypeId} {size t : Nat} {e' : TypeId} {s' : Nat} (ht : tkAfter tk kill d (.live e size) t = .live e' s') :
    (t = d ∧ e' = e ∧ s' = size) ∨ (t ≠ d ∧ tk t = .live e' s' ∧ kill ≠ some t) := by
  by_cases htd : t = d
  · subst htd
    left
    cases kill <;> simp only [tkAfter, upd_same] at ht <;> cases ht <;> exact ⟨rfl, rfl, rfl⟩
  · right
    cases kill with
    | none => rw [tkAfter, upd_other _ _ _ _ htd] at ht; exact ⟨htd, ht, by simp⟩
    | some k =>
      rw [tkAfter, upd_other _ _ _ _ htd] at ht
      by_cases hk : t = k
      · subst hk; rw [upd_same] at ht; cases ht
      · rw [upd_other _ _ _ _ hk] at ht; exact ⟨htd, ht, by simpa using Ne.symm hk⟩

theorem tkAfter_never {tk : Nat → TS} {kill : Option Nat} {d : Nat} {e : TypeId} {size t : Nat} (ht : tkAfter tk kill d (.live e size) t = .never) : t ≠ d ∧ tk t = .never := by
  by_cases htd : t = d
  · subst htd
    cases kill <;> simp only [tkAfter, upd_same] at ht <;> cases ht
  · refine ⟨htd, ?_⟩
    cases kill with
    | none => rwa [tkAfter, upd_other _ _ _ _ htd] at ht
    | some k =>
      rw [tkAfter, upd_other _ _ _ _ htd] at ht
      by_cases hk : t = k
      · subst hk; rw [upd_same] at ht; cases ht
      · rwa [upd_other _ _ _ _ hk] at ht

section
variable {E : Env} {γ γ' : Gh} {own : Nat → Option Nat} {st : St} {a : Act} {w w' : World} {ob : Nat → Option OB} {tk : Nat → TS}

/-- A row of cells grows: in place, behind what is known of it, or anew. -/
theorem ConcW.grow (h : ConcW E γ own ob tk w) {d : Nat} (hd : tk d = .never) {kill : Option Nat} {g : Nat} {e : TypeId} {size n cap : Nat} {cur : Array Value} {v' : Value} {all : List Value}
    (hv' : v' = .slice (some ⟨g, 0, none⟩) n cap) (hheap : w'.heap[g]? = some (.cells cur e (0, 0))) (hle : n ≤ cap) (hmax : cap ≤ maxLen) (hsz : cur.size = cap * rsz size)
    (htake : cur.toList.take (n * rsz size) = all) (hone : ∀ u ∈ all, u.oneCell' = true) (hos : w'.os = w.os) (htp : w'.tape = w.tape) (hout : w'.output = w.output) (hsize : w.heap.size ≤ w'.heap.size)
    (hblock : ∀ k, k < w.heap.size → k ≠ g → w'.heap[k]? = w.heap[k]?)
    (hg : w.heap.size ≤ g ∨ ∃ t e' s', kill = some t ∧ tk t = .live e' s' ∧ own t = some g)
    (hold : ∀ o v, γ.K g o = some v → all[o]? = some v) :
    ∃ γ' own', γ'.K = kadd γ.K g all ∧ γ'.τ d = some v' ∧ GhLe γ γ' ∧ ConcW E γ' own' ob (tkAfter tk kill d (.live e size)) w' := by
  have hall : all.length = n * rsz size := by
    rw [← htake, List.length_take, Array.length_toList, hsz]
    exact Nat.min_eq_left (Nat.mul_le_mul_right _ hle)
  have hτd : γ.τ d = none := h.ntok d hd
  have hgle : GhLe γ ⟨kadd γ.K g all, γ.m, upd γ.τ d (some v')⟩ := ⟨kadd_le hold, fun _ _ h => h, fun i x hx => by
    by_cases hi : i = d
    · subst hi; rw [hτd] at hx; cases hx
    · exact (upd_other _ _ _ _ hi).trans hx⟩
  have hBg : E.mine g := by
    rcases hg with hg | ⟨t, e', s', _, hl, ho⟩
    · exact .inl (Nat.le_trans h.lt hg)
    · obtain ⟨v, _, hok⟩ := h.tok t e' s' hl
      rw [ho] at hok
      obtain ⟨n, cap, cur, hok⟩ := hok
      exact hok.base
  have hnoobj : ∀ id s, γ.m id ≠ some (g, s) := by
    intro id s hm
    rcases hg with hg | ⟨t, e', s', _, hl, ho⟩
    · have := (h.mlt hm).1; omega
    · obtain ⟨v, _, hok⟩ := h.tok t e' s' hl
      rw [ho] at hok
      obtain ⟨n, cap, cur, hok⟩ := hok
      exact hok.noobj id s hm
  -- live tokens behind it
  have hlive := fun t e' s' => tkAfter_live (tk := tk) (kill := kill) (d := d) (e := e) (size := size) (t := t) (e' := e') (s' := s')
  have hother : ∀ t e' s' g', tk t = .live e' s' → kill ≠ some t → own t = some g' → g' ≠ g := by
    intro t e' s' g' ht hk ho he
    subst he
    rcases hg with hg | ⟨t', e'', s'', hk', hl, ho'⟩
    · obtain ⟨v, _, hok⟩ := h.tok t e' s' ht
      rw [ho] at hok
      obtain ⟨n, cap, cur, hok⟩ := hok
      have := (Array.getElem?_eq_some_iff.1 hok.heap).1
      omega
    · exact hk (hk'.trans (congrArg some (h.tinj _ _ _ _ _ _ _ hl ht ho' ho)))
  refine ⟨⟨kadd γ.K g all, γ.m, upd γ.τ d (some v')⟩, upd own d (some g), rfl, upd_same _ _ _, hgle, ?_⟩
  refine ⟨h.k0.trans hgle.K, ?_, ?_, h.below.trans ⟨hos, htp, hout, hsize, fun k hk hm => hblock k (by have := h.lt; omega) (fun e => by subst e; rcases hBg with h | h; (· omega); exact hm h)⟩, ?_, h.nob, h.inj, ?_, ?_, ?_, h.pas, ?_⟩
  · intro b o hk
    by_cases hb : b = g
    · subst hb; exact hBg
    · exact h.knew b o (by simpa [kadd, hb] using hk)
  · intro b o v hk
    by_cases hb : b = g
    · subst hb
      simp only [kadd, if_true] at hk
      refine Held.of_cell ?_ (hone v (List.mem_of_getElem? hk))
      rw [← htake, List.getElem?_take] at hk
      split at hk
      · simpa [World.cell?, hheap] using hk
      · cases hk
    · simp only [kadd, hb, if_false] at hk
      exact (h.ksub b o v hk).block (hblock b (h.ksub.lt hk) hb)
  · intro id o ho
    obtain ⟨blk, cs, hb, hok⟩ := h.obj id o ho
    have hne : blk ≠ g := fun e => hnoobj id o.sz (e ▸ hb)
    exact ⟨blk, cs, hb, hok.keep hgle (hblock blk (h.mlt hb).1 hne) fun off => by simpa [kadd, hne] using hok.free off⟩
  · intro t e' s' ht
    rcases hlive t e' s' ht with ⟨rfl, rfl, rfl⟩ | ⟨htd, ht', hk⟩
    · refine ⟨v', upd_same _ _ _, ?_⟩
      rw [upd_same]
      exact ⟨n, cap, cur, hv', hBg, hheap, hle, hmax, hsz, fun o ho => by simp [kadd, List.getElem?_eq_none (show all.length ≤ o by omega)], hnoobj⟩
    · obtain ⟨v, hv, hok⟩ := h.tok t e' s' ht'
      refine ⟨v, (upd_other _ _ _ _ htd).trans hv, ?_⟩
      rw [upd_other _ _ _ _ htd]
      cases ho : own t with
      | none => rw [ho] at hok; exact hok
      | some g' =>
        rw [ho] at hok
        obtain ⟨n', cap', cur', hok⟩ := hok
        have hne := hother t e' s' g' ht' hk ho
        have hlt := (Array.getElem?_eq_some_iff.1 hok.heap).1
        exact ⟨n', cap', cur', hok.keep (hblock g' hlt hne) (fun o hle => by simpa [kadd, hne] using hok.free o hle) hok.noobj⟩
  · intro t t' e1 e2 s1 s2 g' h1 h2 ho1 ho2
    rcases hlive t e1 s1 h1 with ⟨rfl, _, _⟩ | ⟨htd, ht, hk⟩ <;> rcases hlive t' e2 s2 h2 with ⟨rfl, _, _⟩ | ⟨htd', ht', hk'⟩
    · rfl
    · rw [upd_same] at ho1; cases ho1
      rw [upd_other _ _ _ _ htd'] at ho2
      exact absurd rfl (hother t' e2 s2 _ ht' hk' ho2)
    · rw [upd_same] at ho2; cases ho2
      rw [upd_other _ _ _ _ htd] at ho1
      exact absurd rfl (hother t e1 s1 _ ht hk ho1)
    · rw [upd_other _ _ _ _ htd] at ho1
      rw [upd_other _ _ _ _ htd'] at ho2
      exact h.tinj _ _ _ _ _ _ _ ht ht' ho1 ho2
  · intro t ht
    obtain ⟨htd, ht'⟩ := tkAfter_never ht
    exact (upd_other _ _ _ _ htd).trans (h.ntok t ht')
  · intro t e' s' v h3 ht hτ ho
    rcases hlive t e' s' ht with ⟨rfl, rfl, rfl⟩ | ⟨htd, ht', hk⟩
    · rw [upd_same] at ho; cases ho
    · rw [upd_other _ _ _ _ htd] at ho
      exact h.tmine t e' s' v h3 ht' ((upd_other _ _ _ _ htd).symm.trans hτ) ho

/-- A token passes on: nothing was appended. -/
theorem ConcW.pass (h : ConcW E γ own ob tk w) {d : Nat} (hd : tk d = .never) {kill : Option Nat} {e : TypeId} {size : Nat} {v : Value}
    (hv : (kill = none ∧ FullV v) ∨ ∃ t, kill = some t ∧ t ≠ d ∧ tk t = .live e size ∧ γ.τ t = some v) (hmine : 1000000 ≤ size → kill = none → ∃ a, v = .slice a 0 0) :
    ∃ γ' own', γ'.K = γ.K ∧ γ'.τ d = some v ∧ GhLe γ γ' ∧ ConcW E γ' own' ob (tkAfter tk kill d (.live e size)) w := by
  have hτd : γ.τ d = none := h.ntok d hd
  have hgle : GhLe γ ⟨γ.K, γ.m, upd γ.τ d (some v)⟩ := ⟨KLe.refl _, fun _ _ h => h, fun i x hx => by
    by_cases hi : i = d
    · subst hi; rw [hτd] at hx; cases hx
    · exact (upd_other _ _ _ _ hi).trans hx⟩
  have hlive := fun t e' s' => tkAfter_live (tk := tk) (kill := kill) (d := d) (e := e) (size := size) (t := t) (e' := e') (s' := s')
  refine ⟨⟨γ.K, γ.m, upd γ.τ d (some v)⟩, upd own d (kill.bind own), rfl, upd_same _ _ _, hgle, ?_⟩
  refine ⟨h.k0, h.knew, h.ksub, h.below, ?_, h.nob, h.inj, ?_, ?_, ?_, h.pas, ?_⟩
  · intro id o ho
    obtain ⟨blk, cs, hb, hok⟩ := h.obj id o ho
    exact ⟨blk, cs, hb, hok.keep hgle rfl hok.free⟩
  · intro t e' s' ht
    rcases hlive t e' s' ht with ⟨rfl, rfl, rfl⟩ | ⟨htd, ht', hk⟩
    · refine ⟨v, upd_same _ _ _, ?_⟩
      rw [upd_same]
      rcases hv with ⟨rfl, hf⟩ | ⟨t', rfl, hne, hl, hτ⟩
      · exact hf
      · obtain ⟨v', hv', hok⟩ := h.tok t' _ _ hl
        rw [hτ] at hv'; cases hv'
        simp only [Option.bind_some]
        cases ho : own t' with
        | none => rw [ho] at hok; exact hok
        | some g => rw [ho] at hok; obtain ⟨n', cap', cur', hok⟩ := hok; exact ⟨n', cap', cur', hok.keep rfl hok.free hok.noobj⟩
    · obtain ⟨v', hv', hok⟩ := h.tok t e' s' ht'
      refine ⟨v', (upd_other _ _ _ _ htd).trans hv', ?_⟩
      rw [upd_other _ _ _ _ htd]
      cases ho : own t with
      | none => rw [ho] at hok; exact hok
      | some g => rw [ho] at hok; obtain ⟨n', cap', cur', hok⟩ := hok; exact ⟨n', cap', cur', hok.keep rfl hok.free hok.noobj⟩
  · intro t t' e1 e2 s1 s2 g' h1 h2 ho1 ho2
    have hd' : ∀ t2 e2 s2 g', tk t2 = .live e2 s2 → kill ≠ some t2 → own t2 = some g' → (kill.bind own) = some g' → False := by
      intro t2 e2 s2 g' hl hk ho ho'
      rcases hv with ⟨rfl, hf⟩ | ⟨t3, rfl, hne, hl3, hτ⟩
      · cases ho'
      · exact hk (congrArg some (h.tinj _ _ _ _ _ _ _ hl3 hl ho' ho))
    rcases hlive t e1 s1 h1 with ⟨rfl, _, _⟩ | ⟨htd, ht, hk⟩ <;> rcases hlive t' e2 s2 h2 with ⟨rfl, _, _⟩ | ⟨htd', ht', hk'⟩
    · rfl
    · rw [upd_same] at ho1
      rw [upd_other _ _ _ _ htd'] at ho2
      exact (hd' _ _ _ _ ht' hk' ho2 ho1).elim
    · rw [upd_same] at ho2
      rw [upd_other _ _ _ _ htd] at ho1
      exact (hd' _ _ _ _ ht hk ho1 ho2).elim
    · rw [upd_other _ _ _ _ htd] at ho1
      rw [upd_other _ _ _ _ htd'] at ho2
      exact h.tinj _ _ _ _ _ _ _ ht ht' ho1 ho2
  · intro t ht
    obtain ⟨htd, ht'⟩ := tkAfter_never ht
    exact (upd_other _ _ _ _ htd).trans (h.ntok t ht')
  · intro t e' s' v' h3 ht hτ ho
    rcases hlive t e' s' ht with ⟨rfl, rfl, rfl⟩ | ⟨htd, ht', hk⟩
    · rw [upd_same] at ho
      have hτ2 : upd γ.τ t (some v) t = some v' := hτ
      rw [upd_same] at hτ2
      cases hτ2
      rcases hv with ⟨rfl, hf⟩ | ⟨t', rfl, hne, hl, hτ'⟩
      · exact hmine h3 rfl
      · exact h.tmine t' _ _ _ h3 hl hτ' ho
    · rw [upd_other _ _ _ _ htd] at ho
      exact h.tmine t e' s' v' h3 ht' ((upd_other _ _ _ _ htd).symm.trans hτ) ho

/-- An object of the walk's own is written. -/
theorem ConcW.setObj (h : ConcW E γ own ob tk w) {id : Nat} {o o' : OB} (ho : ob id = some o) {blk : Nat} {cs cs' : Array Value} (hm : γ.m id = some (blk, o.sz)) (hok : ObjOk E.mine γ w blk o cs)
    (hsz : o'.sz = o.sz) (hr : RepL γ (flat o'.elems) cs'.toList) (h1 : ∀ u ∈ cs'.toList, u.oneCell' = true) (hs : ∀ e ∈ o'.elems, e.cells.length = o'.sz)
    {spare : Array Value} (hnew : w'.heap[blk]? = some (objOf o'.ty cs' spare)) (hgb : ∀ k, k ≠ blk → w'.heap[k]? = w.heap[k]?) (hos : w'.os = w.os) (htp : w'.tape = w.tape) (hout : w'.output = w.output) (hsize : w.heap.size ≤ w'.heap.size) :
    ConcW E γ own (upd ob id (some o')) tk w' := by
  refine ⟨h.k0, h.knew, ?_, h.below.trans ⟨hos, htp, hout, hsize, fun k hk hnm => hgb k (fun e => by subst e; rcases hok.base with h | h; (· omega); exact hnm h)⟩, ?_, ?_, h.inj, ?_, h.tinj, h.ntok, h.pas, h.tmine⟩
  · intro b off v hk
    have hne : b ≠ blk := fun e => by subst e; rw [hok.free] at hk; cases hk
    exact (h.ksub b off v hk).block (hgb b hne)
  · intro j oj hj
    by_cases hi : j = id
    · subst hi
      rw [upd_same] at hj
      cases hj
      exact ⟨blk, cs', by rw [hsz]; exact hm, hok.base, ⟨spare, hnew⟩, hr, h1, hs, hok.free⟩
    · rw [upd_other _ _ _ _ hi] at hj
      obtain ⟨blk', cs'', hb, hok'⟩ := h.obj j oj hj
      have hne : blk' ≠ blk := fun e => by subst e; exact hi (h.inj _ _ _ _ _ hb hm)
      exact ⟨blk', cs'', hb, hok'.keep (GhLe.refl _) (hgb blk' hne) hok'.free⟩
  · intro j hj
    by_cases hi : j = id
    · subst hi; rw [upd_same] at hj; cases hj
    · rw [upd_other _ _ _ _ hi] at hj; exact h.nob j hj
  · intro t e sz ht
    obtain ⟨v, hv, hk⟩ := h.tok t e sz ht
    refine ⟨v, hv, ?_⟩
    cases hot : own t with
    | none => rw [hot] at hk; exact hk
    | some g =>
      rw [hot] at hk
      obtain ⟨n, cap, cur, hk⟩ := hk
      have hne : g ≠ blk := fun e => by subst e; exact hk.noobj _ _ hm
      exact ⟨n, cap, cur, hk.keep (hgb g hne) hk.free hk.noobj⟩

end
end Go.PS

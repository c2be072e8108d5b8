/-
  A part of the walks of this seat: each theorem says what a function of the program gives. No condition beyond its own premises.
-/
import Derived.Test.YtojgjdcciojpeaaGreatD7
set_option linter.unusedSimpArgs false
set_option linter.unusedVariables false
namespace Go.PS
open Go Go.RowKit

/-- What data may be read as, piece by piece. -/
def dle : D → D → Prop
  | .bool a, .bool b => a = b
  | .int k n, .int k' m => k = k' ∧ n = m
  | .str a, .str b => a = b
  | .sl a xs, .sl b ys => (a = b ∧ xs = ys) ∨ (xs = [] ∧ ys = []) ∨ (a = b ∧ dleE xs ys)
  | .agg xs, .agg ys => dleL xs ys
  | .tup xs, .tup ys => dleL xs ys
  | x, y => x = y
where
  dleL : List D → List D → Prop
  | [], [] => True
  | x :: xs, y :: ys => dle x y ∧ dleL xs ys
  | _, _ => False
  dleE : List D → List D → Prop
  | [], [] => True
  | .agg a :: xs, .agg b :: ys => dleL a b ∧ dleE xs ys
  | x :: xs, y :: ys => x.cell = true ∧ y.cell = true ∧ dle x y ∧ dleE xs ys
  | _, _ => False

/-- Slices whose elements are, cell by cell, read as others. -/
theorem DLe.sl_cells {sz : Nat} {xs ys : List D} (hl : xs.length = ys.length) (h : ∀ (i : Nat) (x y : D), xs[i]? = some x → ys[i]? = some y → x.cells.length = y.cells.length ∧ ∀ (j : Nat) (c d : D), x.cells[j]? = some c → y.cells[j]? = some d → DLe c d) : DLe (.sl sz xs) (.sl sz ys) := fun K v hv => by
  cases hv with
  | sl _ _ a c b o f hc ha hs hk h1 hr =>
    have get : ∀ (i : Nat) (y : D), ys[i]? = some y → ∃ x, xs[i]? = some x := fun i y hy => by
      have := (List.getElem?_eq_some_iff.1 hy).1
      exact ⟨_, List.getElem?_eq_getElem (by omega)⟩
    have get2 : ∀ (i j : Nat) (x y d : D), xs[i]? = some x → ys[i]? = some y → y.cells[j]? = some d → ∃ e, x.cells[j]? = some e := fun i j x y d hx hy hd => by
      have h0 := (List.getElem?_eq_some_iff.1 hd).1
      have h1 := (h i x y hx hy).1
      exact ⟨_, List.getElem?_eq_getElem (by omega)⟩
    rw [hl]
    refine .sl sz ys a c b o f (by omega) (fun hne => ha (fun e => hne (List.eq_nil_of_length_eq_zero (by rw [← hl, e]; rfl)))) ?_ ?_ ?_ ?_
    · intro i y hy
      obtain ⟨x, hx⟩ := get i y hy
      rw [← (h i x y hx hy).1]; exact hs i x hx
    · intro i j y d hy hd
      obtain ⟨x, hx⟩ := get i y hy
      obtain ⟨e, he⟩ := get2 i j x y d hx hy hd
      exact hk i j x e hx he
    · intro i j y d hy hd
      obtain ⟨x, hx⟩ := get i y hy
      obtain ⟨e, he⟩ := get2 i j x y d hx hy hd
      exact h1 i j x e hx he
    · intro i j y d hy hd
      obtain ⟨x, hx⟩ := get i y hy
      obtain ⟨e, he⟩ := get2 i j x y d hx hy hd
      exact (h i x y hx hy).2 j e d he hd K _ (hr i j x e hx he)

theorem DLeL.get {xs ys : List D} (hl : xs.length = ys.length) (h : ∀ (i : Nat) (x y : D), xs[i]? = some x → ys[i]? = some y → DLe x y) : DLeL xs ys := fun K vs hv =>
  ⟨by rw [← hl]; exact hv.1, fun i y v hy hvv => by
    have := (List.getElem?_eq_some_iff.1 hy).1
    have hx := List.getElem?_eq_getElem (l := xs) (i := i) (by omega)
    exact h i _ y hx hy K v (hv.2 i _ v hx hvv)⟩

def DLeP : List D → List D → Prop
  | [], [] => True
  | x :: xs, y :: ys => DLe x y ∧ DLeP xs ys
  | _, _ => False
theorem DLeP.get : ∀ {xs ys : List D}, DLeP xs ys → xs.length = ys.length ∧ ∀ (i : Nat) (x y : D), xs[i]? = some x → ys[i]? = some y → DLe x y
  | [], [], _ => ⟨rfl, fun i x y h => by simp at h⟩
  | [], _ :: _, h => h.elim
  | _ :: _, [], h => h.elim
  | x :: xs, y :: ys, h => by
    obtain ⟨h1, h2⟩ := DLeP.get h.2
    refine ⟨by simp [h1], fun i a b ha hb => ?_⟩
    cases i with
    | zero => simp at ha hb; subst ha; subst hb; exact h.1
    | succ i => simp at ha hb; exact h2 i a b ha hb
theorem dleE_ne {x y : D} {xs ys : List D} (hx : ∀ a, x ≠ .agg a) (h : dle.dleE (x :: xs) (y :: ys)) : x.cell = true ∧ y.cell = true ∧ dle x y ∧ dle.dleE xs ys := by
  cases x <;> first | exact absurd rfl (hx _) | (simpa only [dle.dleE] using h)
theorem cell_cells {x : D} (h : x.cell = true) : x.cells = [x] := by cases x <;> first | rfl | (simp [D.cell] at h)

mutual
theorem dle_le : ∀ {x y : D}, dle x y → DLe x y
  | .bool a, y, h => by cases y <;> simp only [dle, reduceCtorEq] at h; subst h; exact .refl _
  | .int k n, y, h => by cases y <;> simp only [dle, reduceCtorEq] at h; obtain ⟨rfl, rfl⟩ := h; exact .refl _
  | .str a, y, h => by cases y <;> simp only [dle, reduceCtorEq] at h; subst h; exact .refl _
  | .sl a xs, y, h => by
    cases y <;> simp only [dle, reduceCtorEq] at h
    rcases h with ⟨rfl, rfl⟩ | ⟨rfl, rfl⟩ | ⟨rfl, h⟩
    · exact .refl _
    · exact .nil _ _
    · obtain ⟨h1, h2⟩ := dleE_le h
      exact .sl_cells h1 h2
  | .agg xs, y, h => by
    cases y <;> simp only [dle, reduceCtorEq] at h
    have := (dleL_le h).get
    exact .agg (.get this.1 this.2)
  | .tup xs, y, h => by
    cases y <;> simp only [dle, reduceCtorEq] at h
    have := (dleL_le h).get
    exact .tup (.get this.1 this.2)
  | .ref xs, y, h => by simp only [dle] at h; subst h; exact .refl _
  | .fn f a b, y, h => by simp only [dle] at h; subst h; exact .refl _
  | .nilp, y, h => by simp only [dle] at h; subst h; exact .refl _
  | .nilf, y, h => by simp only [dle] at h; subst h; exact .refl _
  | .nili, y, h => by simp only [dle] at h; subst h; exact .refl _
  | .nilm, y, h => by simp only [dle] at h; subst h; exact .refl _
  | .map kvs, y, h => by simp only [dle] at h; subst h; exact .refl _
theorem dleL_le : ∀ {xs ys : List D}, dle.dleL xs ys → DLeP xs ys
  | [], ys, h => by cases ys <;> simp only [dle.dleL] at h; exact trivial
  | x :: xs, ys, h => by cases ys <;> simp only [dle.dleL] at h; exact ⟨dle_le h.1, dleL_le h.2⟩
theorem dleE_le : ∀ {xs ys : List D}, dle.dleE xs ys → xs.length = ys.length ∧ ∀ (i : Nat) (x y : D), xs[i]? = some x → ys[i]? = some y → x.cells.length = y.cells.length ∧ ∀ (j : Nat) (c d : D), x.cells[j]? = some c → y.cells[j]? = some d → DLe c d
  | [], ys, h => by
    cases ys <;> simp only [dle.dleE] at h
    exact ⟨rfl, fun i x y h => by simp at h⟩
  | x :: xs, [], h => by cases x <;> simp [dle.dleE] at h
  | x :: xs, y :: ys, h => by
    have key : (x.cells.length = y.cells.length ∧ ∀ (j : Nat) (c d : D), x.cells[j]? = some c → y.cells[j]? = some d → DLe c d) ∧ dle.dleE xs ys := by
      by_cases hx : ∃ a, x = .agg a
      · obtain ⟨a, rfl⟩ := hx
        cases y with
        | agg b =>
          simp only [dle.dleE] at h
          exact ⟨(dleL_le h.1).get, h.2⟩
        | _ => simp [dle.dleE, D.cell] at h
      · obtain ⟨h1, h2, h3, h4⟩ := dleE_ne (fun a e => hx ⟨a, e⟩) h
        rw [cell_cells h1, cell_cells h2]
        refine ⟨⟨rfl, fun j c d hc hd => ?_⟩, h4⟩
        cases j with
        | zero => simp at hc hd; subst hc; subst hd; exact dle_le h3
        | succ j => simp at hc
    obtain ⟨h1, h2⟩ := dleE_le key.2
    refine ⟨by simp [h1], fun i a b ha hb => ?_⟩
    cases i with
    | zero => simp at ha hb; subst ha; subst hb; exact key.1
    | succ i => simp at ha hb; exact h2 i a b ha hb
end
theorem dleL_leL {xs ys : List D} (h : dle.dleL xs ys) : DLeL xs ys := by have := (dleL_le h).get; exact .get this.1 this.2

/-- A value of the walk, of which less is said; what it points to is still there. -/
def ple (ob : List (Nat × Option OB)) (tk : List (Nat × TS)) : PV → PV → Prop
  | _, .any => True
  | .d x, .d y => dle x y
  | .own s xs _, .d (.sl s2 ys) => (s = s2 ∧ xs = ys) ∨ (xs = [] ∧ ys = [])
  | .own s xs t, .own s2 ys t2 => ((s = s2 ∧ xs = ys) ∨ (xs = [] ∧ ys = [])) ∧ t = t2 ∧ (match t2 with | .full => True | .tok n => (match lk .never tk n with | .never => False | _ => True))
  | .agg xs, .agg ys => pleL ob tk xs ys
  | .tup xs, .tup ys => pleL ob tk xs ys
  | .hp id i o, .hp id' i' o' => id = id' ∧ i = i' ∧ o = o' ∧ (lk none ob id').isSome = true
  | .hrow id sz lo len cap, .hrow id' sz' lo' len' cap' => id = id' ∧ sz = sz' ∧ lo = lo' ∧ len = len' ∧ cap' ≤ cap ∧ (lk none ob id').isSome = true
  | .hmap id, .hmap id' => id = id' ∧ (lk none ob id').isSome = true
  | .fn f a b, .fn f' a' b' => f = f' ∧ pleL ob tk a a' ∧ pleL ob tk b b'
  | _, _ => False
where
  pleL (ob : List (Nat × Option OB)) (tk : List (Nat × TS)) : List PV → List PV → Prop
  | [], [] => True
  | x :: xs, y :: ys => ple ob tk x y ∧ pleL ob tk xs ys
  | _, _ => False

/-- The world's share that a state speaks of. -/
def cutGh (γ : Gh) (ob : List (Nat × Option OB)) (tk : List (Nat × TS)) : Gh :=
  ⟨γ.K, fun id => if (lk none ob id).isSome then γ.m id else none, fun t => match lk .never tk t with | .never => none | _ => γ.τ t⟩

theorem own_le {K} {s s2 : Nat} {xs ys : List D} {v : Value} (h : (s = s2 ∧ xs = ys) ∨ (xs = [] ∧ ys = [])) (hr : RepD K (.sl s xs) v) : RepD K (.sl s2 ys) v :=
  by
  rcases h with ⟨rfl, rfl⟩ | ⟨rfl, rfl⟩
  · exact hr
  · exact DLe.nil _ _ K v hr

mutual
theorem ple_rep {γ : Gh} {ob tk} : ∀ {x y : PV} {v : Value}, ple ob tk x y → Rep γ x v → Rep (cutGh γ ob tk) y v
  | x, .any, v, _, _ => .any v
  | x, .d y, v, h, hr => by
    cases x with
    | d x => simp only [ple] at h; cases hr with | d hr => exact .d (dle_le h _ _ hr)
    | own s xs t =>
      cases y with
      | sl s2 ys => simp only [ple] at h; cases hr with | own hr _ => exact .d (own_le h hr)
      | _ => simp [ple] at h
    | _ => simp [ple] at h
  | x, .own s2 ys t2, v, h, hr => by
    cases x with
    | own s xs t =>
      simp only [ple] at h
      obtain ⟨h1, rfl, h3⟩ := h
      cases hr with
      | own hr ht =>
        refine .own (own_le h1 hr) ?_
        cases t with
        | full => exact ht
        | tok n =>
          simp only at h3
          show (match lk .never tk n with | .never => none | _ => γ.τ n) = some v
          cases hl : lk .never tk n with
          | never => rw [hl] at h3; exact h3.elim
          | dead => exact ht
          | live e s => exact ht
    | _ => simp [ple] at h
  | x, .agg ys, v, h, hr => by
    cases x with
    | agg xs =>
      simp only [ple] at h
      obtain ⟨vs, rfl, hl, h1⟩ := Rep.agg_iff.1 hr
      exact Rep.agg_iff.2 ⟨vs, rfl, pleL_rep h hl, h1⟩
    | _ => simp [ple] at h
  | x, .tup ys, v, h, hr => by
    cases x with
    | tup xs =>
      simp only [ple] at h
      obtain ⟨vs, rfl, hl⟩ := Rep.tup_iff.1 hr
      exact Rep.tup_iff.2 ⟨vs, rfl, pleL_rep h hl⟩
    | _ => simp [ple] at h
  | x, .hp id i o, v, h, hr => by
    cases x with
    | hp id' i' o' =>
      simp only [ple] at h
      obtain ⟨rfl, rfl, rfl, hs⟩ := h
      cases hr with | hp hm => exact .hp (by simp only [cutGh, hs, if_true]; exact hm)
    | _ => simp [ple] at h
  | x, .hrow id sz lo len cap, v, h, hr => by
    cases x with
    | hrow id' sz' lo' len' cap' =>
      simp only [ple] at h
      obtain ⟨rfl, rfl, rfl, rfl, hcap, hs⟩ := h
      cases hr with | hrow hm hc hl => exact .hrow (by simp only [cutGh, hs, if_true]; exact hm) (Nat.le_trans hcap hc) hl
    | _ => simp [ple] at h
  | x, .hmap id, v, h, hr => by
    cases x with
    | hmap id' =>
      simp only [ple] at h
      obtain ⟨rfl, hs⟩ := h
      cases hr with | hmap hm => exact .hmap (by simp only [cutGh, hs, if_true]; exact hm)
    | _ => simp [ple] at h
  | x, .fn f a b, v, h, hr => by
    cases x with
    | fn f' a' b' =>
      simp only [ple] at h
      obtain ⟨rfl, ha, hb⟩ := h
      cases hr with
      | fn _ _ _ vf vc hlf hlc hf hc =>
        have h1 := pleL_rep ha ⟨hlf, hf⟩
        have h2 := pleL_rep hb ⟨hlc, hc⟩
        exact .fn f' a b vf vc h1.1 h2.1 h1.2 h2.2
    | _ => simp [ple] at h
theorem pleL_rep {γ : Gh} {ob tk} : ∀ {xs ys : List PV} {vs : List Value}, ple.pleL ob tk xs ys → RepL γ xs vs → RepL (cutGh γ ob tk) ys vs
  | xs, [], vs, h, hr => by
    cases xs with
    | nil =>
      have : vs = [] := List.eq_nil_of_length_eq_zero (by simpa using hr.1.symm)
      subst this; exact .nil
    | cons x xs => simp [ple.pleL] at h
  | xs, y :: ys, vs, h, hr => by
    cases xs with
    | nil => simp [ple.pleL] at h
    | cons x xs =>
      simp only [ple.pleL] at h
      obtain ⟨v, vs', rfl, h1, h2⟩ := hr.cons_inv
      exact .cons (ple_rep h.1 h1) (pleL_rep h.2 h2)
end

theorem pleL_len {ob tk} : ∀ {xs ys : List PV}, ple.pleL ob tk xs ys → xs.length = ys.length
  | [], [], _ => rfl
  | [], _ :: _, h => by simp [ple.pleL] at h
  | _ :: _, [], h => by simp [ple.pleL] at h
  | x :: xs, y :: ys, h => by simp only [ple.pleL] at h; simp [pleL_len h.2]

/-- The slots, the objects and the tokens of which something is still said. -/
def leTm (ob : List (Nat × Option OB)) (tk : List (Nat × TS)) (tm : List (Nat × PV)) : List (Nat × PV) → Prop
  | [] => True
  | (i, v) :: l => ple ob tk (lk .any tm i) v ∧ leTm ob tk tm l

/-- Elements of an object: told one by one, or the same list. -/
def leElems (ob : List (Nat × Option OB)) (tk : List (Nat × TS)) : List PV → List PV → Prop
  | [x], [y] => ple ob tk x y ∧ x.cells.length = y.cells.length ∧ ple.pleL ob tk x.cells y.cells
  | xs, ys => xs = ys ∧ ∀ x ∈ ys, ple ob tk x x ∧ ple.pleL ob tk x.cells x.cells

def leOb (ob : List (Nat × Option OB)) (tk : List (Nat × TS)) (ob0 : List (Nat × Option OB)) : List (Nat × Option OB) → Prop
  | [] => True
  | (i, some o) :: l => (match lk none ob0 i with
      | some o0 => o0.ty = o.ty ∧ o0.sz = o.sz ∧ leElems ob tk o0.elems o.elems
      | none => False) ∧ leOb ob tk ob0 l
  | (_, none) :: l => leOb ob tk ob0 l

def leTk (tk0 : List (Nat × TS)) : List (Nat × TS) → Prop
  | [] => True
  | (i, .live e s) :: l => lk .never tk0 i = .live e s ∧ leTk tk0 l
  | (i, .dead) :: l => lk .never tk0 i = .dead ∧ leTk tk0 l
  | (_, .never) :: _ => False

/-- Less is said. -/
def SLe (E : Env) (s s' : SL) : Prop := ∀ γ own a w, Conc E γ own s.of a w → ∃ γ' own', Conc E γ' own' s'.of a w
theorem SLe.refl (E : Env) (s : SL) : SLe E s s := fun γ own a w h => ⟨γ, own, h⟩
theorem SLe.trans {E : Env} {a b c : SL} (h : SLe E a b) (h' : SLe E b c) : SLe E a c := fun γ own x w hC => let ⟨γ', own', h1⟩ := h γ own x w hC; h' γ' own' x w h1

theorem leTm_spec {ob tk tm} : ∀ {l : List (Nat × PV)}, leTm ob tk tm l → ∀ i, lk .any l i = .any ∨ ple ob tk (lk .any tm i) (lk .any l i)
  | [], _, i => .inl rfl
  | (j, v) :: l, h, i => by
    simp only [leTm] at h
    simp only [lk]
    split
    · rename_i e; subst e; exact .inr h.1
    · exact leTm_spec h.2 i

theorem leOb_spec {ob tk ob0} : ∀ {l : List (Nat × Option OB)}, leOb ob tk ob0 l → ∀ i o, lk none l i = some o → ∃ o0, lk none ob0 i = some o0 ∧ o0.ty = o.ty ∧ o0.sz = o.sz ∧ leElems ob tk o0.elems o.elems
  | [], _, i, o, h => by cases h
  | (j, none) :: l, h, i, o, ho => by
    simp only [leOb] at h
    simp only [lk] at ho
    split at ho
    · cases ho
    · exact leOb_spec h i o ho
  | (j, some o1) :: l, h, i, o, ho => by
    simp only [leOb] at h
    simp only [lk] at ho
    split at ho
    · rename_i e
      subst e
      cases ho
      obtain ⟨h1, _⟩ := h
      split at h1
      · rename_i o0 e0; exact ⟨o0, e0, h1⟩
      · exact h1.elim
    · exact leOb_spec h.2 i o ho

theorem leTk_spec {tk0} : ∀ {l : List (Nat × TS)}, leTk tk0 l → ∀ i x, lk .never l i = x → x ≠ .never → lk .never tk0 i = x
  | [], _, i, x, h, hn => by exact absurd h.symm hn
  | (j, y) :: l, h, i, x, hx, hn => by
    simp only [lk] at hx
    split at hx
    · rename_i e
      subst e; subst hx
      cases y with
      | never => exact absurd rfl hn
      | dead => simp only [leTk] at h; exact h.1
      | live e s => simp only [leTk] at h; exact h.1
    · cases y with
      | never => simp [leTk] at h
      | dead => simp only [leTk] at h; exact leTk_spec h.2 i x hx hn
      | live e s => simp only [leTk] at h; exact leTk_spec h.2 i x hx hn

theorem flat_pleL {ob tk} {B : Nat} : ∀ {xs ys : List PV}, leElems ob tk xs ys → ple.pleL ob tk (flat xs) (flat ys) ∧ (xs.map fun x => x.cells.length) = (ys.map fun x => x.cells.length) := by
  have app : ∀ {as bs cs ds : List PV}, ple.pleL ob tk as bs → ple.pleL ob tk cs ds → ple.pleL ob tk (as ++ cs) (bs ++ ds) := by
    intro as
    induction as with
    | nil => intro bs cs ds h1 h2; cases bs with
      | nil => exact h2
      | cons _ _ => simp [ple.pleL] at h1
    | cons a as ih => intro bs cs ds h1 h2; cases bs with
      | nil => simp [ple.pleL] at h1
      | cons b bs => simp only [ple.pleL] at h1; exact ⟨h1.1, ih h1.2 h2⟩
  have same : ∀ {ys : List PV}, (∀ x ∈ ys, ple ob tk x x ∧ ple.pleL ob tk x.cells x.cells) → ple.pleL ob tk (flat ys) (flat ys) := by
    intro ys
    induction ys with
    | nil => intro _; exact trivial
    | cons y ys ih =>
      intro h
      have e : flat (y :: ys) = y.cells ++ flat ys := by simp [flat]
      rw [e]
      exact app (h y (by simp)).2 (ih fun x hx => h x (by simp [hx]))
  intro xs ys h
  match xs, ys, h with
  | [x], [y], h =>
    simp only [leElems] at h
    exact ⟨by rw [flat_one, flat_one]; exact h.2.2, by simp [h.2.1]⟩
  | [], ys, h => simp only [leElems] at h; obtain ⟨rfl, h⟩ := h; exact ⟨same h, rfl⟩
  | x :: x' :: xs, ys, h => simp only [leElems] at h; obtain ⟨rfl, h⟩ := h; exact ⟨same h, rfl⟩
  | [x], [], h => simp [leElems] at h
  | [x], y :: y' :: ys, h => simp [leElems] at h

theorem SLe.forget {E : Env} {s s' : SL} (htm : leTm s'.ob s'.tk s.tm s'.tm) (hob : leOb s'.ob s'.tk s.ob s'.ob) (htk : leTk s.tk s'.tk) : SLe E s s' := by
  intro γ own a w hC
  have hw := hC.world
  have hcutm : ∀ id x, (cutGh γ s'.ob s'.tk).m id = some x → γ.m id = some x := fun id x h => by
    simp only [cutGh] at h
    split at h
    · exact h
    · cases h
  refine ⟨cutGh γ s'.ob s'.tk, own, hC.defers, hC.size, fun i => ?_, ⟨hw.k0, hw.knew, hw.ksub, hw.below, ?_, ?_, ?_, ?_, ?_, ?_, (fun id b s h3 h => hw.pas id b s h3 (hcutm _ _ h)), ?_⟩⟩
  · rcases leTm_spec htm i with h | h
    · change Rep _ (lk .any s'.tm i) _; rw [h]; exact .any _
    · exact ple_rep h (hC.tm i)
  · intro id o ho
    obtain ⟨o0, h0, h1, h2, h3⟩ := leOb_spec hob id o ho
    obtain ⟨blk, cs, hm, hok⟩ := hw.obj id o0 h0
    obtain ⟨h4, h5⟩ := flat_pleL (B := 0) h3
    have hsome : (lk none s'.ob id).isSome = true := by
      have : lk none s'.ob id = some o := ho
      rw [this]; rfl
    refine ⟨blk, cs, by simp only [cutGh, hsome, if_true]; rw [← h2]; exact hm, hok.base, by rw [← h1]; exact hok.heap, pleL_rep h4 hok.rep, hok.one, fun e he => ?_, hok.free⟩
    obtain ⟨j, hj⟩ := List.mem_iff_getElem?.1 he
    have hj5 : (o.elems.map fun x => x.cells.length)[j]? = some e.cells.length := by simp [hj]
    rw [← h5] at hj5
    simp only [List.getElem?_map, Option.map_eq_some_iff] at hj5
    obtain ⟨e0, he0, hl⟩ := hj5
    rw [← hl, hok.size e0 (List.mem_of_getElem? he0), h2]
  · intro id ho
    have : lk none s'.ob id = none := ho
    simp [cutGh, this]
  · intro i j b x y hi hj
    exact hw.inj i j b x y (hcutm _ _ hi) (hcutm _ _ hj)
  · intro t e sz ht
    have ht' : lk .never s'.tk t = .live e sz := ht
    have h0 := leTk_spec htk t _ ht' (by simp)
    obtain ⟨v, hv, hok⟩ := hw.tok t e sz h0
    refine ⟨v, by simp only [cutGh, ht']; exact hv, ?_⟩
    cases ho : own t with
    | none => rw [ho] at hok; exact hok
    | some g =>
      rw [ho] at hok
      obtain ⟨n, cap, cur, hok⟩ := hok
      exact ⟨n, cap, cur, hok.keep rfl hok.free fun id s hm => hok.noobj id s (hcutm _ _ hm)⟩
  · intro t t' e e' x x' g h1 h2 ho1 ho2
    exact hw.tinj t t' e e' x x' g (leTk_spec htk t _ h1 (by simp)) (leTk_spec htk t' _ h2 (by simp)) ho1 ho2
  · intro t ht
    have : lk .never s'.tk t = .never := ht
    simp [cutGh, this]
  · intro t e sz v h3 ht hτ ho
    have ht' : lk .never s'.tk t = .live e sz := ht
    exact hw.tmine t e sz v h3 (leTk_spec htk t _ ht' (by simp)) (by simpa only [cutGh, ht'] using hτ) ho

/-- The spare room of a slot's slice gets a token of its own. -/
theorem SLe.full {E : Env} {s : SL} (i t : Nat) {sz : Nat} {xs : List D} (e : TypeId) (size : Nat) (hi : lk .any s.tm i = .own sz xs .full) (ht : lk .never s.tk t = .never) (hmn : size < 1000000 ∨ xs = []) :
    SLe E s ⟨ins s.tm i (.own sz xs (.tok t)), s.ob, ins s.tk t (.live e size)⟩ := by
  intro γ own a w hC
  have hti := hC.tm i
  change Rep γ (lk .any s.tm i) _ at hti
  rw [hi] at hti
  cases hti with
  | own hr hf =>
    obtain ⟨γ', own', hK, hτ, hle, hw'⟩ := hC.world.pass (d := t) ht (kill := none) (e := e) (size := size) (.inl ⟨rfl, hf⟩) (fun h1 _ => by
      rcases hmn with h | rfl
      · omega
      · rcases hf with h | ⟨a, n, h⟩
        · exact ⟨_, h⟩
        · rw [h] at hr ⊢
          cases hr
          exact ⟨_, rfl⟩)
    refine ⟨γ', own', hC.defers, hC.size, fun j => ?_, ?_⟩
    · change Rep γ' (lk .any (ins s.tm i _) j) _
      rw [lk_ins]
      by_cases hj : j = i
      · subst hj; rw [if_pos rfl]; exact .own (by rw [hK]; exact hr) hτ
      · rw [if_neg hj]; exact (hC.tm j).mono hle
    · have e1 : (SL.of ⟨ins s.tm i (.own sz xs (.tok t)), s.ob, ins s.tk t (.live e size)⟩).tk = tkAfter s.of.tk none t (.live e size) := by simp [SL.of, tkAfter, lk_ins_fun]
      rw [e1]; exact hw'

/-- A slot's slice passes its spare room to another token. -/
theorem SLe.retok {E : Env} {s : SL} (i t t' : Nat) {sz : Nat} {xs : List D} {e : TypeId} {size : Nat} (hi : lk .any s.tm i = .own sz xs (.tok t')) (ht : lk .never s.tk t = .never) (ht' : lk .never s.tk t' = .live e size) :
    SLe E s ⟨ins s.tm i (.own sz xs (.tok t)), s.ob, ins (ins s.tk t' .dead) t (.live e size)⟩ := by
  intro γ own a w hC
  have hti := hC.tm i
  change Rep γ (lk .any s.tm i) _ at hti
  rw [hi] at hti
  cases hti with
  | own hr hf =>
    obtain ⟨γ', own', hK, hτ, hle, hw'⟩ := hC.world.pass (d := t) ht (kill := some t') (e := e) (size := size) (.inr ⟨t', rfl, (fun he => by subst he; rw [ht] at ht'; cases ht'), ht', hf⟩) (fun _ h => by cases h)
    refine ⟨γ', own', hC.defers, hC.size, fun j => ?_, ?_⟩
    · change Rep γ' (lk .any (ins s.tm i _) j) _
      rw [lk_ins]
      by_cases hj : j = i
      · subst hj; rw [if_pos rfl]; exact .own (by rw [hK]; exact hr) hτ
      · rw [if_neg hj]; exact (hC.tm j).mono hle
    · have e1 : (SL.of ⟨ins s.tm i (.own sz xs (.tok t)), s.ob, ins (ins s.tk t' .dead) t (.live e size)⟩).tk = tkAfter s.of.tk (some t') t (.live e size) := by simp [SL.of, tkAfter, lk_ins_fun]
      rw [e1]; exact hw'

theorem Run.le {P : Program} {E : Env} {fn : Func} {f : FuncId} {r : List D} {k : List Item} {s s' : SL} (hle : SLe E s s') (h : Run P E fn f r k s'.of) : Run P E fn f r k s.of := run_weak hle h

/-- Only these slots are kept. -/
def SL.keep (s : SL) (ks : List Nat) : SL := ⟨s.tm.filter fun x => ks.contains x.1, s.ob, s.tk⟩

theorem SLe.keep {E : Env} (s : SL) (ks : List Nat) : SLe E s (s.keep ks) := by
  intro γ own a w hC
  refine ⟨γ, own, hC.defers, hC.size, fun i => ?_, hC.world⟩
  change Rep γ (lk .any (s.tm.filter fun x => ks.contains x.1) i) _
  have key : ∀ l : List (Nat × PV), lk .any (l.filter fun x => ks.contains x.1) i = if ks.contains i then lk .any l i else .any := by
    intro l
    induction l with
    | nil => simp [lk]
    | cons x l ih =>
      obtain ⟨j, v⟩ := x
      simp only [List.filter_cons]
      by_cases hj : ks.contains j = true
      · rw [if_pos hj]
        simp only [lk]
        by_cases e : i = j
        · subst e; rw [if_pos rfl, if_pos rfl, if_pos hj]
        · rw [if_neg e, if_neg e, ih]
      · rw [if_neg hj, ih]
        by_cases e : i = j
        · subst e; rw [if_neg hj, if_neg hj]
        · simp only [lk, if_neg e]
  rw [key]
  split
  · exact hC.tm i
  · exact .any _

theorem run_region' {P : Program} {T : Nat → Option TI} {E : Env} {fn : Func} {f : FuncId} {r : List D} {k : List Item} {s : SL} (ks : List Nat) (hT : TabOk P T) {id : Nat} {ops : Array Oper} {l : List Oper} (hl : ops.toList = l)
    (h : ROps P T ops E.n true (fun s' => Run P E fn f r k (s'.keep ks).of) l s) : Run P E fn f r (.code (.region id ops false) :: k) s.of :=
  run_region hT hl (fun s' h => Run.le (SLe.keep s' ks) h) h

theorem run_region_draw' {P : Program} {T : Nat → Option TI} {E : Env} {fn : Func} {f : FuncId} {r : List D} {k : List Item} {s : SL} (ks : List Nat) (hT : TabOk P T) (hm : P.follows .mixedOrders = true) {id : Nat} {ops : Array Oper} {l : List Oper}
    (hl : ops.toList = l) (hB : lexFromS ops ops.size 0 (Array.replicate ops.size false) = true) (hds : dstsOk E.n l = true)
    (h : ROps P T ops E.n false (fun s' => Run P E fn f r k (s'.keep ks).of) l s) : Run P E fn f r (.code (.region id ops true) :: k) s.of :=
  run_region_draw hT hm hl hB hds (fun s' h => Run.le (SLe.keep s' ks) h) h

theorem keep_def (tm : List (Nat × PV)) (ob tk) (ks : List Nat) : SL.keep ⟨tm, ob, tk⟩ ks = ⟨tm.filter fun x => ks.contains x.1, ob, tk⟩ := rfl

attribute [go_sem] keep_def dle dle.dleL dle.dleE ple ple.pleL leTm leOb leTk List.filter_cons List.filter_nil List.contains_cons List.contains_nil Option.isSome_some Option.isSome_none

section
variable {P : Program} {T : Nat → Option TI} {ops : Array Oper} {n : Nat} {m : Bool} {Q : SL → Prop} {o : Oper} {os : List Oper} {s s' : SL}
theorem rops_skip' (hg : guardE ops o s = some false) (hd : dstOk n o.dst = true) (hs : s.put o.dst (.tup []) = s') (hr : ROps P T ops n m Q os s') : ROps P T ops n m Q (o :: os) s := rops_skip hg hd (hs ▸ hr)
theorem rops_call' {g : FuncId} {ds ds' : List D} {r : D} (hg : guardE ops o s = some true) (he : callE o s = some (g, ds)) (hd : dstOk n o.dst = true) (hcall : PCall P g ds' r) (hle : DLeL ds ds')
    (hs : s.put o.dst (PV.ofD r) = s') (hr : ROps P T ops n m Q os s') : ROps P T ops n m Q (o :: os) s := rops_call hg he hd hle hcall (hs ▸ hr)
end
theorem inR_i64 (n : Int) : inR .i64 n = (decide (-9223372036854775808 ≤ n) && decide (n ≤ 9223372036854775807)) := rfl
theorem inR_u8 (n : Int) : inR .u8 n = (decide (0 ≤ n) && decide (n ≤ 255)) := rfl
theorem inR_i32 (n : Int) : inR .i32 n = (decide (-2147483648 ≤ n) && decide (n ≤ 2147483647)) := rfl
theorem max_i64 : IntKind.i64.max = 9223372036854775807 := by decide
theorem max_u8 : IntKind.u8.max = 255 := by decide
theorem max_i32 : IntKind.i32.max = 2147483647 := by decide
theorem min_i64 : IntKind.i64.min = -9223372036854775808 := by decide
theorem min_i32 : IntKind.i32.min = -2147483648 := by decide
theorem min_u8 : IntKind.u8.min = 0 := by decide
theorem divT_nn {a b : Int} (h : 0 ≤ a) : divT a b = a / b := if_pos h
theorem divT_neg {a b : Int} (h : a < 0) : divT a b = -(-a / b) := if_neg (by omega)
theorem gb_t (b : Bool) : (b == true) = b := by cases b <;> rfl
theorem gb_f (b : Bool) : (b == false) = !b := by cases b <;> rfl
attribute [go_sem] max_i64 max_u8 max_i32 min_i64 min_i32 min_u8 gb_t gb_f Option.some.injEq Prod.mk.injEq

/-- The results, read. -/
def resE (T : Nat → Option TI) (s : SL) : List ResultVar → Option (Bool × List D)
  | [] => some (true, [])
  | .tmp t :: rs => match (lk .any s.tm t).toD, resE T s rs with
    | some x, some (c, xs) => some (c, x :: xs)
    | _, _ => none
  | .cell c t :: rs => match evalLoad T t (lk .any s.tm c) (lk none s.ob), resE T s rs with
    | some (c1, v), some (c2, xs) => match v.toD with
      | some x => some (c1 && c2, x :: xs)
      | none => none
    | _, _ => none

theorem resE_ok {T : Nat → Option TI} {s : SL} : ∀ {rs : List ResultVar} {ds : List D}, resE T s rs = some (true, ds) → resOk T s rs ds
  | [], ds, h => by simp only [resE, Option.some.injEq, Prod.mk.injEq, true_and] at h; subst h; exact trivial
  | .tmp t :: rs, ds, h => by
    simp only [resE] at h
    split at h
    · rename_i x c xs hx hr
      simp only [Option.some.injEq, Prod.mk.injEq] at h
      obtain ⟨rfl, rfl⟩ := h
      exact ⟨⟨x, hx, DLe.refl _⟩, resE_ok hr⟩
    · cases h
  | .cell c t :: rs, ds, h => by
    simp only [resE] at h
    split at h
    · rename_i c1 v c2 xs hv hr
      split at h
      · rename_i x hx
        simp only [Option.some.injEq, Prod.mk.injEq, Bool.and_eq_true] at h
        obtain ⟨⟨rfl, rfl⟩, rfl⟩ := h
        exact ⟨⟨v, x, hv, hx, DLe.refl _⟩, resE_ok hr⟩
      · cases h
    · cases h

theorem resOk_le {T : Nat → Option TI} {s : SL} : ∀ {rs : List ResultVar} {ds r : List D}, resOk T s rs ds → dle.dleL ds r → resOk T s rs r
  | [], [], r, _, h => by cases r <;> simp only [dle.dleL] at h; exact trivial
  | [], _ :: _, r, h, _ => by simp [resOk] at h
  | .tmp _ :: _, [], r, h, _ => by simp [resOk] at h
  | .cell _ _ :: _, [], r, h, _ => by simp [resOk] at h
  | .tmp t :: rs, d :: ds, r, h, hl => by
    cases r with
    | nil => simp [dle.dleL] at hl
    | cons y ys =>
      simp only [dle.dleL] at hl
      obtain ⟨⟨x, hx, hle⟩, h2⟩ := h
      exact ⟨⟨x, hx, fun K v hv => dle_le hl.1 K v (hle K v hv)⟩, resOk_le h2 hl.2⟩
  | .cell c t :: rs, d :: ds, r, h, hl => by
    cases r with
    | nil => simp [dle.dleL] at hl
    | cons y ys =>
      simp only [dle.dleL] at hl
      obtain ⟨⟨v, x, h0, hx, hle⟩, h2⟩ := h
      exact ⟨⟨v, x, h0, hx, fun K v hv => dle_le hl.1 K v (hle K v hv)⟩, resOk_le h2 hl.2⟩

section
variable {P : Program} {T : Nat → Option TI} {E : Env} {fn : Func} {f : FuncId} {r : List D} {k : List Item} {s : SL}
theorem run_ret (hT : TabOk P T) (hfn : P.funcs[f]? = some fn) {rs : List ResultVar} (hrs : fn.results.toList = rs) {c : Bool} {ds : List D} (he : resE T s rs = some (c, ds)) (hc : c = true) (hle : dle.dleL ds r) (hp : postOk s E.post) (hres : E.res = none) : Run P E fn f r (.code .ret :: k) s.of :=
  (run_end hT hfn (by rw [hrs]; subst hc; exact resOk_le (resE_ok he) hle) hp hres).2 k
theorem run_ret0 (hT : TabOk P T) (hfn : P.funcs[f]? = some fn) {rs : List ResultVar} (hrs : fn.results.toList = rs) {c : Bool} {ds : List D} (he : resE T s rs = some (c, ds)) (hc : c = true) (hle : dle.dleL ds r) (hp : postOk s E.post) (hres : E.res = none) : Run P E fn f r [] s.of :=
  (run_end hT hfn (by rw [hrs]; subst hc; exact resOk_le (resE_ok he) hle) hp hres).1
end
attribute [go_sem] resE

end Go.PS
set_option linter.unusedSimpArgs false
set_option linter.unusedVariables false
namespace Go.PS
open Go Go.RowKit

/-- A change of a value's leaves. -/
def PV.mapv (f : PV → PV) : PV → PV
  | .agg cs => .agg (mapL f cs)
  | .tup cs => .tup (mapL f cs)
  | .fn g a b => .fn g (mapL f a) (mapL f b)
  | .d x => f (.d x)
  | .own sz xs t => f (.own sz xs t)
  | .hp id i off => f (.hp id i off)
  | .hrow id sz lo len cap => f (.hrow id sz lo len cap)
  | .hmap id => f (.hmap id)
  | .any => .any
where
  mapL (f : PV → PV) : List PV → List PV
  | [] => []
  | x :: xs => PV.mapv f x :: mapL f xs

def PV.leaf : PV → Bool
  | .agg _ | .tup _ | .fn _ _ _ | .any => false
  | _ => true

def mapTm (f : PV → PV) : List (Nat × PV) → List (Nat × PV)
  | [] => []
  | (i, v) :: l => (i, v.mapv f) :: mapTm f l
def OB.mapv (f : PV → PV) (o : OB) : OB := ⟨o.ty, o.sz, PV.mapv.mapL f o.elems⟩
def mapOb (f : PV → PV) : List (Nat × Option OB) → List (Nat × Option OB)
  | [] => []
  | (i, o) :: l => (i, o.map (OB.mapv f)) :: mapOb f l
def delOb (id : Nat) : List (Nat × Option OB) → List (Nat × Option OB)
  | [] => []
  | (i, o) :: l => if i = id then delOb id l else (i, o) :: delOb id l

theorem mapL_eq (f : PV → PV) : ∀ l : List PV, PV.mapv.mapL f l = l.map (PV.mapv f)
  | [] => rfl
  | x :: xs => by simp [PV.mapv.mapL, mapL_eq f xs]
theorem lk_mapTm (f : PV → PV) : ∀ (l : List (Nat × PV)) (i : Nat), lk .any (mapTm f l) i = (lk .any l i).mapv f
  | [], i => rfl
  | (j, v) :: l, i => by
    simp only [mapTm, lk]
    split
    · rfl
    · exact lk_mapTm f l i
theorem lk_mapOb (f : PV → PV) : ∀ (l : List (Nat × Option OB)) (i : Nat), lk none (mapOb f l) i = (lk none l i).map (OB.mapv f)
  | [], i => rfl
  | (j, o) :: l, i => by
    simp only [mapOb, lk]
    split
    · rfl
    · exact lk_mapOb f l i
theorem lk_delOb (id : Nat) : ∀ (l : List (Nat × Option OB)) (i : Nat), lk none (delOb id l) i = if i = id then none else lk none l i
  | [], i => by simp [delOb, lk]
  | (j, o) :: l, i => by
    simp only [delOb]
    by_cases hj : j = id
    · subst hj
      rw [if_pos rfl, lk_delOb j l i]
      by_cases hi : i = j
      · subst hi; simp
      · simp [lk, hi]
    · rw [if_neg hj]
      simp only [lk]
      by_cases hi : i = j
      · subst hi; simp [hj]
      · rw [if_neg hi, if_neg hi, lk_delOb id l i]

theorem pcells_ne {y : PV} (h : ∀ cs, y ≠ .agg cs) : y.cells = [y] := by cases y <;> first | rfl | exact absurd rfl (h _)

/-- A change that leaves a leaf one cell. -/
def LeafOk (f : PV → PV) : Prop := ∀ x cs, x.leaf = true → f x ≠ .agg cs

theorem mapv_cells {f : PV → PV} (hf : LeafOk f) (x : PV) : (x.mapv f).cells = PV.mapv.mapL f x.cells := by
  cases x with
  | agg cs => rfl
  | tup cs => rfl
  | fn g a b => rfl
  | any => rfl
  | _ => exact pcells_ne (fun cs => hf _ cs rfl)
theorem mapv_flat {f : PV → PV} (hf : LeafOk f) : ∀ l : List PV, flat (PV.mapv.mapL f l) = PV.mapv.mapL f (flat l)
  | [] => rfl
  | x :: xs => by
    have ih := mapv_flat hf xs
    have app : ∀ a b : List PV, PV.mapv.mapL f (a ++ b) = PV.mapv.mapL f a ++ PV.mapv.mapL f b := fun a b => by simp [mapL_eq]
    have e1 : flat (x :: xs) = x.cells ++ flat xs := by simp [flat]
    have e2 : flat (PV.mapv.mapL f (x :: xs)) = (x.mapv f).cells ++ flat (PV.mapv.mapL f xs) := by simp [flat, PV.mapv.mapL]
    rw [e1, e2, app, ih, mapv_cells hf]

theorem mapv_rep {f : PV → PV} {γ γ' : Gh} (hleaf : ∀ x v, x.leaf = true → Rep γ x v → Rep γ' (f x) v) : ∀ {x : PV} {v : Value}, Rep γ x v → Rep γ' (x.mapv f) v := by
  intro x v h
  induction h with
  | d h => exact hleaf _ _ rfl (.d h)
  | own h ht => exact hleaf _ _ rfl (.own h ht)
  | agg xs vs hl hc hr ih =>
    simp only [PV.mapv, mapL_eq]
    refine .agg _ vs (by simpa using hl) hc fun i c v hcc hv => ?_
    simp only [List.getElem?_map, Option.map_eq_some_iff] at hcc
    obtain ⟨y, hy, rfl⟩ := hcc
    exact ih i y v hy hv
  | tup xs vs hl hr ih =>
    simp only [PV.mapv, mapL_eq]
    refine .tup _ vs (by simpa using hl) fun i c v hcc hv => ?_
    simp only [List.getElem?_map, Option.map_eq_some_iff] at hcc
    obtain ⟨y, hy, rfl⟩ := hcc
    exact ih i y v hy hv
  | fn g first caps vf vc hlf hlc hf hc ihf ihc =>
    simp only [PV.mapv, mapL_eq]
    refine .fn g _ _ vf vc (by simpa using hlf) (by simpa using hlc) (fun i c v hcc hv => ?_) (fun i c v hcc hv => ?_)
    · simp only [List.getElem?_map, Option.map_eq_some_iff] at hcc
      obtain ⟨y, hy, rfl⟩ := hcc
      exact ihf i y v hy hv
    · simp only [List.getElem?_map, Option.map_eq_some_iff] at hcc
      obtain ⟨y, hy, rfl⟩ := hcc
      exact ihc i y v hy hv
  | hp h => exact hleaf _ _ rfl (.hp h)
  | hrow h h1 h2 => exact hleaf _ _ rfl (.hrow h h1 h2)
  | hmap h => exact hleaf _ _ rfl (.hmap h)
  | any v => exact .any v

theorem mapv_repL {f : PV → PV} (hf : LeafOk f) {γ γ' : Gh} (hleaf : ∀ x v, x.leaf = true → Rep γ x v → Rep γ' (f x) v) {l : List PV} {vs : List Value} (h : RepL γ (flat l) vs) : RepL γ' (flat (PV.mapv.mapL f l)) vs := by
  rw [mapv_flat hf, mapL_eq]
  refine ⟨by simpa using h.1, fun j c v hc hv => ?_⟩
  simp only [List.getElem?_map, Option.map_eq_some_iff] at hc
  obtain ⟨y, hy, rfl⟩ := hc
  exact mapv_rep hleaf (h.2 j y v hy hv)

/-- The objects behind a change of all leaves. -/
theorem ObjOk.mapv {f : PV → PV} (hf : LeafOk f) {M : Nat → Prop} {γ γ' : Gh} {w : World} {blk : Nat} {o : OB} {cs : Array Value} (h : ObjOk M γ w blk o cs) (hleaf : ∀ x v, x.leaf = true → Rep γ x v → Rep γ' (f x) v)
    (hfree : ∀ off, γ'.K blk off = none) : ObjOk M γ' w blk (o.mapv f) cs := by
  refine ⟨h.base, h.heap, mapv_repL hf hleaf h.rep, h.one, fun e he => ?_, hfree⟩
  simp only [OB.mapv, mapL_eq] at he
  obtain ⟨y, hy, rfl⟩ := List.mem_map.1 he
  rw [mapv_cells hf, mapL_eq, List.length_map]
  exact h.size y hy

/-! ### Freezing -/

def frzLeaf (id sz : Nat) (es : List D) (mp : Bool) : PV → PV
  | .hp i k off => if i = id then (bif mp then .any else .d (.ref ((es.flatMap D.cells).drop (k * sz + off)))) else .hp i k off
  | .hrow i s lo len cap => if i = id then (bif mp then .any else if lo + len ≤ es.length then .d (.sl sz ((es.drop lo).take len)) else .any) else .hrow i s lo len cap
  | .hmap i => if i = id then (bif mp then .d (.map (es.flatMap D.cells)) else .any) else .hmap i
  | .d x => .d x
  | .own s xs t => .own s xs t
  | .agg cs => .agg cs
  | .tup cs => .tup cs
  | .fn f a b => .fn f a b
  | .any => .any

theorem frzLeaf_ok (id sz : Nat) (es : List D) (mp : Bool) : LeafOk (frzLeaf id sz es mp) := by
  intro x cs hx h
  cases x <;> simp only [PV.leaf, reduceCtorEq] at hx <;> simp only [frzLeaf] at h
  · cases h
  · cases h
  · split at h
    · cases mp <;> cases h
    · cases h
  · split at h
    · cases mp
      · simp only [cond_false] at h; split at h <;> cases h
      · cases h
    · cases h
  · split at h
    · cases mp <;> cases h
    · cases h

/-- What is known behind a freezing. -/
def frzK (K : Nat → Nat → Option Value) (blk : Nat) (mp : Bool) (cs : List Value) : Nat → Nat → Option Value :=
  bif mp then (fun b o => if b = blk then (if o = 0 then some (.tuple cs.toArray) else none) else K b o) else kadd K blk cs
def frzGh (γ : Gh) (id blk : Nat) (mp : Bool) (cs : List Value) : Gh := ⟨frzK γ.K blk mp cs, fun i => if i = id then none else γ.m i, γ.τ⟩

theorem frzK_other {K : Nat → Nat → Option Value} {blk : Nat} {mp : Bool} {cs : List Value} {b o : Nat} (h : b ≠ blk) : frzK K blk mp cs b o = K b o := by
  cases mp <;> simp [frzK, kadd, h]
theorem frzK_le {K : Nat → Nat → Option Value} {blk : Nat} {mp : Bool} {cs : List Value} (h : ∀ off, K blk off = none) : KLe K (frzK K blk mp cs) := fun b o v hv => by
  by_cases hb : b = blk
  · subst hb; rw [h] at hv; cases hv
  · rw [frzK_other hb]; exact hv

section
variable {γ : Gh} {id sz blk : Nat} {cs : List Value} {es : List D} {mp : Bool}

theorem frz_rep (hfree : ∀ off, γ.K blk off = none) (hm : γ.m id = some (blk, sz)) (hds : RepDL γ.K (es.flatMap D.cells) cs) (hsz : ∀ e ∈ es, e.cells.length = sz) (h1 : ∀ u ∈ cs, u.oneCell' = true) :
    ∀ (x : PV) (v : Value), x.leaf = true → Rep γ x v → Rep (frzGh γ id blk mp cs) (frzLeaf id sz es mp x) v := by
  have hle : KLe γ.K (frzGh γ id blk mp cs).K := frzK_le hfree
  intro x v hx h
  cases h with
  | d h => exact .d (h.mono hle)
  | own h ht =>
    rename_i sz xs tk
    cases tk with
    | full => exact .own (h.mono hle) ht
    | tok n => exact .own (h.mono hle) ht
  | agg => cases hx
  | tup => cases hx
  | fn => cases hx
  | any => cases hx
  | hp h =>
    rename_i i k off b s
    simp only [frzLeaf]
    by_cases hi : i = id
    · subst hi
      rw [if_pos rfl]
      rw [hm] at h; cases h
      cases mp with
      | true => exact .any _
      | false =>
        refine .d (.ref _ blk _ (fun j => cs.getD (k * sz + off + j) undef) ?_ ?_ ?_)
        · intro j d hd
          rw [List.getElem?_drop] at hd
          have hlt : k * sz + off + j < cs.length := by rw [← hds.1]; exact (List.getElem?_eq_some_iff.1 hd).1
          simp [frzGh, frzK, kadd, hlt]
        · intro j d hd
          rw [List.getElem?_drop] at hd
          have hlt : k * sz + off + j < cs.length := by rw [← hds.1]; exact (List.getElem?_eq_some_iff.1 hd).1
          simp only [List.getD, List.getElem?_eq_getElem hlt, Option.getD_some]
          exact h1 _ (List.getElem_mem hlt)
        · intro j d hd
          rw [List.getElem?_drop] at hd
          have hlt : k * sz + off + j < cs.length := by rw [← hds.1]; exact (List.getElem?_eq_some_iff.1 hd).1
          simp only [List.getD, List.getElem?_eq_getElem hlt, Option.getD_some]
          exact (hds.2 _ d _ hd (List.getElem?_eq_getElem hlt)).mono hle
    · rw [if_neg hi]
      exact .hp (by simp only [frzGh, if_neg hi]; exact h)
  | hrow h hc hl =>
    rename_i i s lo len cap c b
    simp only [frzLeaf]
    by_cases hi : i = id
    · subst hi
      rw [if_pos rfl]
      rw [hm] at h; cases h
      cases mp with
      | true => exact .any _
      | false =>
        simp only [cond_false]
        split
        · rename_i hlen
          refine .d ?_
          have hmem : ∀ x ∈ (es.drop lo).take len, x ∈ es := fun x hx => List.mem_of_mem_drop (List.mem_of_mem_take hx)
          have hlx : ((es.drop lo).take len).length = len := by rw [List.length_take, List.length_drop]; omega
          have hfl := flatMap_len D.cells sz es hsz
          have hpart : ((es.drop lo).take len).flatMap D.cells = ((es.flatMap D.cells).drop (lo * sz)).take (len * sz) := by
            have e1 : es = es.take lo ++ (es.drop lo).take len ++ (es.drop lo).drop len := by rw [List.append_assoc, List.take_append_drop, List.take_append_drop]
            have l1 : ((es.take lo).flatMap D.cells).length = lo * sz := by
              rw [flatMap_len D.cells sz _ (fun x hx => hsz x (List.mem_of_mem_take hx)), List.length_take]
              congr 1; omega
            have l2 : (((es.drop lo).take len).flatMap D.cells).length = len * sz := by
              rw [flatMap_len D.cells sz _ (fun x hx => hsz x (hmem x hx)), hlx]
            have e2 : es.flatMap D.cells = (es.take lo).flatMap D.cells ++ ((es.drop lo).take len).flatMap D.cells ++ ((es.drop lo).drop len).flatMap D.cells := by
              rw [← List.flatMap_append, ← List.flatMap_append, ← e1]
            rw [e2, List.append_assoc, List.drop_left' l1, List.take_left' l2]
          have key := RepD.of_flat (K := (frzGh γ i blk false cs).K) (sz := sz) (xs := (es.drop lo).take len) (fun x hx => hsz x (hmem x hx)) (b := blk) (o := lo * sz) (c := c) (by rw [hlx]; exact hl) (vals := (cs.drop (lo * sz)).take (len * sz))
            (fun j u hu => by
              rw [List.getElem?_take] at hu
              split at hu
              · rw [List.getElem?_drop] at hu; simp [frzGh, frzK, kadd, hu]
              · cases hu)
            (by
              rw [hpart]
              exact ⟨by simp [hds.1], fun j d v hd hv => by
                rw [List.getElem?_take] at hd hv
                split at hd
                · rename_i hlt; rw [if_pos hlt] at hv; rw [List.getElem?_drop] at hd hv; exact (hds.2 _ d v hd hv).mono hle
                · cases hd⟩)
            (fun u hu => h1 u (List.mem_of_mem_drop (List.mem_of_mem_take hu)))
          rw [hlx] at key
          exact key
        · exact .any _
    · rw [if_neg hi]
      exact .hrow (by simp only [frzGh, if_neg hi]; exact h) hc hl
  | hmap h =>
    rename_i i b s
    simp only [frzLeaf]
    by_cases hi : i = id
    · subst hi
      rw [if_pos rfl]
      rw [hm] at h; cases h
      cases mp with
      | false => exact .any _
      | true =>
        refine .d (.map _ blk cs (by simp [frzGh, frzK]) hds.1 fun j d v hd hv => (hds.2 j d v hd hv).mono hle)
    · rw [if_neg hi]
      exact .hmap (by simp only [frzGh, if_neg hi]; exact h)
end

def SL.frz (s : SL) (id sz : Nat) (es : List D) (mp : Bool) : SL := ⟨mapTm (frzLeaf id sz es mp) s.tm, delOb id (mapOb (frzLeaf id sz es mp) s.ob), s.tk⟩

/-- An object that holds data alone is given up: from now on it is data. -/
theorem SLe.freeze {E : Env} {s : SL} (id : Nat) (mp : Bool) {o : OB} (ho : lk none s.ob id = some o) (hmp : Nat.beq o.ty mapTag = mp) (hit : (mp || !Nat.ble 4000000000 o.ty) = true) {es : List D} (hds : PV.toD.toDs (flat o.elems) = some (es.flatMap D.cells)) (hsz : ∀ e ∈ es, e.cells.length = o.sz) :
    SLe E s (s.frz id o.sz es mp) := by
  intro γ own a w hC
  have hw := hC.world
  obtain ⟨blk, cs, hm, hok⟩ := hw.obj id o ho
  have hdr := RepL.toDs hok.rep hds
  have hle : KLe γ.K (frzGh γ id blk mp cs.toList).K := frzK_le hok.free
  have hleaf := frz_rep (mp := mp) hok.free hm hdr hsz hok.one
  have hmm : ∀ i x, (frzGh γ id blk mp cs.toList).m i = some x → i ≠ id ∧ γ.m i = some x := fun i x h => by
    simp only [frzGh] at h
    split at h
    · cases h
    · rename_i hne; exact ⟨hne, h⟩
  have hK : ∀ b off, b ≠ blk → (frzGh γ id blk mp cs.toList).K b off = γ.K b off := fun b off hb => frzK_other hb
  obtain ⟨spare, hheap⟩ := hok.heap
  refine ⟨frzGh γ id blk mp cs.toList, own, hC.defers, hC.size, fun i => ?_, ⟨hw.k0.trans hle, ?_, ?_, hw.below, ?_, ?_, ?_, ?_, hw.tinj, hw.ntok, (fun i b s h3 h => hw.pas i b s h3 (hmm _ _ h).2), hw.tmine⟩⟩
  · change Rep _ (lk .any (mapTm _ s.tm) i) _
    rw [lk_mapTm]
    exact mapv_rep hleaf (hC.tm i)
  · intro b off hk
    by_cases hb : b = blk
    · subst hb; exact hok.base
    · exact hw.knew b off (by rwa [← hK b off hb])
  · intro b off v hk
    by_cases hb : b = blk
    · subst hb
      cases mp with
      | false =>
        simp only [frzGh, frzK, kadd, cond_false, if_true] at hk
        refine Held.of_cell ?_ (hok.one v (List.mem_of_getElem? hk))
        rw [objOf_cells (by simpa [mapTag] using hit)] at hheap
        have hlt : off < cs.size := by have := (List.getElem?_eq_some_iff.1 hk).1; simpa using this
        simp only [World.cell?, hheap]
        simpa [Array.getElem?_append, hlt] using hk
      | true =>
        simp only [frzGh, frzK, cond_true, if_true] at hk
        split at hk
        · cases hk
          simp only [objOf, hmp, cond_true] at hheap
          simpa [Held] using hheap
        · cases hk
    · exact hw.ksub b off v (by rwa [← hK b off hb])
  · intro i o' hio
    have hio' : lk none (delOb id (mapOb _ s.ob)) i = some o' := hio
    rw [lk_delOb] at hio'
    split at hio'
    · cases hio'
    · rename_i hne
      rw [lk_mapOb] at hio'
      simp only [Option.map_eq_some_iff] at hio'
      obtain ⟨o1, ho1, rfl⟩ := hio'
      obtain ⟨blk1, cs1, hm1, hok1⟩ := hw.obj i o1 ho1
      have hbne : blk1 ≠ blk := fun e => by subst e; exact hne (hw.inj _ _ _ _ _ hm1 hm)
      exact ⟨blk1, cs1, by simp only [frzGh, if_neg hne]; exact hm1, hok1.mapv (frzLeaf_ok _ _ _ _) hleaf fun off => (hK blk1 off hbne).trans (hok1.free off)⟩
  · intro i hio
    have hio' : lk none (delOb id (mapOb _ s.ob)) i = none := hio
    rw [lk_delOb] at hio'
    by_cases hi : i = id
    · simp [frzGh, hi]
    · rw [if_neg hi, lk_mapOb] at hio'
      simp only [Option.map_eq_none_iff] at hio'
      simp only [frzGh, if_neg hi]
      exact hw.nob i hio'
  · intro i j b x y hi hj
    exact hw.inj i j b x y (hmm _ _ hi).2 (hmm _ _ hj).2
  · intro t e sz ht
    obtain ⟨v, hv, hok1⟩ := hw.tok t e sz ht
    refine ⟨v, hv, ?_⟩
    cases hot : own t with
    | none => rw [hot] at hok1; exact hok1
    | some g =>
      rw [hot] at hok1
      obtain ⟨n, cap, cur, hok1⟩ := hok1
      have hbne : g ≠ blk := fun e => by subst e; exact hok1.noobj _ _ hm
      exact ⟨n, cap, cur, hok1.keep rfl (fun off h => (hK g off hbne).trans (hok1.free off h)) fun i s h => hok1.noobj i s (hmm _ _ h).2⟩

/-! ### Tokens -/

def renLeaf (t t' : Nat) : PV → PV
  | .own sz xs (.tok n) => .own sz xs (.tok (if n = t then t' else n))
  | .own sz xs .full => .own sz xs .full
  | .hp i k off => .hp i k off
  | .hrow i s lo len cap => .hrow i s lo len cap
  | .hmap i => .hmap i
  | .d x => .d x
  | .agg cs => .agg cs
  | .tup cs => .tup cs
  | .fn f a b => .fn f a b
  | .any => .any
theorem renLeaf_ok (t t' : Nat) : LeafOk (renLeaf t t') := by
  intro x cs hx h
  cases x <;> simp only [PV.leaf, reduceCtorEq] at hx <;> first | cases h | skip
  rename_i sz xs tk
  cases tk <;> cases h

def SL.ren (s : SL) (t t' : Nat) (e : TypeId) (size : Nat) : SL := ⟨mapTm (renLeaf t t') s.tm, mapOb (renLeaf t t') s.ob, ins (ins s.tk t .dead) t' (.live e size)⟩

theorem ren_rep {γ γ' : Gh} {t t' : Nat} (hK : γ'.K = γ.K) (hm : ∀ i x, γ.m i = some x → γ'.m i = some x) (hτ : ∀ n v, γ.τ n = some v → γ'.τ (if n = t then t' else n) = some v) :
    ∀ (x : PV) (v : Value), x.leaf = true → Rep γ x v → Rep γ' (renLeaf t t' x) v := by
  intro x v hx h
  cases h with
  | d h => exact .d (by rw [hK]; exact h)
  | own h ht =>
    rename_i sz xs tk
    cases tk with
    | full => exact .own (by rw [hK]; exact h) ht
    | tok n => exact .own (by rw [hK]; exact h) (hτ n v ht)
  | agg => cases hx
  | tup => cases hx
  | fn => cases hx
  | any => cases hx
  | hp h => exact .hp (hm _ _ h)
  | hrow h h1 h2 => exact .hrow (hm _ _ h) h1 h2
  | hmap h => exact .hmap (hm _ _ h)

/-- A token gets another name, everywhere. -/
theorem SLe.ren {E : Env} {s : SL} (t t' : Nat) {e : TypeId} {size : Nat} (ht : lk .never s.tk t = .live e size) (ht' : lk .never s.tk t' = .never) : SLe E s (s.ren t t' e size) := by
  intro γ own a w hC
  have hne : t ≠ t' := fun he => by subst he; rw [ht'] at ht; cases ht
  obtain ⟨v, hv, _⟩ := hC.world.tok t e size ht
  obtain ⟨γ', own', hK, hτ, hle, hw'⟩ := hC.world.pass (d := t') ht' (kill := some t) (e := e) (size := size) (.inr ⟨t, rfl, hne, ht, hv⟩) (fun _ h => by cases h)
  have hτ' : ∀ n u, γ.τ n = some u → γ'.τ (if n = t then t' else n) = some u := fun n u hn => by
    split
    · rename_i e; subst e; rw [hv] at hn; cases hn; exact hτ
    · exact hle.τ n u hn
  have hleaf := ren_rep (t := t) (t' := t') hK hle.m hτ'
  refine ⟨γ', own', hC.defers, hC.size, fun i => ?_, ?_⟩
  · change Rep _ (lk .any (mapTm _ s.tm) i) _
    rw [lk_mapTm]
    exact mapv_rep hleaf (hC.tm i)
  · have e1 : (SL.of (s.ren t t' e size)).tk = tkAfter s.of.tk (some t) t' (.live e size) := by simp [SL.of, SL.ren, tkAfter, lk_ins_fun]
    rw [e1]
    refine ⟨hw'.k0, hw'.knew, hw'.ksub, hw'.below, ?_, ?_, hw'.inj, hw'.tok, hw'.tinj, hw'.ntok, hw'.pas, hw'.tmine⟩
    · intro i o' hio
      have hio' : lk none (mapOb _ s.ob) i = some o' := hio
      rw [lk_mapOb] at hio'
      simp only [Option.map_eq_some_iff] at hio'
      obtain ⟨o1, ho1, rfl⟩ := hio'
      obtain ⟨blk, cs, hm, hok⟩ := hC.world.obj i o1 ho1
      exact ⟨blk, cs, hle.m _ _ hm, hok.mapv (renLeaf_ok _ _) hleaf fun off => by rw [hK]; exact hok.free off⟩
    · intro i hio
      have hio' : lk none (mapOb _ s.ob) i = none := hio
      rw [lk_mapOb] at hio'
      simp only [Option.map_eq_none_iff] at hio'
      exact hw'.nob i hio'

/-! ### Two objects change their names -/

def swapN (i j n : Nat) : Nat := if n = i then j else if n = j then i else n
theorem swapN_swap (i j n : Nat) : swapN i j (swapN i j n) = n := by
  unfold swapN
  split <;> split <;> (try split) <;> omega
def swapLeaf (a b : Nat) : PV → PV
  | .hp i k off => .hp (swapN a b i) k off
  | .hrow i s lo len cap => .hrow (swapN a b i) s lo len cap
  | .hmap i => .hmap (swapN a b i)
  | .own sz xs t => .own sz xs t
  | .d x => .d x
  | .agg cs => .agg cs
  | .tup cs => .tup cs
  | .fn f a b => .fn f a b
  | .any => .any
theorem swapLeaf_ok (a b : Nat) : LeafOk (swapLeaf a b) := by
  intro x cs hx h
  cases x <;> simp only [PV.leaf, reduceCtorEq] at hx <;> cases h
def swapKeys (a b : Nat) : List (Nat × Option OB) → List (Nat × Option OB)
  | [] => []
  | (i, o) :: l => (swapN a b i, o) :: swapKeys a b l
/-- The keys in their order. -/
def sortKeys : List (Nat × Option OB) → List (Nat × Option OB)
  | [] => []
  | (i, o) :: l => ins (sortKeys l) i o
theorem lk_sortKeys : ∀ (l : List (Nat × Option OB)) (i : Nat), lk none (sortKeys l) i = lk none l i
  | [], i => rfl
  | (j, o) :: l, i => by simp only [sortKeys, lk_ins, lk, lk_sortKeys l i]
theorem lk_swapKeys (a b : Nat) : ∀ (l : List (Nat × Option OB)) (i : Nat), lk none (swapKeys a b l) i = lk none l (swapN a b i)
  | [], i => rfl
  | (j, o) :: l, i => by
    simp only [swapKeys, lk]
    by_cases h : i = swapN a b j
    · subst h; rw [swapN_swap]; simp
    · have : swapN a b i ≠ j := fun e => h (by rw [← e, swapN_swap])
      rw [if_neg h, if_neg this]
      exact lk_swapKeys a b l i

def SL.swap (s : SL) (a b : Nat) : SL := ⟨mapTm (swapLeaf a b) s.tm, sortKeys (swapKeys a b (mapOb (swapLeaf a b) s.ob)), s.tk⟩

theorem SLe.swap {E : Env} {s : SL} (a b : Nat) (ha : a < 3000) (hb : b < 3000) : SLe E s (s.swap a b) := by
  intro γ own ac w hC
  have hw := hC.world
  let γ' : Gh := ⟨γ.K, fun i => γ.m (swapN a b i), γ.τ⟩
  have hleaf : ∀ (x : PV) (v : Value), x.leaf = true → Rep γ x v → Rep γ' (swapLeaf a b x) v := by
    intro x v hx h
    cases h with
    | d h => exact .d h
    | own h ht =>
      rename_i sz xs tk
      cases tk with
      | full => exact .own h ht
      | tok n => exact .own h ht
    | agg => cases hx
    | tup => cases hx
    | fn => cases hx
    | any => cases hx
    | hp h => exact .hp (by show γ.m (swapN a b (swapN a b _)) = _; rw [swapN_swap]; exact h)
    | hrow h h1 h2 => exact .hrow (by show γ.m (swapN a b (swapN a b _)) = _; rw [swapN_swap]; exact h) h1 h2
    | hmap h => exact .hmap (by show γ.m (swapN a b (swapN a b _)) = _; rw [swapN_swap]; exact h)
  refine ⟨γ', own, hC.defers, hC.size, fun i => ?_, ⟨hw.k0, hw.knew, hw.ksub, hw.below, ?_, ?_, ?_, ?_, hw.tinj, hw.ntok, ?_, hw.tmine⟩⟩
  · change Rep _ (lk .any (mapTm _ s.tm) i) _
    rw [lk_mapTm]
    exact mapv_rep hleaf (hC.tm i)
  · intro i o' hio
    have hio' : lk none (sortKeys (swapKeys a b (mapOb (swapLeaf a b) s.ob))) i = some o' := hio
    rw [lk_sortKeys, lk_swapKeys, lk_mapOb] at hio'
    simp only [Option.map_eq_some_iff] at hio'
    obtain ⟨o1, ho1, rfl⟩ := hio'
    obtain ⟨blk, cs, hm, hok⟩ := hw.obj _ o1 ho1
    exact ⟨blk, cs, hm, hok.mapv (swapLeaf_ok _ _) hleaf hok.free⟩
  · intro i hio
    have hio' : lk none (sortKeys (swapKeys a b (mapOb (swapLeaf a b) s.ob))) i = none := hio
    rw [lk_sortKeys, lk_swapKeys, lk_mapOb] at hio'
    simp only [Option.map_eq_none_iff] at hio'
    exact hw.nob _ hio'
  · intro i j blk x y hi hj
    have := hw.inj _ _ _ _ _ hi hj
    rw [← swapN_swap a b i, this, swapN_swap]
  · intro t e sz ht
    obtain ⟨v, hv, hok1⟩ := hw.tok t e sz ht
    refine ⟨v, hv, ?_⟩
    cases hot : own t with
    | none => rw [hot] at hok1; exact hok1
    | some g =>
      rw [hot] at hok1
      obtain ⟨n, cap, cur, hok1⟩ := hok1
      exact ⟨n, cap, cur, hok1.keep rfl hok1.free fun i s h => hok1.noobj _ s h⟩
  · intro i blk s h3 h
    have : swapN a b i = i := by unfold swapN; rw [if_neg (by omega), if_neg (by omega)]
    have h' : γ.m (swapN a b i) = some (blk, s) := h
    rw [this] at h'
    exact hw.pas i blk s h3 h'

/-- The spare room of a slice in an object's cell gets a token of its own. -/
theorem SLe.fullOb {E : Env} {s : SL} (i j t : Nat) {o : OB} {cs : List PV} {sz : Nat} {xs : List D} (e : TypeId) (size : Nat) (ho : lk none s.ob i = some o) (hel : o.elems = [.agg cs]) (hj : cs[j]? = some (.own sz xs .full)) (ht : lk .never s.tk t = .never) (hsm : size < 1000000) :
    SLe E s ⟨s.tm, ins s.ob i (some { o with elems := [.agg (cs.set j (.own sz xs (.tok t)))] }), ins s.tk t (.live e size)⟩ := by
  intro γ own a w hC
  obtain ⟨blk, vs, hm, hok⟩ := hC.world.obj i o ho
  have hrep := hok.rep
  rw [hel, flat_one] at hrep
  have hjl : j < vs.toList.length := by rw [← hrep.1]; exact (List.getElem?_eq_some_iff.1 hj).1
  have hcell := hrep.2 j _ _ hj (List.getElem?_eq_getElem hjl)
  cases hcell with
  | own hr hf =>
    obtain ⟨γ', own', hK, hτ, hle, hw'⟩ := hC.world.pass (d := t) ht (kill := none) (e := e) (size := size) (.inl ⟨rfl, hf⟩) (fun h _ => by omega)
    refine ⟨γ', own', hC.defers, hC.size, fun k => (hC.tm k).mono hle, ?_⟩
    have e1 : (SL.of ⟨s.tm, ins s.ob i (some { o with elems := [.agg (cs.set j (.own sz xs (.tok t)))] }), ins s.tk t (.live e size)⟩).tk = tkAfter s.of.tk none t (.live e size) := by simp [SL.of, tkAfter, lk_ins_fun]
    rw [e1]
    refine ⟨hw'.k0, hw'.knew, hw'.ksub, hw'.below, ?_, ?_, hw'.inj, hw'.tok, hw'.tinj, hw'.ntok, hw'.pas, hw'.tmine⟩
    · intro k o' hko
      have hko' : lk none (ins s.ob i (some { o with elems := [.agg (cs.set j (.own sz xs (.tok t)))] })) k = some o' := hko
      rw [lk_ins] at hko'
      by_cases hki : k = i
      · subst hki
        rw [if_pos rfl] at hko'
        cases hko'
        refine ⟨blk, vs, hle.m _ _ hm, hok.base, hok.heap, ?_, hok.one, ?_, fun off => by rw [hK]; exact hok.free off⟩
        · rw [flat_one]
          show RepL γ' (cs.set j (.own sz xs (.tok t))) _
          refine ⟨by rw [List.length_set]; exact hrep.1, fun q c v hc hv => ?_⟩
          rw [List.getElem?_set] at hc
          by_cases hq : j = q
          · subst hq
            rw [if_pos rfl] at hc
            split at hc
            · cases hc
              rw [List.getElem?_eq_getElem hjl] at hv
              cases hv
              exact .own (by rw [hK]; exact hr) hτ
            · cases hc
          · rw [if_neg hq] at hc
            exact (hrep.2 q c v hc hv).mono hle
        · intro x hx
          have hx' : x = .agg (cs.set j (.own sz xs (.tok t))) := by simpa using hx
          subst hx'
          have := hok.size (.agg cs) (by rw [hel]; simp)
          simpa [PV.cells] using this
      · rw [if_neg hki] at hko'
        exact hw'.obj k o' hko'
    · intro k hko
      have hko' : lk none (ins s.ob i (some { o with elems := [.agg (cs.set j (.own sz xs (.tok t)))] })) k = none := hko
      rw [lk_ins] at hko'
      split at hko'
      · cases hko'
      · exact hw'.nob k hko'

theorem frz_def (tm ob tk) (id sz : Nat) (es : List D) (mp : Bool) : SL.frz ⟨tm, ob, tk⟩ id sz es mp = ⟨mapTm (frzLeaf id sz es mp) tm, delOb id (mapOb (frzLeaf id sz es mp) ob), tk⟩ := rfl
theorem swap_def (tm ob tk) (a b : Nat) : SL.swap ⟨tm, ob, tk⟩ a b = ⟨mapTm (swapLeaf a b) tm, sortKeys (swapKeys a b (mapOb (swapLeaf a b) ob)), tk⟩ := rfl
theorem ren_def (tm ob tk) (t t' : Nat) (e : TypeId) (size : Nat) : SL.ren ⟨tm, ob, tk⟩ t t' e size = ⟨mapTm (renLeaf t t') tm, mapOb (renLeaf t t') ob, ins (ins tk t .dead) t' (.live e size)⟩ := rfl
theorem flat_nil : flat [] = [] := rfl
theorem flat_cons (x : PV) (l : List PV) : flat (x :: l) = x.cells ++ flat l := by simp [flat]
attribute [go_sem] List.length_map List.length_append List.map_append List.length_take List.length_drop List.length_set
attribute [go_sem] dstsOk List.getElem?_toArray List.toList_toArray Value.oneCell'
attribute [go_sem] frz_def ren_def swap_def flat_nil flat_cons mapTm mapOb delOb OB.mapv PV.mapv PV.mapv.mapL frzLeaf renLeaf swapLeaf swapN swapKeys sortKeys List.flatMap_cons List.flatMap_nil

theorem toDs_d : ∀ l : List D, PV.toD.toDs (l.map .d) = some l
  | [] => rfl
  | x :: l => by simp [PV.toD.toDs, PV.toD, toDs_d l]
theorem toDs_ofD1 (l : List D) : PV.toD.toDs (flat (l.map PV.ofD.PV.ofD1)) = some (l.flatMap D.cells) := by rw [flat_ofD1, toDs_d]

/-- The freezing, written out. -/
theorem Run.freeze {P : Program} {E : Env} {fn : Func} {f : FuncId} {r : List D} {k : List Item} {s s' : SL} (id : Nat) {o : OB} {es : List D} (ho : lk none s.ob id = some o) (hes : PV.toD.toDs o.elems = some es) (hds : PV.toD.toDs (flat o.elems) = some (es.flatMap D.cells)) (hsz : ∀ e ∈ es, e.cells.length = o.sz)
    (hit : (Nat.beq o.ty 4000000000 || !Nat.ble 4000000000 o.ty) = true) (hs : s.frz id o.sz es (Nat.beq o.ty 4000000000) = s') (h : Run P E fn f r k s'.of) : Run P E fn f r k s.of := Run.le (SLe.freeze id _ ho rfl hit hds hsz) (hs ▸ h)
/-- A row of data is frozen. -/
theorem Run.freezeRow {P : Program} {E : Env} {fn : Func} {f : FuncId} {r : List D} {k : List Item} {s s' : SL} (id : Nat) {ty : TypeId} {sz : Nat} {es : List D} (ho : lk none s.ob id = some ⟨ty, sz, es.map PV.ofD.PV.ofD1⟩) (hsz : ∀ e ∈ es, e.cells.length = sz)
    (hit : (Nat.beq ty 4000000000 || !Nat.ble 4000000000 ty) = true) (hs : s.frz id sz es (Nat.beq ty 4000000000) = s') (h : Run P E fn f r k s'.of) : Run P E fn f r k s.of := Run.le (SLe.freeze id _ ho rfl hit (toDs_ofD1 es) hsz) (hs ▸ h)
theorem Run.swap {P : Program} {E : Env} {fn : Func} {f : FuncId} {r : List D} {k : List Item} {s s' : SL} (a b : Nat) (ha : a < 3000) (hb : b < 3000) (hs : s.swap a b = s') (h : Run P E fn f r k s'.of) : Run P E fn f r k s.of := Run.le (SLe.swap a b ha hb) (hs ▸ h)
theorem Run.ren {P : Program} {E : Env} {fn : Func} {f : FuncId} {r : List D} {k : List Item} {s s' : SL} (t t' : Nat) {e : TypeId} {size : Nat} (ht : lk .never s.tk t = .live e size) (ht' : lk .never s.tk t' = .never) (hs : s.ren t t' e size = s')
    (h : Run P E fn f r k s'.of) : Run P E fn f r k s.of := Run.le (SLe.ren t t' ht ht') (hs ▸ h)
theorem Run.full {P : Program} {E : Env} {fn : Func} {f : FuncId} {r : List D} {k : List Item} {s s' : SL} (i t : Nat) {sz : Nat} {xs : List D} (e : TypeId) (size : Nat) (hi : lk .any s.tm i = .own sz xs .full) (ht : lk .never s.tk t = .never) (hmn : size < 1000000 ∨ xs = [])
    (hs : (⟨ins s.tm i (.own sz xs (.tok t)), s.ob, ins s.tk t (.live e size)⟩ : SL) = s') (h : Run P E fn f r k s'.of) : Run P E fn f r k s.of := Run.le (SLe.full i t e size hi ht hmn) (hs ▸ h)
theorem Run.fullOb {P : Program} {E : Env} {fn : Func} {f : FuncId} {r : List D} {k : List Item} {s s' : SL} (i j t : Nat) {o : OB} {cs : List PV} {sz : Nat} {xs : List D} (e : TypeId) (size : Nat) (ho : lk none s.ob i = some o) (hel : o.elems = [.agg cs])
    (hj : cs[j]? = some (.own sz xs .full)) (ht : lk .never s.tk t = .never) (hsm : size < 1000000) (hs : (⟨s.tm, ins s.ob i (some { o with elems := [.agg (cs.set j (.own sz xs (.tok t)))] }), ins s.tk t (.live e size)⟩ : SL) = s')
    (h : Run P E fn f r k s'.of) : Run P E fn f r k s.of := Run.le (SLe.fullOb i j t e size ho hel hj ht hsm) (hs ▸ h)
theorem Run.forget {P : Program} {E : Env} {fn : Func} {f : FuncId} {r : List D} {k : List Item} {s s' : SL} (h : Run P E fn f r k s'.of) (htm : leTm s'.ob s'.tk s.tm s'.tm) (hob : leOb s'.ob s'.tk s.ob s'.ob) (htk : leTk s.tk s'.tk) :
    Run P E fn f r k s.of := Run.le (SLe.forget htm hob htk) h

/-- A loop: H i is what is said at the head of a round; from a round's end to the next head less is said, and the measure goes down. -/
theorem Run.loop {P : Program} {E : Env} {fn : Func} {f : FuncId} {r : List D} {k : List Item} {s : SL} {c : Code} {ι : Type} (H : ι → SL) (μ : ι → Nat) (i0 : ι)
    (htm : leTm (H i0).ob (H i0).tk s.tm (H i0).tm) (hob : leOb (H i0).ob (H i0).tk s.ob (H i0).ob) (htk : leTk s.tk (H i0).tk)
    (round : ∀ i, (∀ (j : ι) (s' : SL), leTm (H j).ob (H j).tk s'.tm (H j).tm → leOb (H j).ob (H j).tk s'.ob (H j).ob → leTk s'.tk (H j).tk → μ j < μ i → Run P E fn f r (.inLoop c :: k) s'.of) → Run P E fn f r (.code c :: .inLoop c :: k) (H i).of) :
    Run P E fn f r (.code (.loop c) :: k) s.of :=
  Run.forget (run_rounds (fun i => (H i).of) μ (fun i ih => round i fun j s' h1 h2 h3 h4 => Run.forget (ih j h4) h1 h2 h3) i0) htm hob htk

attribute [go_sem] beq_self_eq_true and_self and_true true_and or_true true_or false_and and_false or_false false_or if_true if_false Bool.false_eq_true Int.toNat_natCast Nat.add_zero Nat.zero_add Nat.sub_zero Int.toNat_zero List.length_cons List.length_nil List.length_replicate

end Go.PS

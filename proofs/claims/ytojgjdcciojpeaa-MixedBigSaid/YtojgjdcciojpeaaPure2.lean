/-
  What an operation does to a state of the pure layer.
-/
import Derived.Test.YtojgjdcciojpeaaPure1
namespace Go.PS
open Go Go.RowKit

inductive TK where
  | bool
  | int (k : IntKind)
  | str
  | slice (e : TypeId)
  | struct (fs : List (Nat × TypeId))
  | array (n : Nat) (e : TypeId)
  | ptr (e : TypeId)
  | func
  | map (k e : TypeId)
  | iface
  | other
  deriving Inhabited

structure TI where
  size : Nat
  bytes : Nat
  k : TK
  zero : Value
  eqs : Bool
  deriving Inhabited

def TK.of : TypeDesc → TK
  | .bool => .bool
  | .int k => .int k
  | .string => .str
  | .slice e => .slice e
  | .struct fs => .struct (fs.toList.map fun f => (f.offset, f.type))
  | .array n e => .array n e
  | .pointer e => .ptr e
  | .func _ _ _ => .func
  | .map k e => .map k e
  | .interface _ => .iface
  | _ => .other

def TK.agg : TK → Bool
  | .struct _ | .array _ _ => true
  | _ => false

def eqSimple (P : Program) (t : TypeId) : Bool :=
  match P.underlying t with
  | some (.struct fs) => !P.stoodInHeld t && fs.toList.all (fun f => f.name != "_") && !P.eqGuardType P.depth t
  | _ => false

def tabOf (P : Program) (t : TypeId) : Option TI :=
  match P.info? t, P.underlying t with
  | some i, some d => match i.zero with
    | some z => some ⟨i.size, i.bytes, TK.of d, z, eqSimple P t⟩
    | none => none
  | _, _ => none

def TabOk (P : Program) (T : Nat → Option TI) : Prop := ∀ t ti, T t = some ti → tabOf P t = some ti

theorem TabOk.facts {P : Program} {T : Nat → Option TI} (h : TabOk P T) {t : TypeId} {ti : TI} (ht : T t = some ti) :
    ∃ i d, P.info? t = some i ∧ P.underlying t = some d ∧ i.zero = some ti.zero ∧ i.size = ti.size ∧ i.bytes = ti.bytes ∧ TK.of d = ti.k ∧ ti.eqs = eqSimple P t := by
  have h1 := h t ti ht
  unfold tabOf at h1
  split at h1
  · rename_i i d hi hd
    split at h1
    · rename_i z hz
      simp only [Option.some.injEq] at h1
      subst h1
      exact ⟨i, d, hi, hd, hz, rfl, rfl, rfl, rfl⟩
    · cases h1
  · cases h1

def ofConst1 : Value → PV
  | .bool b => .d (.bool b)
  | .int k n => .d (.int k n)
  | .string s => .d (.str s.data.toList)
  | .slice none 0 0 => .own 0 [] .full
  | .pointer none => .d .nilp
  | .nilFunc => .d .nilf
  | .nilIface => .d .nili
  | .map none => .d .nilm
  | _ => .any

def ofConst : Value → PV
  | .agg cs => bif cs.toList.all Value.oneCell' then .agg (cs.toList.map ofConst1) else .any
  | .tuple cs => .tup (cs.toList.map ofConst1)
  | v => ofConst1 v

theorem rep_ofConst1 (γ : Gh) (v : Value) : Rep γ (ofConst1 v) v := by
  unfold ofConst1
  split
  · exact .d (.bool _)
  · exact .d (.int _ _)
  · rename_i s; exact .d (.str s.data.toList)
  · refine .own ?_ (.inl rfl)
    exact .sl 0 [] none 0 0 0 (fun _ _ => default) (Nat.le_refl _) (fun h => absurd rfl h) (fun i x h => by simp at h) (fun i j x d h => by simp at h) (fun i j x d h => by simp at h) (fun i j x d h => by simp at h)
  · exact .d .nilp
  · exact .d .nilf
  · exact .d .nili
  · exact .d .nilm
  · exact .any _

theorem repL_ofConst1 (γ : Gh) (l : List Value) : RepL γ (l.map ofConst1) l :=
  ⟨by simp, fun i c v hc hv => by
    simp only [List.getElem?_map, hv, Option.map_some, Option.some.injEq] at hc
    subst hc
    exact rep_ofConst1 γ v⟩

theorem rep_ofConst (γ : Gh) (v : Value) : Rep γ (ofConst v) v := by
  unfold ofConst
  split
  · rename_i cs
    cases h : cs.toList.all Value.oneCell' with
    | false => exact .any _
    | true => exact Rep.agg_iff.2 ⟨cs.toList, by simp, repL_ofConst1 γ _, List.all_eq_true.1 h⟩
  · rename_i cs
    exact Rep.tup_iff.2 ⟨cs.toList, by simp, repL_ofConst1 γ _⟩
  · exact rep_ofConst1 γ v

def St.look (st : St) : Operand → PV
  | .tmp t => st.tm t
  | .const v => ofConst v
  | .global _ => .any
  | .func f => .fn (.func f) [] []

inductive HEff where
  | none
  | obj (id : Nat) (o : OB)
  | tok (kill : Option Nat) (mk : Nat) (e : TypeId) (size : Nat)

def St.put (st : St) (dst : Option Nat) (v : PV) : St :=
  match dst with
  | some d => { st with tm := upd st.tm d v }
  | none => st

def tkAfter (tk : Nat → TS) : Option Nat → Nat → TS → Nat → TS
  | Option.none, d, x => upd tk d x
  | Option.some k, d, x => upd (upd tk k .dead) d x

def HEff.obA : HEff → (Nat → Option OB) → Nat → Option OB
  | .obj id o, ob => upd ob id (some o)
  | _, ob => ob

def HEff.tkA : HEff → (Nat → TS) → Nat → TS
  | .tok kill g e size, tk => tkAfter tk kill g (.live e size)
  | _, tk => tk

def St.eff (st : St) (e : HEff) : St := ⟨st.tm, e.obA st.ob, e.tkA st.tk⟩

def inR (k : IntKind) (n : Int) : Bool := decide (k.min ≤ n) && decide (n ≤ k.max)

/-- The quotient, towards zero. -/
def divT (a b : Int) : Int := if 0 ≤ a then a / b else -(-a / b)

def evalInt (op : BinOp) (k : IntKind) (a b : Int) : Option (Bool × D) :=
  match op with
  | .add => some (inR k (a + b), .int k (a + b))
  | .sub => some (inR k (a - b), .int k (a - b))
  | .mul => some (inR k (a * b), .int k (a * b))
  | .quo => some (decide (k.min ≤ a) && decide (a ≤ k.max) && decide (0 < b), .int k (divT a b))
  | .rem => some (decide (0 ≤ a) && decide (0 < b), .int k (a % b))
  | .eql => some (true, .bool (decide (a = b)))
  | .neq => some (true, .bool (!decide (a = b)))
  | .lss => some (true, .bool (decide (a < b)))
  | .leq => some (true, .bool (decide (a ≤ b)))
  | .gtr => some (true, .bool (decide (b < a)))
  | .geq => some (true, .bool (decide (b ≤ a)))
  | _ => none

def evalStr (op : BinOp) (a b : List UInt8) : Option (Bool × D) :=
  match op with
  | .add => some (decide (((a.length + b.length : Nat) : Int) ≤ IntKind.i64.max), .str (a ++ b))
  | .eql => some (true, .bool (decide (a = b)))
  | .neq => some (true, .bool (!decide (a = b)))
  | .lss => some (true, .bool (Op.bytesLess a b))
  | .leq => some (true, .bool (Op.bytesLess a b || decide (a = b)))
  | .gtr => some (true, .bool (!(Op.bytesLess a b || decide (a = b))))
  | .geq => some (true, .bool (!Op.bytesLess a b))
  | _ => none

def evalBool (op : BinOp) (a b : Bool) : Option (Bool × D) :=
  match op with
  | .eql => some (true, .bool (a == b))
  | .neq => some (true, .bool (!(a == b)))
  | _ => none

/-- One field of two structs that are held against each other. -/
def eqField : TK → PV → PV → Option Bool
  | .bool, .d (.bool a), .d (.bool b) => some (a == b)
  | .int _, .d (.int k a), .d (.int k' b) => if k = k' then some (decide (a = b)) else none
  | .str, .d (.str a), .d (.str b) => some (decide (a = b))
  | _, _, _ => none

def eqFields (T : Nat → Option TI) (xs ys : List PV) : List (Nat × TypeId) → Option Bool
  | [] => some true
  | (off, t) :: fs => match T t, xs[off]?, ys[off]? with
    | some ti, some x, some y => match eqField ti.k x y, eqFields T xs ys fs with
      | some a, some b => some (a && b)
      | _, _ => none
    | _, _, _ => none

def evalBin (T : Nat → Option TI) (op : BinOp) (t : TypeId) : PV → PV → Option (Bool × PV)
  | .d (.int k a), .d (.int k' b) => if k = k' then (evalInt op k a b).map fun r => (r.1, .d r.2) else none
  | .d (.str a), .d (.str b) => (evalStr op a b).map fun r => (r.1, .d r.2)
  | .d (.bool a), .d (.bool b) => match T t with
    | some ⟨_, _, .bool, _, _⟩ => (evalBool op a b).map fun r => (r.1, .d r.2)
    | _ => none
  | .agg xs, .agg ys => match T t with
    | some ⟨_, _, .struct fs, _, true⟩ => match op, eqFields T xs ys fs with
      | .eql, some b => some (true, .d (.bool b))
      | .neq, some b => some (true, .d (.bool (!b)))
      | _, _ => none
    | _ => none
  | .fn _ _ _, .d .nilf => match T t, op with
    | some ⟨_, _, .func, _, _⟩, .eql => some (true, .d (.bool false))
    | some ⟨_, _, .func, _, _⟩, .neq => some (true, .d (.bool true))
    | _, _ => none
  | .d (.fn _ _ _), .d .nilf => match T t, op with
    | some ⟨_, _, .func, _, _⟩, .eql => some (true, .d (.bool false))
    | some ⟨_, _, .func, _, _⟩, .neq => some (true, .d (.bool true))
    | _, _ => none
  | .d .nilf, .d .nilf => match T t, op with
    | some ⟨_, _, .func, _, _⟩, .eql => some (true, .d (.bool true))
    | some ⟨_, _, .func, _, _⟩, .neq => some (true, .d (.bool false))
    | _, _ => none
  | _, _ => none

def evalUn (op : UnOp) : PV → Option (Bool × PV)
  | .d (.bool b) => match op with
    | .not => some (true, .d (.bool (!b)))
    | _ => none
  | .d (.int k n) => match op with
    | .neg => some (inR k (0 - n), .d (.int k (0 - n)))
    | _ => none
  | _ => none

def setSub (l : List PV) (off : Nat) : List PV → List PV
  | [] => l
  | c :: cs => setSub (l.set off c) (off + 1) cs

def fillP (place : Nat → Option (Nat × Nat)) (cells : List PV) : List (Nat × PV) → Option (List PV)
  | [] => some cells
  | (i, v) :: rest => match place i with
    | none => none
    | some (off, size) => bif Nat.beq v.cells.length size && Nat.ble (off + size) cells.length && v.cells.all PV.cell then fillP place (setSub cells off v.cells) rest else none

def placesOf (T : Nat → Option TI) : List (Nat × TypeId) → Option (List (Nat × Nat))
  | [] => some []
  | (off, t) :: fs => match T t, placesOf T fs with
    | some ti, some r => some ((off, ti.size) :: r)
    | _, _ => none

def evalBuild (T : Nat → Option TI) (t : TypeId) (parts : List (Nat × PV)) : Option PV :=
  match T t with
  | some ⟨_, _, .struct fs, z, _⟩ => match placesOf T fs, ofConst z with
    | some ps, .agg zc => (fillP (fun i => ps[i]?) zc parts).map .agg
    | _, _ => none
  | some ⟨_, _, .array _ e, z, _⟩ => match T e, ofConst z with
    | some te, .agg zc => (fillP (fun i => some (i * te.size, te.size)) zc parts).map .agg
    | _, _ => none
  | _ => none

/-- The elements of a row of cells. -/
def chunk (size : Nat) : Nat → List PV → List PV
  | 0, _ => []
  | n + 1, l => (.agg (l.take size)) :: chunk size n (l.drop size)

def elemsD (agg : Bool) (size : Nat) : Nat → List D → List D
  | 0, _ => []
  | n + 1, l => (bif agg then D.agg (l.take size) else l.headD .nilp) :: elemsD agg size n (l.drop size)

def subPV (x : PV) (agg : Bool) (off size : Nat) : PV := bif agg then .agg ((x.cells.drop off).take size) else x.cells.getD off .any

def replSub (x : PV) (off : Nat) (y : PV) : PV := bif Nat.beq off 0 && Nat.beq y.cells.length x.cells.length then y else .agg (setSub x.cells off y.cells)

def asSl : PV → Option (Nat × List D)
  | .d (.sl sz xs) => some (sz, xs)
  | .own sz xs _ => some (sz, xs)
  | _ => none

def boundI : Option PV → Int → Option Int
  | none, n => some n
  | some (.d (.int _ i)), _ => some i
  | _, _ => none

def evalSlice (T : Nat → Option TI) (t : TypeId) (x : PV) (lo hi mx : Option PV) : Option (Bool × PV) :=
  match T t with
  | some ⟨_, _, .str, _, _⟩ => match x, mx with
    | .d (.str l), none => match boundI lo 0, boundI hi l.length with
      | some a, some b => some (decide (0 ≤ a) && decide (a ≤ b) && decide (b ≤ l.length), .d (.str ((l.drop a.toNat).take (b.toNat - a.toNat))))
      | _, _ => none
    | _, _ => none
  | some ⟨_, _, .slice e, _, _⟩ => match T e, asSl x with
    | some te, some (sz, xs) => match boundI lo 0, boundI hi xs.length, mx with
      | some a, some b, none => some ((Nat.beq sz te.size || xs.isEmpty) && decide (0 ≤ a) && decide (a ≤ b) && decide (b ≤ xs.length), .d (.sl te.size ((xs.drop a.toNat).take (b.toNat - a.toNat))))
      | some a, some b, some (.d (.int _ c)) => some ((Nat.beq sz te.size || xs.isEmpty) && decide (0 ≤ a) && decide (a ≤ b) && decide (b = c) && decide (b ≤ xs.length), .own te.size ((xs.drop a.toNat).take (b.toNat - a.toNat)) .full)
      | _, _, _ => none
    | _, _ => none
  | _ => none

/-- A cut of a row of the walk's own. -/
def evalSliceH (T : Nat → Option TI) (t : TypeId) (id sz l n cap : Nat) (lo hi mx : Option PV) : Option (Bool × PV) :=
  match T t with
  | some ⟨_, _, .slice e, _, _⟩ => match T e with
    | some te => match boundI lo 0, boundI hi n, mx with
      | some a, some b, none => some (Nat.beq sz te.size && decide (0 ≤ a) && decide (a ≤ b) && decide (b ≤ n) && (decide (a = 0) || decide (a < b)), .hrow id sz (l + a.toNat) (b.toNat - a.toNat) (cap - a.toNat))
      | some a, some b, some (.d (.int _ c)) => some (Nat.beq sz te.size && decide (0 ≤ a) && decide (a ≤ b) && decide (b ≤ n) && (decide (a = 0) || decide (a < b)) && decide (b = c), .hrow id sz (l + a.toNat) (b.toNat - a.toNat) (b.toNat - a.toNat))
      | _, _, _ => none
    | none => none
  | _ => none

/-- Two keys of a map. -/
def eqKey : D → D → Option Bool
  | .int k a, .int k' b => if k = k' then some (decide (a = b)) else none
  | .str a, .str b => some (decide (a = b))
  | .bool a, .bool b => some (a == b)
  | _, _ => none
def keyOk : TK → D → Bool
  | .int k, .int k' _ => decide (k' = k)
  | .str, .str _ => true
  | .bool, .bool _ => true
  | _, _ => false
/-- A key among the entries of a map: its place, its value. -/
def findP (key : D) : List PV → Option (Option (Nat × PV))
  | [] => some none
  | .agg [.d k, v] :: r => match eqKey k key with
    | some true => some (some (0, v))
    | some false => match findP key r with
      | some none => some none
      | some (some (i, u)) => some (some (i + 1, u))
      | none => none
    | none => none
  | _ => none
def pairsP : List D → List PV
  | k :: v :: r => .agg [.d k, .d v] :: pairsP r
  | _ => []

def mapElems (m : PV) (ob : Nat → Option OB) : Option (List PV) :=
  match m with
  | .hmap id => match ob id with
    | some o => bif Nat.beq o.ty 4000000000 then some o.elems else none
    | none => none
  | .d (.map kvs) => some (pairsP kvs)
  | .d .nilm => some []
  | _ => none

def evalLookup (T : Nat → Option TI) (t : TypeId) (m k : PV) (ok : Bool) (ob : Nat → Option OB) : Option (Bool × PV) :=
  match T t, k, mapElems m ob with
  | some ⟨_, _, .map kt et, _, _⟩, .d key, some els => match T kt, T et, findP key els with
    | some tk, some te, some none => some (keyOk tk.k key, bif ok then .tup [ofConst te.zero, .d (.bool false)] else ofConst te.zero)
    | some tk, some _, some (some (_, v)) => some (keyOk tk.k key, bif ok then .tup [v, .d (.bool true)] else v)
    | _, _, _ => none
  | _, _, _ => none

def evalMapUpdate (T : Nat → Option TI) (t : TypeId) (m k x : PV) (ob : Nat → Option OB) : Option (Bool × PV × HEff) :=
  match T t, m, k with
  | some ⟨_, _, .map kt _, _, _⟩, .hmap id, .d key => match T kt, ob id with
    | some tk, some o => match findP key o.elems with
      | some none => some (keyOk tk.k key && x.cell && Nat.beq o.ty 4000000000 && Nat.beq o.sz 2, .tup [], .obj id ⟨o.ty, o.sz, o.elems ++ [.agg [.d key, x]]⟩)
      | some (some (i, _)) => some (keyOk tk.k key && x.cell && Nat.beq o.ty 4000000000 && Nat.beq o.sz 2, .tup [], .obj id ⟨o.ty, o.sz, o.elems.set i (.agg [.d key, x])⟩)
      | none => none
    | _, _ => none
  | _, _, _ => none

def evalMakeMap (dst : Option Nat) (ob : Nat → Option OB) : Option (Bool × PV × HEff) :=
  match dst with
  | some d => match ob d with
    | none => some (true, .hmap d, .obj d ⟨4000000000, 2, []⟩)
    | some _ => none
  | none => none

/-- What stands at a place of a text. -/
def runeAt (l : List UInt8) (i : Nat) : Nat × Nat := Utf8.decode ⟨l.toArray⟩ i
/-- A walk over a text: the text, the place. -/
def evalRange (T : Nat → Option TI) (dst : Option Nat) (t : TypeId) (x : PV) (ob : Nat → Option OB) : Option (Bool × PV × HEff) :=
  match T t, x, dst with
  | some ⟨_, _, .str, _, _⟩, .d (.str l), some d => match ob d with
    | none => some (true, .hp d 0 0, .obj d ⟨4000000001, 2, [.agg [.d (.str l), .d (.int .i64 0)]]⟩)
    | some _ => none
  | _, _, _ => none
def evalNext (it : PV) (ob : Nat → Option OB) : Option (Bool × PV × HEff) :=
  match it with
  | .hp id 0 0 => match ob id with
    | some ⟨ty, sz, [.agg [.d (.str l), .d (.int .i64 p)]]⟩ =>
      bif decide (p < l.length) then some (Nat.beq ty 4000000001 && Nat.beq sz 2 && decide (0 ≤ p), .tup [.d (.bool true), .d (.int .i64 p), .d (.int .i32 ((runeAt l p.toNat).1 : Int))],
        .obj id ⟨ty, sz, [.agg [.d (.str l), .d (.int .i64 (p + ((runeAt l p.toNat).2 : Int)))]]⟩)
      else some (Nat.beq ty 4000000001 && decide (0 ≤ p), .tup [.d (.bool false)], .none)
    | _ => none
  | _ => none

def evalIndexAddr (T : Nat → Option TI) (t : TypeId) (x i : PV) : Option (Bool × PV) :=
  match T t, i with
  | some ⟨_, _, .slice e, _, _⟩, .d (.int _ n) => match T e with
    | some te => match x with
      | .hrow id sz lo len _ => some (Nat.beq sz te.size && decide (0 ≤ n) && decide (n < len), .hp id (lo + n.toNat) 0)
      | x => match asSl x with
        | some (sz, xs) => some (Nat.beq sz te.size && decide (0 ≤ n) && decide (n < xs.length), .d (.ref (xs.getD n.toNat .nilp).cells))
        | none => none
    | none => none
  | some ⟨_, _, .array m e, _, _⟩, .d (.int _ n) => match T e with
    | some te => match x with
      | .hp id k off => some (decide (0 ≤ n) && decide (n < m), .hp id k (off + n.toNat * te.size))
      | .d (.ref cs) => some (decide (0 ≤ n) && decide (n < m), .d (.ref (cs.drop (n.toNat * te.size))))
      | _ => none
    | none => none
  | _, _ => none

def evalIndex (T : Nat → Option TI) (t : TypeId) (x i : PV) : Option (Bool × PV) :=
  match T t, i with
  | some ⟨_, _, .str, _, _⟩, .d (.int _ n) => match x with
    | .d (.str l) => some (decide (0 ≤ n) && decide (n < l.length), .d (.int .u8 ((l.getD n.toNat 0).toNat : Int)))
    | _ => none
  | some ⟨_, _, .array m e, _, _⟩, .d (.int _ n) => match T e, x with
    | some te, .agg cs => some (decide (0 ≤ n) && decide (n < m) && Nat.ble (n.toNat * te.size + (bif te.k.agg then te.size else 1)) cs.length, bif te.k.agg then .agg ((cs.drop (n.toNat * te.size)).take te.size) else cs.getD (n.toNat * te.size) .any)
    | _, _ => none
  | _, _ => none

def evalFieldAddr (T : Nat → Option TI) (s : TypeId) (x : PV) (f : Nat) : Option (Bool × PV) :=
  match T s with
  | some ⟨_, _, .struct fs, _, _⟩ => match fs[f]? with
    | some (off, t) => match T t with
      | some ti => match x with
        | .hp id i o => some (!Nat.beq ti.size 0, .hp id i (o + off))
        | .d (.ref cs) => some (!Nat.beq ti.size 0, .d (.ref (cs.drop off)))
        | _ => none
      | none => none
    | none => none
  | _ => none

def evalField (T : Nat → Option TI) (s : TypeId) (x : PV) (f : Nat) : Option (Bool × PV) :=
  match T s, x with
  | some ⟨_, _, .struct fs, _, _⟩, .agg cs => match fs[f]? with
    | some (off, t) => match T t with
      | some ti => some (Nat.ble (off + (bif ti.k.agg then ti.size else 1)) cs.length, bif ti.k.agg then .agg ((cs.drop off).take ti.size) else cs.getD off .any)
      | none => none
    | none => none
  | _, _ => none

/-- The number that stands for 'this object is a map'. -/
def mapTag : Nat := 4000000000
/-- The number that stands for 'this object walks over a text'. -/
def iterTag : Nat := 4000000001

def evalLoad (T : Nat → Option TI) (t : TypeId) (a : PV) (ob : Nat → Option OB) : Option (Bool × PV) :=
  match T t with
  | none => none
  | some ti => match a with
    | .hp id i off => match ob id with
      | some o => some (!Nat.ble 4000000000 o.ty && Nat.blt i o.elems.length && Nat.ble (off + (bif ti.k.agg then ti.size else 1)) (o.elems.getD i .any).cells.length, subPV (o.elems.getD i .any) ti.k.agg off ti.size)
      | none => none
    | .d (.ref cs) => some (Nat.ble (bif ti.k.agg then ti.size else 1) cs.length, bif ti.k.agg then .agg ((cs.take ti.size).map .d) else .d (cs.getD 0 .nilp))
    | _ => none

def evalStore (T : Nat → Option TI) (t : TypeId) (a x : PV) (ob : Nat → Option OB) : Option (Bool × PV × HEff) :=
  match T t, a with
  | some ti, .hp id i off => match ob id with
    | some o => some (!Nat.ble 4000000000 o.ty && Nat.blt i o.elems.length && Nat.beq x.cells.length ti.size && x.cells.all PV.cell && Nat.ble (off + ti.size) (o.elems.getD i .any).cells.length,
        .tup [], .obj id { o with elems := o.elems.set i (replSub (o.elems.getD i .any) off x) })
    | none => none
  | _, _ => none

def evalAlloc (T : Nat → Option TI) (dst : Option Nat) (t : TypeId) (x : Option PV) (ob : Nat → Option OB) : Option (Bool × PV × HEff) :=
  match T t, dst with
  | some ti, some d => match ob d with
    | none => some (!Nat.ble 4000000000 t && Nat.beq (x.getD (ofConst ti.zero)).cells.length ti.size && (x.getD (ofConst ti.zero)).cells.all PV.cell, .hp d 0 0, .obj d ⟨t, ti.size, [x.getD (ofConst ti.zero)]⟩)
    | some _ => none
  | _, _ => none

def evalAppend (T : Nat → Option TI) (dst : Option Nat) (t : TypeId) (s x : PV) (tk : Nat → TS) : Option (Bool × PV × HEff) :=
  match T t, dst with
  | some ⟨_, _, .slice e, _, _⟩, some d => match T e, s, asSl x, tk d with
    | some te, .own sz xs tok, some (sz2, ys), .never =>
      let c := decide (te.size < 1000000) && (Nat.beq sz te.size || xs.isEmpty) && (Nat.beq sz2 te.size || ys.isEmpty) && decide ((xs.length + ys.length) * te.bytes ≤ 140737488355328) && decide (xs.length + ys.length ≤ 140737488355328) && !Nat.beq te.size 0 && Nat.beq (ofConst te.zero).cells.length te.size && (ofConst te.zero).cells.all PV.cell
      match tok with
      | .full => some (c, .own te.size (xs ++ ys) (.tok d), .tok none d e te.size)
      | .tok n => match tk n with
        | .live e' size' => some (c && Nat.beq e' e && (Nat.beq size' te.size || Nat.beq size' (te.size + 1000000)), .own te.size (xs ++ ys) (.tok d), .tok (some n) d e size')
        | _ => none
    | _, _, _, _ => none
  | _, _ => none

def evalMakeSlice (T : Nat → Option TI) (dst : Option Nat) (t : TypeId) (l c : PV) (ob : Nat → Option OB) (tk : Nat → TS) : Option (Bool × PV × HEff) :=
  match T t, dst, l, c with
  | some ⟨_, _, .slice e, _, _⟩, some d, .d (.int .i64 n), .d (.int .i64 m) => match T e with
    | some te =>
      let ok := decide (te.size < 1000000) && decide (0 ≤ n) && decide (n ≤ m) && decide (te.bytes * m ≤ 140737488355328) && decide (m ≤ 140737488355328) && !Nat.beq te.size 0 && Nat.beq (ofConst te.zero).cells.length te.size && (ofConst te.zero).cells.all PV.cell
      bif decide (n = 0) then (match tk d with
        | .never => some (ok, .own te.size [] (.tok d), .tok none d e te.size)
        | _ => none)
      else (match ob d with
        | none => some (ok && decide (n = m) && !Nat.ble 4000000000 e, .hrow d te.size 0 n.toNat n.toNat, .obj d ⟨e, te.size, List.replicate n.toNat (ofConst te.zero)⟩)
        | some _ => none)
    | none => none
  | _, _, _, _ => none

def evalBuildSlice (T : Nat → Option TI) (t : TypeId) (n : Nat) (parts : List (Nat × PV)) : Option (Bool × PV) :=
  match T t with
  | some ⟨_, _, .slice e, _, _⟩ => match T e with
    | some te => match fillP (fun i => some (i * te.size, te.size)) ((List.replicate n (ofConst te.zero).cells).flatten) parts with
      | some cells => match PV.toD.toDs cells with
        | some ds => some (!Nat.beq te.size 0 && Nat.beq (ofConst te.zero).cells.length te.size && (ofConst te.zero).cells.all PV.cell && Nat.ble (n * te.size) 16777216 && (te.k.agg || Nat.beq te.size 1) && ds.all D.cell, .own te.size (elemsD te.k.agg te.size n ds) .full)
        | none => none
      | none => none
    | none => none
  | _ => none

def foldI (f : Int → Int → Int) (k : IntKind) : Int → List PV → Option D
  | a, [] => some (.int k a)
  | a, .d (.int k' b) :: r => if k = k' then foldI f k (f a b) r else none
  | _, _ => none

def evalBuiltin (T : Nat → Option TI) (b : Builtin) (ts : List TypeId) (args : List PV) : Option (Bool × PV) :=
  match b, ts, args with
  | .len, t :: _, x :: _ => match T t with
    | some ti => match ti.k, x with
      | .str, .d (.str l) => some (true, .d (.int .i64 l.length))
      | .slice _, .d (.sl _ xs) => some (true, .d (.int .i64 xs.length))
      | .slice _, .own _ xs _ => some (true, .d (.int .i64 xs.length))
      | .slice _, .hrow _ _ _ n _ => some (true, .d (.int .i64 n))
      | .array n _, _ => some (true, .d (.int .i64 n))
      | _, _ => none
    | none => none
  | .max, _, .d (.int k a) :: r => (foldI max k a r).map fun x => (true, .d x)
  | .min, _, .d (.int k a) :: r => (foldI min k a r).map fun x => (true, .d x)
  | _, _, _ => none

def val (r : Option (Bool × PV)) : Option (Bool × PV × HEff) := match r with
  | some (c, v) => some (c, v, .none)
  | none => none

/-- Bytes as a text. -/
def bytesOf : List D → Option (List Int)
  | [] => some []
  | .int .u8 n :: r => (bytesOf r).map (n :: ·)
  | _ => none

/-- An int, or a slice of bytes, as another type. -/
def evalConv (T : Nat → Option TI) (src dst : TypeId) (x : PV) : Option (Bool × PV) :=
  match T src, T dst, x with
  | some ⟨_, _, .int .i8, _, _⟩, some ⟨_, _, .int .u8, _, _⟩, .d (.int _ n) => some (true, .d (.int .u8 (n % 256)))
  | some _, some ⟨_, _, .int k, _, _⟩, .d (.int _ n) => some (inR k n, .d (.int k n))
  | some _, some ⟨_, _, .str, _, _⟩, .d (.str l) => some (true, .d (.str l))
  | some ⟨_, _, .slice e, _, _⟩, some ⟨_, _, .str, _, _⟩, x => match T e, asSl x with
    | some ⟨_, _, .int .u8, _, _⟩, some (sz, xs) => match bytesOf xs with
      | some ns => some (Nat.beq sz 1 && !xs.isEmpty, .d (.str (ns.map fun n => UInt8.ofNat n.toNat)))
      | none => none
    | _, _ => none
  | _, _, _ => none

def evalOp (T : Nat → Option TI) (dst : Option Nat) (op : Op) (ρ : Operand → PV) (ob : Nat → Option OB) (tk : Nat → TS) : Option (Bool × PV × HEff) :=
  match op with
  | .move x => some (true, ρ x, .none)
  | .assign x => some (true, ρ x, .none)
  | .pick c a b => match ρ c with
    | .d (.bool t) => some (true, bif t then ρ a else ρ b, .none)
    | _ => none
  | .build t parts => match evalBuild T t (parts.toList.map fun p => (p.1, ρ p.2)) with
    | some v => some (true, v, .none)
    | none => none
  | .buildSlice t n parts => val (evalBuildSlice T t n (parts.toList.map fun p => (p.1, ρ p.2)))
  | .binOp op t x y _ => val (evalBin T op t (ρ x) (ρ y))
  | .unOp op _ x => val (evalUn op (ρ x))
  | .convert src dst x => val (evalConv T src dst (ρ x))
  | .makeFunc f first caps => some (true, .fn f (first.toList.map ρ) (caps.toList.map ρ), .none)
  | .slice t x lo hi mx => match ρ x with
    | .hrow id sz l n cap => val (evalSliceH T t id sz l n cap (lo.map ρ) (hi.map ρ) (mx.map ρ))
    | y => val (evalSlice T t y (lo.map ρ) (hi.map ρ) (mx.map ρ))
  | .makeMap _ none => evalMakeMap dst ob
  | .lookup t m k ok => val (evalLookup T t (ρ m) (ρ k) ok ob)
  | .mapUpdate t m k x => evalMapUpdate T t (ρ m) (ρ k) (ρ x) ob
  | .range t x => evalRange T dst t (ρ x) ob
  | .next x true => evalNext (ρ x) ob
  | .fieldAddr s x f => val (evalFieldAddr T s (ρ x) f)
  | .field s x f => val (evalField T s (ρ x) f)
  | .indexAddr t x i => val (evalIndexAddr T t (ρ x) (ρ i))
  | .index t x i => val (evalIndex T t (ρ x) (ρ i))
  | .extract x i => match ρ x with
    | .tup cs => match cs[i]? with
      | some c => some (true, c, .none)
      | none => none
    | _ => none
  | .nilCheck x => match ρ x with
    | .hp id i off => some (true, .hp id i off, .none)
    | .d (.ref cs) => some (true, .d (.ref cs), .none)
    | _ => none
  | .call { callee := .builtin .append, args, argTypes } => match args.toList, argTypes.toList with
    | [s, x], [t, t2] => bif Nat.beq t t2 then evalAppend T dst t (ρ s) (ρ x) tk else none
    | _, _ => none
  | .call { callee := .builtin b, args, argTypes } => val (evalBuiltin T b argTypes.toList (args.toList.map ρ))
  | .load t a => val (evalLoad T t (ρ a) ob)
  | .store t a x => evalStore T t (ρ a) (ρ x) ob
  | .alloc t => evalAlloc T dst t none ob
  | .box t x => evalAlloc T dst t (some (ρ x)) ob
  | .makeSlice t l c => evalMakeSlice T dst t (ρ l) (ρ c) ob tk
  | _ => none

end Go.PS

/- The abstract values, heaps, and evaluator of operations ('Ev'): definitions alone. -/
import Derived.WalkKit
import Derived.Maps.AppendAt
import Derived.Orders
set_option linter.unusedVariables false
set_option linter.unusedSimpArgs false
namespace Go.Ev

/-- Values that hang on no variable. A slice is its elements. -/
inductive PV where
  | undef | bool (b : Bool) | int (k : IntKind) (n : Int) | str (s : ByteArray)
  | agg (cs : List PV) | tup (vs : List PV)
  | nils | sl (xs : List PV) | sptr (xs : List PV) (i f : Nat)
  | nilp | nilf | nili | nilm | func (f : FuncId) (first cap : List PV) | iface (t : TypeId) (v : PV)
  deriving Inhabited

/-- Values. 'own': a slice of a row that the heap owns; 'ref': the address of a variable's cell; 'optr': of an owned row's element's cell. -/
inductive V where
  | p (x : PV)
  | agg (cs : List V) | tup (vs : List V)
  | own (id off n : Nat) | ref (id off : Nat) | optr (id i f : Nat)
  | func (f : FuncId) (first cap : List V) | map (id : Nat) | iface (t : TypeId) (v : V)
  | yield (id : Nat)
  deriving Inhabited

def PV.cells : PV → List PV
  | .agg cs => cs
  | v => [v]
mutual
/-- Nil slices as empty ones: where a function takes or answers values, these are the same. -/
def nrm : PV → PV
  | .nils => .sl []
  | .agg cs => .agg (nrmL cs)
  | .tup vs => .tup (nrmL vs)
  | .sl xs => .sl (nrmL xs)
  | .iface t v => .iface t (nrm v)
  | x => x
def nrmL : List PV → List PV
  | [] => []
  | x :: r => nrm x :: nrmL r
end
theorem nrmL_eq : ∀ l : List PV, nrmL l = l.map nrm
  | [] => rfl
  | x :: r => by rw [nrmL, List.map_cons, nrmL_eq r]
theorem cells_nrm (x : PV) : (nrm x).cells = nrmL x.cells := by cases x <;> rfl
def allP : List V → Option (List PV)
  | [] => some []
  | .p x :: r => match allP r with | some l => some (x :: l) | none => none
  | _ :: _ => none
def V.cells : V → List V
  | .p x => x.cells.map .p
  | .agg cs => cs
  | v => [v]
def mkAgg (cs : List V) : V := match allP cs with | some l => .p (.agg l) | none => .agg cs
def mkTup (cs : List V) : V := match allP cs with | some l => .p (.tup l) | none => .tup cs

inductive O where
  | gone
  | ref (cs : List V)
  | own (xs : List PV)
  | fro (xs : List PV)
  | vec (xs : List V)
  | map (kv : List (PV × V))
  | loop (env : List V) (ps : List Tmp) (assign body : Code) (st : LoopState) (pend : Option Code)
  deriving Inhabited

structure Hp where
  next : Nat
  low : Nat
  obj : Nat → O

def Hp.empty : Hp := ⟨0, 0, fun _ => .gone⟩
def Hp.set (H : Hp) (id : Nat) (o : O) : Hp := { H with obj := fun i => if i = id then o else H.obj i }
def Hp.new (H : Hp) (o : O) : Hp := { H with next := H.next + 1, obj := fun i => if i = H.next then o else H.obj i }

/-- What is known of a type. -/
structure TY where
  desc : TypeDesc
  size : Nat
  bytes : Nat
  zero : PV

/-- What is known of the program: types, package-level arrays, functions with their bodies; functions that are taken by what they answer ('orc'); functions whose memory the caller sees ('sh'). -/
structure Cx where
  ty : TypeId → Option TY
  gl : Nat → Option (List PV)
  fn : FuncId → Option Func
  orc : FuncId → Option (List PV → Option PV)
  sh : FuncId → Bool
  eqt : TypeId → Bool

inductive Rz where
  | ok (v : V) (H : Hp)
  | pan (v : V) (H : Hp)

abbrev Env := List V
def gt : Env → Nat → V
  | [], _ => .p .undef
  | v :: _, 0 => v
  | _ :: r, n + 1 => gt r n
/-- The same, so that reckoning comes to the value itself. -/
def gtO : Env → Nat → Option V
  | [], _ => some (.p .undef)
  | v :: _, 0 => some v
  | _ :: r, n + 1 => gtO r n
theorem gtO_eq : ∀ (e : Env) (n : Nat), gtO e n = some (gt e n)
  | [], _ => rfl
  | _ :: _, 0 => rfl
  | _ :: r, n + 1 => gtO_eq r n
def st : Env → Nat → V → Env
  | [], _, _ => []
  | _ :: r, 0, v => v :: r
  | x :: r, n + 1, v => x :: st r n v
def putD (e : Env) (d : Option Tmp) (v : V) : Env := match d with | some d => st e d v | none => e

def ofC : Value → Option PV
  | .bool b => some (.bool b)
  | .int k n => some (.int k n)
  | .string s => some (.str s)
  | .slice none 0 0 => some .nils
  | .pointer none => some .nilp
  | .nilFunc => some .nilf
  | .nilIface => some .nili
  | .map none => some .nilm
  | _ => none
def ofCs : List Value → Option (List PV)
  | [] => some []
  | v :: r => match ofC v, ofCs r with | some x, some l => some (x :: l) | _, _ => none
def ofConst : Value → Option PV
  | .agg cs => match ofCs cs.toList with | some l => some (.agg l) | none => none
  | v => ofC v

section
variable (cx : Cx)

def evx (e : Env) : Operand → Option V
  | .tmp t => gtO e t
  | .const v => match ofConst v with | some x => some (.p x) | none => none
  | .global g => match cx.gl g with | some xs => some (.p (.sptr xs 0 0)) | none => none
  | .func f => some (.p (.func f [] []))

def evxs (e : Env) : List Operand → Option (List V)
  | [] => some []
  | x :: r => match evx cx e x, evxs e r with | some v, some l => some (v :: l) | _, _ => none

/-- 'n' cells from a place on. -/
def cut {α : Type} (xs : List α) (i n : Nat) : Option (List α) := if i + n ≤ xs.length then some ((xs.drop i).take n) else none
def rdl {α : Type} (xs : List α) (i : Nat) : Option α := xs[i]?

def readAt (H : Hp) (a : V) (n : Nat) : Option (List V) :=
  match a with
  | .ref id off => match H.obj id with | .ref cs => cut cs off n | _ => none
  | .p (.sptr xs i f) => match rdl xs i with
    | some x => match cut x.cells f n with | some l => some (l.map .p) | none => none
    | none => none
  | .optr id i f => match H.obj id with
    | .own xs | .fro xs => (match rdl xs i with
      | some x => match cut x.cells f n with | some l => some (l.map .p) | none => none
      | none => none)
    | .vec xs => if f = 0 ∧ n = 1 then (match rdl xs i with | some x => some [x] | none => none) else none
    | _ => none
  | _ => none

def isAggT (d : TypeDesc) : Bool := match d with | .struct _ | .array _ _ => true | _ => false

def PV.cell : PV → Bool
  | .agg _ | .tup _ | .undef => false
  | _ => true
def V.cell : V → Bool
  | .p x => x.cell
  | .agg _ | .tup _ => false
  | _ => true

/-- Cells are written over others. -/
def over {α : Type} : List α → Nat → List α → List α
  | cs, _, [] => cs
  | cs, i, v :: r => over (cs.set i v) (i + 1) r

def pOf : V → Option PV
  | .p x => some x
  | _ => none

def writeAt (H : Hp) (a : V) (vs : List V) : Option Hp :=
  match a with
  | .ref id off => if id < H.low then none else match H.obj id with
    | .ref cs => if off + vs.length ≤ cs.length then some (H.set id (.ref (over cs off vs))) else none
    | _ => none
  | .optr id i f => if id < H.low then none else match H.obj id with
    | .own xs => (match rdl xs i, allP vs with
      | some (.agg cs), some l => if f + l.length ≤ cs.length then some (H.set id (.own (xs.set i (.agg (over cs f l))))) else none
      | some _, some [v] => if f = 0 then some (H.set id (.own (xs.set i v))) else none
      | _, _ => none)
    | .vec xs => (match vs with
      | [v] => if f = 0 ∧ i < xs.length then some (H.set id (.vec (xs.set i v))) else none
      | _ => none)
    | _ => none
  | _ => none

def fillP (cx : Cx) (fs : List Field) : List V → List (Nat × V) → Option (List V)
  | cells, [] => some cells
  | cells, (i, v) :: r =>
    match fs[i]? with
    | some f => match cx.ty f.type with
      | some d => if v.cells.length = d.size ∧ f.offset + d.size ≤ cells.length then fillP cx fs (over cells f.offset v.cells) r else none
      | none => none
    | none => none

def evparts (e : Env) : List (Nat × Operand) → Option (List (Nat × V))
  | [] => some []
  | (i, x) :: r => match evx cx e x, evparts e r with | some v, some l => some ((i, v) :: l) | _, _ => none

def setParts (sz : Nat) : List PV → List (Nat × V) → Option (List PV)
  | xs, [] => some xs
  | xs, (i, .p x) :: r => if i < xs.length ∧ x.cells.length = sz ∧ x.cells.all PV.cell then setParts sz (xs.set i x) r else none
  | _, _ => none

/-- Numbers and texts. -/
def evInt (op : BinOp) (k : IntKind) (a b : Int) : Option PV :=
  match op with
  | .add => some (.int k (k.wrap (a + b)))
  | .sub => some (.int k (k.wrap (a - b)))
  | .mul => some (.int k (k.wrap (a * b)))
  | .quo => if b = 0 then none else some (.int k (k.wrap (a.tdiv b)))
  | .rem => if b = 0 then none else some (.int k (a.tmod b))
  | .and => some (.int k (k.wrap (BitVec.ofInt k.bits a &&& BitVec.ofInt k.bits b).toNat))
  | .or => some (.int k (k.wrap (BitVec.ofInt k.bits a ||| BitVec.ofInt k.bits b).toNat))
  | .andNot => some (.int k (k.wrap (BitVec.ofInt k.bits a &&& ~~~ BitVec.ofInt k.bits b).toNat))
  | .eql => some (.bool (a == b))
  | .neq => some (.bool (a != b))
  | .lss => some (.bool (decide (a < b)))
  | .leq => some (.bool (decide (a ≤ b)))
  | .gtr => some (.bool (decide (a > b)))
  | .geq => some (.bool (decide (a ≥ b)))
  | _ => none
def evStr (op : BinOp) (a b : ByteArray) : Option PV :=
  match op with
  | .add => if a.size + b.size ≤ 9223372036854775807 then some (.str (a ++ b)) else none
  | .eql => some (.bool (a.toList == b.toList))
  | .neq => some (.bool (!(a.toList == b.toList)))
  | _ => none
/-- '==' of what stands in cells, by the type. -/
def evEqCell (cx : Cx) (t : TypeId) (x y : V) : Option Bool :=
  match cx.ty t with
  | some d => (match d.desc, x, y with
    | .int _, .p (.int k a), .p (.int k' b) => if k = k' then some (a == b) else none
    | .bool, .p (.bool a), .p (.bool b) => some (a == b)
    | .string, .p (.str a), .p (.str b) => some (a == b)
    | .pointer _, .p .nilp, .p .nilp => some true
    | .pointer _, .p .nilp, .ref _ _ | .pointer _, .ref _ _, .p .nilp => some false
    | .func _ _ _, .p .nilf, .p .nilf => some true
    | .func _ _ _, .func _ _ _, .p .nilf | .func _ _ _, .p (.func _ _ _), .p .nilf => some false
    | _, _, _ => none)
  | none => none
def evEqFields (cx : Cx) (xs ys : List PV) : List Field → Option Bool
  | [] => some true
  | f :: r => if f.name = "_" then none else match rdl xs f.offset, rdl ys f.offset with
    | some x, some y => match evEqCell cx f.type (.p x) (.p y) with
      | some true => evEqFields cx xs ys r
      | some false => some false
      | none => none
    | _, _ => none
def evEq (cx : Cx) (t : TypeId) (x y : V) : Option Bool :=
  match x, y with
  | .p (.agg xs), .p (.agg ys) => (match cx.ty t with
    | some d => (match d.desc with | .struct fs => if cx.eqt t then evEqFields cx xs ys fs.toList else none | _ => none)
    | none => none)
  | _, _ => evEqCell cx t x y
def evBin (cx : Cx) (op : BinOp) (t : TypeId) (x y : V) : Option PV :=
  match op, x, y with
  | .shl, .p (.int k a), .p (.int _ b) => if b < 0 then none else some (.int k (k.wrap (a * 2 ^ (min b.toNat k.bits))))
  | .shr, .p (.int k a), .p (.int _ b) => if b < 0 then none else some (.int k (a.fdiv (2 ^ (min b.toNat k.bits))))
  | op, .p (.int k a), .p (.int k' b) => if k = k' then evInt op k a b else none
  | op, .p (.str a), .p (.str b) => evStr op a b
  | .eql, x, y => match evEq cx t x y with | some b => some (.bool b) | none => none
  | .neq, x, y => match evEq cx t x y with | some b => some (.bool (!b)) | none => none
  | _, _, _ => none
/-- Is it the word 'nil' of a slice's type? -/
def nilC : Operand → Bool
  | .const (.slice none 0 0) => true
  | _ => false
def isSlT (cx : Cx) (t : TypeId) : Bool := match cx.ty t with
  | some d => (match d.desc with | .slice _ => true | _ => false)
  | none => false
/-- A slice that has elements, held against nil. -/
def evNil (cx : Cx) (op : BinOp) (t : TypeId) (y : Operand) (a : V) : Option Bool :=
  match a with
  | .p (.sl (_ :: _)) | .own _ _ (_ + 1) => (match op with
    | .eql => if nilC y && isSlT cx t then some false else none
    | .neq => if nilC y && isSlT cx t then some true else none
    | _ => none)
  | _ => none
def evUn (op : UnOp) (x : V) : Option PV :=
  match op, x with
  | .neg, .p (.int k n) => some (.int k (k.wrap (0 - n)))
  | .not, .p (.bool b) => some (.bool (!b))
  | _, _ => none

def elemSz (cx : Cx) (e : TypeId) (n : Nat) : Bool := match cx.ty e with | some d => d.size == n | none => false

/-- 's[lo:hi]'. -/
def evCut (cx : Cx) (el : TypeId) (x : V) (lo hi : Option Int) : Option V :=
  match x with
  | .p .nils => let h := hi.getD 0; let l := lo.getD 0; if 0 ≤ l ∧ l ≤ h ∧ h ≤ 0 then some (.p .nils) else none
  | .p (.sl xs) => let h := hi.getD xs.length; let l := lo.getD 0; if 0 ≤ l ∧ l ≤ h ∧ h ≤ xs.length then
      (if l = h then some (.p (.sl [])) else match rdl xs l.toNat with
        | some x => if elemSz cx el x.cells.length then some (.p (.sl ((xs.drop l.toNat).take (h.toNat - l.toNat)))) else none
        | none => none) else none
  | .own id off n => let h := hi.getD n; let l := lo.getD 0; if 0 = l ∧ l ≤ h ∧ h ≤ n then some (.own id off h.toNat) else none
  | _ => none
def evCutS (s : ByteArray) (lo hi : Option Int) : Option V :=
  let h := hi.getD s.size; let l := lo.getD 0; if 0 ≤ l ∧ l ≤ h ∧ h ≤ s.size then some (.p (.str (s.extract l.toNat h.toNat))) else none

def intOf? : V → Option Int
  | .p (.int _ n) => some n
  | _ => none
def optInt (e : Env) : Option Operand → Option (Option Int)
  | none => some none
  | some x => match evx cx e x with | some v => (match intOf? v with | some n => some (some n) | none => none) | none => none

def keyEq : PV → PV → Option Bool
  | .int k a, .int k' b => if k = k' then some (a == b) else none
  | .str a, .str b => some (a == b)
  | _, _ => none
def findKV (k : PV) : List (PV × V) → Option (Option V)
  | [] => some none
  | (j, v) :: r => match keyEq k j with | some true => some (some v) | some false => findKV k r | none => none

def keyOk (d : TypeDesc) (k : PV) : Bool := match d, k with | .int _, .int _ _ => true | .string, .str _ => true | _, _ => false

/-- What is owned is read alone from now on; the value hangs on no variable any more. -/
def res0 (v : V) (H : Hp) : Option (PV × Hp) :=
  match v with
  | .p x => some (x, H)
  | .own id off n => match H.obj id with
    | .own xs => if id < H.low then none else if off + n ≤ xs.length then some (.sl ((xs.drop off).take n), H.set id (.fro xs)) else none
    | .fro xs => if off + n ≤ xs.length then some (.sl ((xs.drop off).take n), H) else none
    | _ => none
  | _ => none
def res0s : List V → Hp → Option (List PV × Hp)
  | [], H => some ([], H)
  | v :: r, H => match res0 v H with
    | some (x, H) => (match res0s r H with | some (l, H) => some (x :: l, H) | none => none)
    | none => none
def res1 (v : V) (H : Hp) : Option (PV × Hp) :=
  match v with
  | .agg cs => match res0s cs H with | some (l, H) => some (.agg l, H) | none => none
  | .iface t v => match res0 v H with | some (x, H) => some (.iface t x, H) | none => none
  | v => res0 v H
def res1s : List V → Hp → Option (List PV × Hp)
  | [], H => some ([], H)
  | v :: r, H => match res1 v H with
    | some (x, H) => (match res1s r H with | some (l, H) => some (x :: l, H) | none => none)
    | none => none
def res2 (v : V) (H : Hp) : Option (PV × Hp) :=
  match v with
  | .tup cs => match res1s cs H with | some (l, H) => some (.tup l, H) | none => none
  | v => res1 v H

/-- Parts of a new row: what is owned is read alone from now on. -/
def resParts : List (Nat × V) → Hp → Option (List (Nat × V) × Hp)
  | [], H => some ([], H)
  | (i, .p x) :: r, H => (match resParts r H with | some (l, H) => some ((i, .p x) :: l, H) | none => none)
  | (i, v) :: r, H => (match res1 v H with
    | some (x, H) => (match resParts r H with | some (l, H) => some ((i, .p (nrm x)) :: l, H) | none => none)
    | none => none)

def maxB : Nat := 140737488355328

def headSz (xs : List PV) (n : Nat) : Bool := match xs with | x :: _ => x.cells.length == n | [] => false

/-- append of elements. -/
def evAppend (cx : Cx) (t : TypeId) (s x : V) (H : Hp) : Option (V × Hp) :=
  match cx.ty t with
  | some d => (match d.desc with
    | .slice e => (match cx.ty e with
      | some de =>
        if de.size = 0 then none else
        match res0 x H with
        | some (x, H) =>
          (match (match x with | .nils => some [] | .sl ys => some ys | _ => none) with
          | some ys =>
            (match s with
            | .p .nils => if ys.length * de.bytes ≤ maxB ∧ ys.length ≤ maxB then (match ys with | [] => some (.p .nils, H) | y :: r => if y.cells.length = de.size then some (.own H.next 0 ys.length, H.new (.own ys)) else none) else none
            | .own id 0 n => if ys = [] then some (.own id 0 n, H) else if id < H.low ∨ ¬ (ys = [] ∨ headSz ys de.size) then none else (match H.obj id with
              | .own xs => if n ≤ xs.length ∧ (n + ys.length) * de.bytes ≤ maxB ∧ n + ys.length ≤ maxB ∧ headSz xs de.size then
                  some (.own H.next 0 (n + ys.length), (H.set id .gone).new (.own (xs.take n ++ ys))) else none
              | _ => none)
            | _ => none)
          | none => none)
        | none => none
      | none => none)
    | _ => none)
  | none => none

/-- append of so many zeros to nothing. -/
def evAppend0 (cx : Cx) (t t' : TypeId) (s x : V) (H : Hp) : Option (V × Hp) :=
  match s, x with
  | .p .nils, .p (.int _ n) => (match cx.ty t, cx.ty t' with
    | some d, some d' => (match d.desc, d'.desc with
      | .slice e, .int _ => (match cx.ty e with
        | some de => if de.size = 0 ∨ n ≤ 0 ∨ ¬ (n.toNat * de.bytes ≤ maxB ∧ n.toNat ≤ maxB) then none else some (.own H.next 0 n.toNat, H.new (.own (List.replicate n.toNat de.zero)))
        | none => none)
      | _, _ => none)
    | _, _ => none)
  | _, _ => none

def lenV : V → Option Nat
  | .p .nils => some 0
  | .p (.sl xs) => some xs.length
  | .own _ _ n => some n
  | _ => none

def minInts (m : Bool) (k : IntKind) : Int → List V → Option PV
  | a, [] => some (.int k a)
  | a, .p (.int _ b) :: r => if m then minInts m k (if b < a then b else a) r else minInts m k (if a < b then b else a) r
  | _, _ => none

/-- '&x[i]'. -/
def evIndexAddr (cx : Cx) (t : TypeId) (x : V) (i : Int) (H : Hp) : Option V :=
  match cx.ty t with
  | some d => (match d.desc, x with
    | .slice el, .p (.sl xs) => if 0 ≤ i then (match rdl xs i.toNat with
      | some x => if elemSz cx el x.cells.length then some (.p (.sptr xs i.toNat 0)) else none
      | none => none) else none
    | .slice el, .own id off n => if 0 ≤ i ∧ i < n then (match H.obj id with
      | .own xs | .fro xs => (match rdl xs (off + i.toNat) with
        | some x => if elemSz cx el x.cells.length then some (.optr id (off + i.toNat) 0) else none
        | none => none)
      | .vec xs => if elemSz cx el 1 then some (.optr id (off + i.toNat) 0) else none
      | _ => none) else none
    | .array n el, .p (.sptr xs 0 0) => if xs.length = n ∧ 0 ≤ i then (match rdl xs i.toNat with
      | some x => if elemSz cx el x.cells.length then some (.p (.sptr xs i.toNat 0)) else none
      | none => none) else none
    | .array n el, .ref id off => if elemSz cx el 1 ∧ 0 ≤ i ∧ i < n then some (.ref id (off + i.toNat)) else none
    | _, _ => none)
  | none => none

def evFieldAddr (cx : Cx) (t : TypeId) (x : V) (f : Nat) : Option V :=
  match cx.ty t with
  | some d => (match d.desc with
    | .struct fs => (match fs[f]? with
      | some fd => (match cx.ty fd.type with
        | some df => if df.size = 0 then none else (match x with
          | .ref id off => some (.ref id (off + fd.offset))
          | .p (.sptr xs i g) => some (.p (.sptr xs i (g + fd.offset)))
          | .optr id i g => some (.optr id i (g + fd.offset))
          | _ => none)
        | none => none)
      | none => none)
    | _ => none)
  | none => none

def evField (cx : Cx) (t : TypeId) (x : V) (f : Nat) : Option V :=
  match cx.ty t with
  | some d => (match d.desc with
    | .struct fs => (match fs[f]? with
      | some fd => (match cx.ty fd.type with
        | some df => (match x with
          | .p (.agg cs) => (match cut cs fd.offset df.size with
            | some l => if isAggT df.desc then some (.p (.agg l)) else (match l with | [v] => some (.p v) | _ => none)
            | none => none)
          | .agg cs => (match cut cs fd.offset df.size with
            | some l => if isAggT df.desc then some (mkAgg l) else (match l with | [v] => some v | _ => none)
            | none => none)
          | _ => none)
        | none => none)
      | none => none)
    | _ => none)
  | none => none

def evLoad (cx : Cx) (t : TypeId) (a : V) (H : Hp) : Option V :=
  match cx.ty t with
  | some d => if isAggT d.desc then (match readAt H a d.size with | some l => some (mkAgg l) | none => none)
    else (match readAt H a 1 with | some [v] => some v | _ => none)
  | none => none

def evIface (cx : Cx) (t : TypeId) (x : V) : Option V :=
  match cx.ty t with
  | some d => (match d.desc with
    | .interface _ => none
    | _ => (match x with | .p x => some (.p (.iface t x)) | x => some (.iface t x)))
  | none => none

def evAssert (cx : Cx) (x : V) (t : TypeId) (ok : Bool) : Option V :=
  match cx.ty t with
  | some d => (match d.desc with
    | .interface _ => none
    | _ => if ok then (match x with
        | .p .nili => some (.p (.tup [d.zero, .bool false]))
        | .p (.iface u x) => if u = t then some (.p (.tup [x, .bool true])) else some (.p (.tup [d.zero, .bool false]))
        | _ => none) else none)
  | none => none

/-- What is called: a function; a loop's body. -/
inductive Tg where
  | f (f : FuncId)
  | y (id : Nat)
abbrev CallT := Tg → List V → Hp → Option Rz

def evBuiltin (cx : Cx) (b : Builtin) (ts : List TypeId) (args : List V) (H : Hp) : Option Rz :=
  match b, ts, args with
  | .len, t :: _, x :: _ => (match cx.ty t with
    | some d => (match d.desc with
      | .string => (match x with | .p (.str s) => some (.ok (.p (.int .i64 s.size)) H) | _ => none)
      | .slice _ => (match lenV x with | some n => some (.ok (.p (.int .i64 n)) H) | none => none)
      | .array n _ => some (.ok (.p (.int .i64 n)) H)
      | _ => none)
    | none => none)
  | .cap, t :: _, .p .nils :: _ => (match cx.ty t with
    | some d => (match d.desc with | .slice _ => some (.ok (.p (.int .i64 0)) H) | _ => none)
    | none => none)
  | .append, [t, t'], [s, x] => if t = t' then (match evAppend cx t s x H with | some (v, H) => some (.ok v H) | none => none) else (match evAppend0 cx t t' s x H with | some (v, H) => some (.ok v H) | none => none)
  | .min, _, .p (.int k a) :: r => (match minInts true k a r with | some x => some (.ok (.p x) H) | none => none)
  | .max, _, .p (.int k a) :: r => (match minInts false k a r with | some x => some (.ok (.p x) H) | none => none)
  | _, _, _ => none

/-- One operation. -/
def evOp (call : CallT) (o : Oper) (e : Env) (H : Hp) : Option Rz :=
  match o.op with
  | .move x | .assign x => (match evx cx e x with | some v => some (.ok v H) | none => none)
  | .pick c a b => (match evx cx e c with
    | some (.p (.bool true)) => (match evx cx e a with | some v => some (.ok v H) | none => none)
    | some (.p (.bool false)) => (match evx cx e b with | some v => some (.ok v H) | none => none)
    | _ => none)
  | .alloc t => (match cx.ty t with | some d => some (.ok (.ref H.next 0) (H.new (.ref (d.zero.cells.map .p)))) | none => none)
  | .box _ x => (match evx cx e x with | some v => some (.ok (.ref H.next 0) (H.new (.ref v.cells))) | none => none)
  | .build t parts => (match cx.ty t, evparts cx e parts.toList with
    | some d, some ps => (match d.desc with
      | .struct fs => if fs.toList.all (fun f => (cx.ty f.type).isSome) then (match fillP cx fs.toList (d.zero.cells.map .p) ps with | some l => some (.ok (mkAgg l) H) | none => none) else none
      | _ => none)
    | _, _ => none)
  | .buildSlice t n parts => (match cx.ty t, evparts cx e parts.toList with
    | some d, some ps => (match d.desc with
      | .slice el => (match cx.ty el with
        | some de => if n * de.size > 16777216 ∨ de.size = 0 then none else
          (match resParts ps H with
          | some (ps, H) => (match setParts de.size (List.replicate n de.zero) ps with
            | some xs => some (.ok (.p (if n = 0 then .nils else .sl xs)) H)
            | none => none)
          | none => none)
        | none => none)
      | _ => none)
    | _, _ => none)
  | .load t a => (match evx cx e a with
    | some a => (match evLoad cx t a H with | some v => some (.ok v H) | none => none)
    | none => none)
  | .store t a x => (match evx cx e a, evx cx e x, cx.ty t with
    | some a, some v, some d => if v.cells.length = d.size ∧ v.cells.all V.cell then (match writeAt H a v.cells with | some H => some (.ok (.p .undef) H) | none => none) else none
    | _, _, _ => none)
  | .nilCheck x => (match evx cx e x with
    | some (.ref i f) => some (.ok (.ref i f) H)
    | some (.optr i j f) => some (.ok (.optr i j f) H)
    | some (.p (.sptr xs i f)) => some (.ok (.p (.sptr xs i f)) H)
    | some (.func f a b) => some (.ok (.func f a b) H)
    | some (.p (.func f a b)) => some (.ok (.p (.func f a b)) H)
    | _ => none)
  | .binOp op t x y _ => (match evx cx e x, evx cx e y with
    | some a, some b => (match evNil cx op t y a with
      | some r => some (.ok (.p (.bool r)) H)
      | none => (match evBin cx op t a b with | some v => some (.ok (.p v) H) | none => none))
    | _, _ => none)
  | .unOp op _ x => (match evx cx e x with
    | some a => (match evUn op a with | some v => some (.ok (.p v) H) | none => none)
    | none => none)
  | .convert s d x => (match cx.ty s, cx.ty d, evx cx e x with
    | some s, some d, some v => (match s.desc, d.desc, v with
      | .int _, .int k, .p (.int _ n) => some (.ok (.p (.int k (k.wrap n))) H)
      | _, _, _ => none)
    | _, _, _ => none)
  | .makeInterface t x => (match evx cx e x with
    | some v => (match evIface cx t v with | some r => some (.ok r H) | none => none)
    | none => none)
  | .makeFunc (.func f) first cap => (match evxs cx e first.toList, evxs cx e cap.toList with
    | some a, some b => some (.ok (match allP a, allP b with | some a, some b => .p (.func f a b) | _, _ => .func f a b) H)
    | _, _ => none)
  | .makeMap _ none => some (.ok (.map H.next) (H.new (.map [])))
  | .insert t m k x => (match cx.ty t, evx cx e m, evx cx e k, evx cx e x with
    | some d, some (.map id), some (.p k), some v => (match d.desc with
      | .map kt _ => (match cx.ty kt with
        | some dk => if id < H.low then none else if keyOk dk.desc k ∧ v.cell then (match H.obj id with
          | .map kv => (match findKV k kv with
            | some none => some (.ok (.p .undef) (H.set id (.map (kv ++ [(k, v)]))))
            | _ => none)
          | _ => none) else none
        | none => none)
      | _ => none)
    | _, _, _, _ => none)
  | .lookup t m k ok => (match cx.ty t, evx cx e m, evx cx e k with
    | some d, some (.map id), some (.p k) => (match d.desc with
      | .map kt et => (match cx.ty kt, cx.ty et with
        | some dk, some de => if keyOk dk.desc k then (match H.obj id with
          | .map kv => (match findKV k kv with
            | some (some v) => some (.ok (if ok then mkTup [v, .p (.bool true)] else v) H)
            | some none => some (.ok (if ok then .p (.tup [de.zero, .bool false]) else .p de.zero) H)
            | none => none)
          | _ => none) else none
        | _, _ => none)
      | _ => none)
    | _, _, _ => none)
  | .makeSlice t l c => (match cx.ty t, evx cx e l, evx cx e c with
    | some d, some (.p (.int .i64 n)), some (.p (.int .i64 m)) => (match d.desc with
      | .slice el => (match cx.ty el with
        | some de => if n = m ∧ 0 < n ∧ n ≤ 1000000 ∧ de.size = 1 ∧ de.bytes ≤ 16 ∧ de.zero.cell then
          (match de.zero with
          | .nilp => some (.ok (.own H.next 0 n.toNat) (H.new (.vec (List.replicate n.toNat (.p .nilp)))))
          | z => some (.ok (.own H.next 0 n.toNat) (H.new (.own (List.replicate n.toNat z))))) else none
        | none => none)
      | _ => none)
    | _, _, _ => none)
  | .slice t x lo hi none => (match cx.ty t, evx cx e x, optInt cx e lo, optInt cx e hi with
    | some d, some v, some lo, some hi => (match d.desc, v with
      | .array n el, .p (.sptr xs 0 0) => if xs.length = n ∧ lo = none ∧ hi = none ∧ 0 < n then (match cx.ty el with | some _ => some (.ok (.p (.sl xs)) H) | none => none) else none
      | .slice el, v => (match cx.ty el, evCut cx el v lo hi with | some _, some r => some (.ok r H) | _, _ => none)
      | .string, .p (.str s) => (match evCutS s lo hi with | some r => some (.ok r H) | none => none)
      | _, _ => none)
    | _, _, _, _ => none)
  | .slice t x lo hi (some mx) => (match cx.ty t, evx cx e x, optInt cx e lo, optInt cx e hi, optInt cx e (some mx) with
    | some d, some v, some lo, some (some hi), some (some mx) => (match d.desc with
      | .slice el => if lo.getD 0 = 0 ∧ hi = 0 ∧ mx = 0 then (match cx.ty el, lenV v with | some _, some _ => some (.ok (.p .nils) H) | _, _ => none) else none
      | _ => none)
    | _, _, _, _, _ => none)
  | .fieldAddr t x f => (match evx cx e x with
    | some v => (match evFieldAddr cx t v f with | some r => some (.ok r H) | none => none)
    | none => none)
  | .field t x f => (match evx cx e x with
    | some v => (match evField cx t v f with | some r => some (.ok r H) | none => none)
    | none => none)
  | .indexAddr t x i => (match evx cx e x, evx cx e i with
    | some v, some (.p (.int _ i)) => (match evIndexAddr cx t v i H with | some r => some (.ok r H) | none => none)
    | _, _ => none)
  | .index t x i => (match cx.ty t, evx cx e x, evx cx e i with
    | some d, some (.p (.str s)), some (.p (.int _ i)) => (match d.desc with
      | .string => if 0 ≤ i then (match s[i.toNat]? with | some b => some (.ok (.p (.int .u8 b.toNat)) H) | none => none) else none
      | _ => none)
    | _, _, _ => none)
  | .typeAssert x _ t ok => (match evx cx e x with
    | some v => (match evAssert cx v t ok with | some r => some (.ok r H) | none => none)
    | none => none)
  | .extract x i => (match evx cx e x with
    | some (.p (.tup vs)) => (match rdl vs i with | some v => some (.ok (.p v) H) | none => none)
    | some (.tup vs) => (match rdl vs i with | some v => some (.ok v H) | none => none)
    | _ => none)
  | .call c => (match evxs cx e c.args.toList with
    | some args => (match c.callee with
      | .builtin b => evBuiltin cx b c.argTypes.toList args H
      | .value f => (match evx cx e f with
        | some (.p (.func f a b)) => call (.f f) (a.map .p ++ args ++ b.map .p) H
        | some (.func f a b) => call (.f f) (a ++ args ++ b) H
        | some (.yield id) => call (.y id) args H
        | _ => none)
      | _ => none)
    | none => none)
  | .panic x => (match evx cx e x with
    | some (.p (.iface t v)) => some (.pan (.p (.iface t v)) H)
    | _ => none)
  | _ => none

end
end Go.Ev

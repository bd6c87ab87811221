/-
  What an evaluator of the prover computes for an operation is what the machine of the model does.
-/
import Derived.Calls
import Derived.KernelRfl
import Derived.Orders
import Derived.Laws.CopyRow
import Derived.Laws.AppendOwn
import Derived.Below
import Derived.Laws.Entries
import Derived.Laws.StructEq
import Derived.Laws.Slices
import Derived.Laws.Tables
import Derived.Laws.MakeOwn
set_option linter.unusedVariables false
set_option linter.unusedSimpArgs false
/-
  A SMALL EVALUATOR OVER THE MODEL's CODE: typed immutable values, a small store of the call's own blocks.
  Nothing is claimed in this text; the next ones prove that what it computes is what the machine does.
-/
namespace Go.Ev

/-- the shapes of plain data; a struct is a row of fields -/
inductive Ty where
  | bool
  | int (k : IntKind)
  | str
  | sl (t : Ty)
  | nil
  | cons (h t : Ty)
  deriving DecidableEq

@[reducible] def Ty.D : Ty → Type
  | .bool => Bool
  | .int _ => Int
  | .str => ByteArray
  | .sl t => List t.D
  | .nil => Unit
  | .cons h t => h.D × t.D

def Ty.size : Ty → Nat
  | .nil => 0
  | .cons h t => h.size + t.size
  | _ => 1

def Ty.isAgg : Ty → Bool
  | .nil | .cons _ _ => true
  | _ => false

def castD {a : Ty} (b : Ty) (v : a.D) : Option b.D := if h : a = b then some (h ▸ v) else none

def Ty.zero : (t : Ty) → t.D
  | .bool => false
  | .int _ => (0 : Int)
  | .str => ByteArray.empty
  | .sl _ => []
  | .nil => ()
  | .cons h t => (h.zero, t.zero)

/-- the part of shape b that begins at a cell -/
def Ty.get (b : Ty) : (a : Ty) → a.D → Nat → Option b.D
  | .cons h t, v, off =>
    if e : Ty.cons h t = b then (if off = 0 then some (e ▸ v) else none)
    else if off < h.size then Ty.get b h v.1 off else Ty.get b t v.2 (off - h.size)
  | .nil, v, off => if off = 0 then castD (a := .nil) b v else none
  | .bool, v, off => if off = 0 then castD (a := .bool) b v else none
  | .int k, v, off => if off = 0 then castD (a := .int k) b v else none
  | .str, v, off => if off = 0 then castD (a := .str) b v else none
  | .sl t, v, off => if off = 0 then castD (a := .sl t) b v else none

def Ty.set (b : Ty) (x : b.D) : (a : Ty) → a.D → Nat → Option a.D
  | .cons h t, v, off =>
    if e : b = Ty.cons h t then (if off = 0 then some (e ▸ x) else none)
    else if off < h.size then (Ty.set b x h v.1 off).map fun y => (y, v.2)
    else (Ty.set b x t v.2 (off - h.size)).map fun y => (v.1, y)
  | .nil, _, off => if off = 0 then castD (a := b) .nil x else none
  | .bool, _, off => if off = 0 then castD (a := b) .bool x else none
  | .int k, _, off => if off = 0 then castD (a := b) (.int k) x else none
  | .str, _, off => if off = 0 then castD (a := b) .str x else none
  | .sl t, _, off => if off = 0 then castD (a := b) (.sl t) x else none

/-- the offset and the shape of a field -/
def Ty.field : Ty → Nat → Option (Nat × Ty)
  | .cons h _, 0 => some (0, h)
  | .cons h t, n + 1 => (t.field n).map fun x => (h.size + x.1, x.2)
  | _, _ => none

/-- '==' on plain data that Go can compare -/
def Ty.eqB : (t : Ty) → t.D → t.D → Option Bool
  | .bool, a, b => some (a == b)
  | .int _, a, b => some (decide ((a : Int) = b))
  | .str, a, b => some (a.toList == b.toList)
  | .nil, _, _ => some true
  | .cons h t, a, b => (Ty.eqB h a.1 b.1).bind fun x => (Ty.eqB t a.2 b.2).map fun y => x && y
  | .sl _, _, _ => none

inductive AV where
  | any
  | d (t : Ty) (v : t.D)
  | e0 (t : Ty)
  | agg (cs : List AV)
  | all (id : Nat)
  | ref (id off len : Nat) (tight : Option Nat)
  | ptr (id i f : Nat)
  | cptr (t : Ty) (v : t.D) (f : Nat)
  | tup (vs : List AV)
  | fn (f : FuncId) (cap : List AV)

inductive Blk where
  | dead
  | data (t : Ty) (xs : List t.D)
  | node (sz : Nat) (xs : List AV)
  /-- a row of rows of the call's own; one of them may stand in a block by itself -/
  | deep (t : Ty) (xss : List (List t.D)) (link : Option (Nat × Option Nat))

abbrev Store := List Blk
abbrev Env := List (Nat × AV)

def mapO {α β : Type} (f : α → Option β) : List α → Option (List β)
  | [] => some []
  | x :: r => (f x).bind fun y => (mapO f r).map fun s => y :: s

def flat : (t : Ty) → t.D → List AV
  | .cons h t, v => flat h v.1 ++ flat t v.2
  | .nil, _ => []
  | .bool, v => [.d .bool v]
  | .int k, v => [.d (.int k) v]
  | .str, v => [.d .str v]
  | .sl t, v => [.d (.sl t) v]

def AV.cells : AV → List AV
  | .d t v => flat t v
  | .agg cs => cs
  | .any | .tup _ | .fn _ _ => []
  | v => [v]

/-- the cells of a zero value: a nil slice keeps that it has no room -/
def zeroCells : Ty → List AV
  | .cons h t => zeroCells h ++ zeroCells t
  | .nil => []
  | .bool => [.d .bool false]
  | .int k => [.d (.int k) (0 : Int)]
  | .str => [.d .str ByteArray.empty]
  | .sl t => [.e0 t]

/-- cells that are all plain data -/
def allD : (t : Ty) → List AV → Option t.D
  | .cons h t, cs => (allD h (cs.take h.size)).bind fun a => (allD t (cs.drop h.size)).map fun b => (a, b)
  | .nil, cs => match cs with | [] => some () | _ => none
  | .bool, cs => match cs with | [.d a v] => castD (a := a) .bool v | _ => none
  | .int k, cs => match cs with | [.d a v] => castD (a := a) (.int k) v | _ => none
  | .str, cs => match cs with | [.d a v] => castD (a := a) .str v | _ => none
  | .sl t, cs => match cs with | [.d a v] => castD (a := a) (.sl t) v | _ => none

/-- a value of a shape out of its cells -/
def ofCells (t : Ty) (cs : List AV) : Option AV :=
  if t.isAgg then (if cs.length = t.size then some (match allD t cs with | some v => .d t v | none => .agg cs) else none)
  else match cs with | [c] => some c | _ => none

/-- a value's content as plain data: what refers to the store is looked up -/
def snapC (s : Store) : (t : Ty) → List AV → Option t.D
  | .cons h t, cs => (snapC s h (cs.take h.size)).bind fun a => (snapC s t (cs.drop h.size)).map fun b => (a, b)
  | .nil, cs => match cs with | [] => some () | _ => none
  | .bool, cs => match cs with | [.d a v] => castD (a := a) .bool v | _ => none
  | .int k, cs => match cs with | [.d a v] => castD (a := a) (.int k) v | _ => none
  | .str, cs => match cs with | [.d a v] => castD (a := a) .str v | _ => none
  | .sl t, cs => match cs with
    | [.d a v] => castD (a := a) (.sl t) v
    | [.e0 a] => if a = t then some [] else none
    | [.all id] => (match s[id]? with
      | some (.data a xs) => castD (a := .sl a) (.sl t) xs
      | some (.node _ xs) => mapO (fun x => snapC s t x.cells) xs
      | some (.deep a xs none) => castD (a := .sl (.sl a)) (.sl t) xs
      | _ => none)
    | [.ref id off len _] => (match s[id]? with
      | some (.data a xs) => (castD (a := .sl a) (.sl t) xs).map fun ys => (ys.drop off).take len
      | some (.node _ xs) => mapO (fun x => snapC s t x.cells) ((xs.drop off).take len)
      | some (.deep a xs none) => (castD (a := .sl (.sl a)) (.sl t) xs).map fun ys => (ys.drop off).take len
      | _ => none)
    | _ => none

def snap (s : Store) (t : Ty) : AV → Option t.D
  | .d _ v => castD t v
  | .agg cs => if t.isAgg then snapC s t cs else none
  | v => if t.isAgg then none else snapC s t v.cells

/-- a value that is plain data of a shape already -/
def asD (t : Ty) : AV → Option t.D
  | .d _ v => castD t v
  | .agg cs => if t.isAgg then allD t cs else none
  | _ => none

def lk : Env → Nat → AV
  | [], _ => .any
  | (k, v) :: r, t => if k = t then v else lk r t

def up : Env → Nat → AV → Env
  | [], t, v => [(t, v)]
  | (k, w) :: r, t, v => if k = t then (t, v) :: r else if t < k then (t, v) :: (k, w) :: r else (k, w) :: up r t v

/-- what the text of a program says of its types, as far as it is plain data; of tuples the parts -/
structure Tab where
  ty : TypeId → Option Ty
  tup : TypeId → Option (List Ty)

def ofConst (T : Tab) (t : TypeId) : Value → AV
  | .bool b => .d .bool b
  | .int k n => .d (.int k) n
  | .string s => .d .str s
  | .slice none 0 0 => match T.ty t with | some (.sl a) => .e0 a | _ => .any
  | .tuple vs => if vs.size = 0 then .tup [] else .any
  | _ => .any

def opnd (T : Tab) (t : TypeId) (e : Env) : Operand → AV
  | .tmp i => lk e i
  | .const v => ofConst T t v
  | .func f => .fn f []
  | .global _ => .any

def asB : AV → Option Bool
  | .d .bool b => some b
  | _ => none

def asI : AV → Option (IntKind × Int)
  | .d (.int k) n => some (k, n)
  | _ => none

/-- an index or a bound: a number that is not negative -/
def asN (v : AV) : Option Nat := (asI v).bind fun x => if 0 ≤ x.2 then some x.2.toNat else none

/-- a new row: of the store, or at once plain data that nobody writes any more -/
def mkRow (mu : Bool) (s : Store) (t : Ty) (xs : List t.D) : AV × Store :=
  if mu then (.all s.length, s ++ [.data t xs]) else (.d (.sl t) xs, s)

def mkVar (mu : Bool) (s : Store) (t : Ty) (v : AV) : Option (AV × Store) :=
  if mu then
    some (.ptr s.length 0 0, s ++ [match allD t v.cells with | some x => .data t [x] | none => .node t.size [v]])
  else (allD t v.cells).map fun x => (.cptr t x 0, s)

def bin (op : BinOp) (k : IntKind) (a b : Int) : Option AV :=
  match op with
  | .add => some (.d (.int k) (k.wrap (a + b)))
  | .sub => some (.d (.int k) (k.wrap (a - b)))
  | .mul => some (.d (.int k) (k.wrap (a * b)))
  | .quo => if b = 0 then none else some (.d (.int k) (k.wrap (a.tdiv b)))
  | .rem => if b = 0 then none else some (.d (.int k) (a.tmod b))
  | .and => some (.d (.int k) (k.wrap (BitVec.ofInt k.bits a &&& BitVec.ofInt k.bits b).toNat))
  | .or => some (.d (.int k) (k.wrap (BitVec.ofInt k.bits a ||| BitVec.ofInt k.bits b).toNat))
  | .xor => some (.d (.int k) (k.wrap (BitVec.ofInt k.bits a ^^^ BitVec.ofInt k.bits b).toNat))
  | .andNot => some (.d (.int k) (k.wrap (BitVec.ofInt k.bits a &&& ~~~(BitVec.ofInt k.bits b)).toNat))
  | .eql => some (.d .bool (a == b))
  | .neq => some (.d .bool (a != b))
  | .lss => some (.d .bool (decide (a < b)))
  | .leq => some (.d .bool (decide (a ≤ b)))
  | .gtr => some (.d .bool (decide (a > b)))
  | .geq => some (.d .bool (decide (a ≥ b)))
  | _ => none

def binS (op : BinOp) (x y : ByteArray) : Option AV :=
  match op with
  | .add => if ((x.size + y.size : Nat) : Int) > 9223372036854775807 then none else some (.d .str (x ++ y))
  | .eql => some (.d .bool (x.toList == y.toList))
  | .neq => some (.d .bool (!(x.toList == y.toList)))
  | .lss => some (.d .bool (Op.bytesLess x.toList y.toList))
  | .leq => some (.d .bool (Op.bytesLess x.toList y.toList || x.toList == y.toList))
  | .gtr => some (.d .bool (!(Op.bytesLess x.toList y.toList || x.toList == y.toList)))
  | .geq => some (.d .bool (!Op.bytesLess x.toList y.toList))
  | _ => none

def binOpV (T : Tab) (op : BinOp) (t : TypeId) (x y : AV) : Option AV :=
  match op, x, y with
  | .shl, .d (.int k) a, .d (.int _) b => if (b : Int) < 0 then none else some (.d (.int k) (k.wrap ((a : Int) * 2 ^ (min (b : Int).toNat k.bits))))
  | .shr, .d (.int k) a, .d (.int _) b => if (b : Int) < 0 then none else some (.d (.int k) ((a : Int).fdiv (2 ^ (min (b : Int).toNat k.bits))))
  | op, .d (.int k) a, .d (.int k') b => if k = k' then bin op k a b else none
  | op, .d .str a, .d .str b => binS op a b
  | .eql, x, y => (T.ty t).bind fun τ => (asD τ x).bind fun a => (asD τ y).bind fun b => (τ.eqB a b).map (.d .bool)
  | .neq, x, y => (T.ty t).bind fun τ => (asD τ x).bind fun a => (asD τ y).bind fun b => (τ.eqB a b).map fun c => .d .bool (!c)
  | _, _, _ => none

def lenV (s : Store) : AV → Option Nat
  | .d (.sl _) xs => some xs.length
  | .d .str x => some x.size
  | .e0 _ => some 0
  | .all id => (match s[id]? with | some (.data _ xs) => some xs.length | some (.node _ xs) => some xs.length | some (.deep _ xs _) => some xs.length | _ => none)
  | .ref id _ len _ => (match s[id]? with | some (.data _ _) => some len | some (.node _ _) => some len | some (.deep _ _ _) => some len | _ => none)
  | _ => none

def lenSl (s : Store) : AV → Option Nat
  | .d .str _ => none
  | v => lenV s v

/-- the elements of a slice as plain data of a shape -/
def elems (s : Store) (t : Ty) : AV → Option (List t.D)
  | .d _ v => castD (.sl t) v
  | .e0 a => if a = t then some [] else none
  | .all id => (match s[id]? with
    | some (.data a xs) => castD (a := .sl a) (.sl t) xs
    | some (.node _ xs) => mapO (fun x => allD t x.cells) xs
    | _ => none)
  | .ref id off len _ => (match s[id]? with
    | some (.data a xs) => (castD (a := .sl a) (.sl t) xs).map fun ys => (ys.drop off).take len
    | some (.node _ xs) => mapO (fun x => allD t x.cells) ((xs.drop off).take len)
    | _ => none)
  | _ => none

def putBlk (s : Store) (id : Nat) (b : Blk) : Store := s.set id b

/-- n elements from 'at' on are overwritten -/
def over {α : Type} (xs : List α) (at_ : Nat) (ys : List α) : List α := xs.take at_ ++ ys ++ xs.drop (at_ + ys.length)

def bigRow : Nat := 1099511627776

/-- append of plain elements -/
def appendV (mu : Bool) (s : Store) (t : Ty) (base : AV) (ys : List t.D) : Option (AV × Store) :=
  match base with
  | .e0 a => if a = t then (if ys.length ≤ bigRow then some (mkRow mu s t ys) else none) else none
  | .all id => (match s[id]? with
    | some (.data a xs) => (castD (a := .sl a) (.sl t) xs).bind fun zs =>
      if zs.length + ys.length ≤ bigRow then
        let s' := putBlk s id .dead
        if mu then some (.all s'.length, s' ++ [.data t (zs ++ ys)]) else some (.d (.sl t) (zs ++ ys), s')
      else none
    | _ => none)
  | .ref id off len tight => (match s[id]? with
    | some (.data a xs) => (castD (a := .sl a) (.sl t) xs).bind fun zs =>
      match tight with
      | some c =>
        if len + ys.length ≤ c then (if off + len + ys.length ≤ zs.length then some (.ref id off (len + ys.length) (some c), putBlk s id (.data t (over zs (off + len) ys))) else none)
        else if len + ys.length ≤ bigRow then some (mkRow mu s t ((zs.drop off).take len ++ ys)) else none
      | none => if off + len + ys.length ≤ zs.length then
          some (.ref id off (len + ys.length) none, putBlk s id (.data t (over zs (off + len) ys)))
        else none
    | _ => none)
  | _ => none

def liveB (s : Store) (id : Nat) : Bool :=
  match s[id]? with
  | some (.data _ _) => true
  | some (.node _ _) => true
  | some (.deep _ _ _) => true
  | _ => false

/-- the place of a part of a struct -/
def partPtr (s : Store) (o : Nat) : AV → Option AV
  | .cptr b v g => some (.cptr b v (g + o))
  | .ptr i j g => if liveB s i then some (.ptr i j (g + o)) else none
  | _ => none

/-- is the block alive, its elements of so many cells? -/
def okSz (s : Store) (id n : Nat) : Bool :=
  match s[id]? with
  | some (.data b _) => decide (b.size = n)
  | some (.node m _) => decide (m = n)
  | some (.deep _ _ _) => decide (1 = n)
  | _ => false

def bndV : Option AV → Option (Option Nat)
  | none => some none
  | some x => (asN x).map some

/-- a slice expression at a slice of elements of shape a -/
def cutS (a : Ty) (s : Store) (v : AV) (l h : Option Nat) : Option AV :=
  match v with
  | .d (.sl b) xs => if a = b then (match l, h with
    | none, none => some (.d (.sl b) xs)
    | some l, none => if l ≤ xs.length then some (.d (.sl b) (xs.drop l)) else none
    | none, some h => if h ≤ xs.length then some (.d (.sl b) (xs.take h)) else none
    | some l, some h => if l ≤ h ∧ h ≤ xs.length then some (.d (.sl b) ((xs.take h).drop l)) else none) else none
  | .e0 t => if l.getD 0 = 0 ∧ h.getD 0 = 0 then some (.e0 t) else none
  | .all id => if okSz s id a.size then (lenV s (.all id)).bind fun n =>
    if l.getD 0 ≤ h.getD n ∧ h.getD n ≤ n then some (.ref id (l.getD 0) (h.getD n - l.getD 0) none) else none
    else none
  | .ref id off len tight => if okSz s id a.size then (lenV s (.all id)).bind fun n => (match h with
    | none => if l.getD 0 ≤ len then some (.ref id (off + l.getD 0) (len - l.getD 0) (tight.map fun c => c - l.getD 0)) else none
    | some h' => (match tight with
      | some c => if l.getD 0 ≤ h' ∧ h' ≤ c ∧ off + h' ≤ n then some (.ref id (off + l.getD 0) (h' - l.getD 0) (some (c - l.getD 0))) else none
      | none => if l.getD 0 ≤ h' ∧ off + h' ≤ n then some (.ref id (off + l.getD 0) (h' - l.getD 0) none) else none))
    else none
  | _ => none

/-- a slice expression with three bounds: data stay data; a whole block cut to what it holds is itself; a part loses its room; of others nothing is known -/
def cut3 (mu : Bool) (a : Ty) (n : Nat) (v : AV) (l h m : Nat) : Option AV :=
  match v with
  | .d (.sl b) xs => if a = b then some (.d (.sl b) ((xs.take h).drop l)) else none
  | .all id => if mu then (if l = 0 ∧ h = n then some (.all id) else none) else some .any
  | .ref id off _ _ => if mu then (if l = 0 ∧ m = h then some (.ref id off h (some h)) else none) else some .any
  | _ => some .any

def cutV (mu : Bool) (t : Ty) (s : Store) (v : AV) (lo hi mx : Option AV) : Option AV :=
  (bndV lo).bind fun l => (bndV hi).bind fun h => (bndV mx).bind fun m =>
  match t, m with
  | .str, none => (match v with
    | .d .str x => if l.getD 0 ≤ h.getD x.size ∧ h.getD x.size ≤ x.size then some (.d .str (x.extract (l.getD 0) (h.getD x.size))) else none
    | _ => none)
  | .sl a, none => cutS a s v l h
  | .sl a, some m => (lenSl s v).bind fun n => (match h with
    | some h' => if l.getD 0 ≤ h' ∧ h' ≤ m ∧ m ≤ n then cut3 mu a n v (l.getD 0) h' m else none
    | none => none)
  | _, _ => none

/-- a pointer to an element -/
def elemPtr (s : Store) (v : AV) (n : Nat) : Option AV :=
  match v with
  | .d (.sl t) xs => (xs[n]?).map fun x => .cptr t x 0
  | .all id => (lenV s (.all id)).bind fun m => if n < m then some (.ptr id n 0) else none
  | .ref id off len _ => if n < len then some (.ptr id (off + n) 0) else none
  | _ => none

def loadV (s : Store) (t : Ty) : AV → Option AV
  | .cptr a v f => (Ty.get t a v f).map (.d t)
  | .ptr id i f => (match s[id]? with
    | some (.data a xs) => (xs[i]?).bind fun x => (Ty.get t a x f).map (.d t)
    | some (.node _ xs) => (xs[i]?).bind fun x => ofCells t ((x.cells.drop f).take t.size)
    | _ => none)
  | _ => none

def known : AV → Bool
  | .any => false
  | _ => true

def nodeCell (sz : Nat) (cs : List AV) : AV := if sz = 1 then (match cs with | [c] => c | _ => .agg cs) else .agg cs

def storeNode (s : Store) (id i f sz : Nat) (xs : List AV) (t : Ty) (v : AV) : Option Store :=
  (xs[i]?).bind fun x =>
    if v.cells.length = t.size ∧ f + t.size ≤ x.cells.length ∧ (x.cells ++ v.cells).all known = true then
      some (putBlk s id (.node sz (xs.set i (nodeCell sz (x.cells.take f ++ v.cells ++ x.cells.drop (f + t.size))))))
    else none

/-! ### rows of rows -/

/-- one of the rows is taken out: it stands in a block by itself -/
def takeV (s : Store) (τ : Ty) (p : AV) : Option (AV × Store) :=
  match p with
  | .ptr id i f => (match s[id]? with
    | some (.deep a xss none) => if τ = .sl a ∧ f = 0 then (xss[i]?).map fun xs => (.all s.length, s.set id (.deep a xss (some (i, some s.length))) ++ [.data a xs]) else none
    | _ => none)
  | _ => none

def linkOk (link : Option (Nat × Option Nat)) (i : Nat) : Prop :=
  match link with
  | none => True
  | some q => q.1 = i

instance (link : Option (Nat × Option Nat)) (i : Nat) : Decidable (linkOk link i) := by
  unfold linkOk; cases link <;> infer_instance

/-- a row of the call's own is put at a place -/
def storeD (s : Store) (τ : Ty) (p v : AV) : Option Store :=
  match p, v with
  | .ptr id i f, .all j => (match s[id]?, s[j]? with
    | some (.deep a xss link), some (.data b ys) => if τ = .sl a ∧ f = 0 then (castD (a := .sl b) (.sl a) ys).bind fun zs =>
        if i < xss.length then (if linkOk link i then some ((s.set j .dead).set id (.deep a (xss.set i zs) none)) else none) else none
      else none
    | _, _ => none)
  | _, _ => none

def makeD (s : Store) (a : Ty) (n : Nat) : AV × Store := (.all s.length, s ++ [.deep a (List.replicate n []) none])

/-- a row that was taken out stands at its place again -/
def settle1 (s : Store) (id : Nat) : Store :=
  match s[id]? with
  | some (.deep a xss (some (p, some j))) => (match s[j]? with
    | some (.data b ys) => (match castD (a := .sl b) (.sl a) ys with
      | some zs => (s.set j .dead).set id (.deep a (xss.set p zs) none)
      | none => s)
    | _ => s)
  | _ => s

/-- a row of one row of the call's own, which still stands in its block -/
def buildD (s : Store) (a : Ty) (v : AV) : Option (AV × Store) :=
  match v with
  | .all j => (match s[j]? with
    | some (.data b ys) => (castD (a := .sl b) (.sl a) ys).map fun zs => (.all s.length, s ++ [.deep a [zs] (some (0, some j))])
    | _ => none)
  | _ => none

/-- one row more -/
def appendD1 (s : Store) (a : Ty) (i k : Nat) : Option (AV × Store) :=
  match s[i]?, s[k]? with
  | some (.deep b xss none), some (.deep b' [z] none) => if i ≠ k then (castD (a := .sl (.sl b)) (.sl (.sl a)) xss).bind fun xs => (castD (a := .sl b') (.sl a) z).bind fun zs =>
      if xs.length + 1 ≤ bigRow then some (.all s.length, (s.set i .dead ++ [Blk.deep a (xs ++ [zs]) none]).set k .dead) else none
    else none
  | _, _ => none

def appendD (s : Store) (a : Ty) (base y : AV) : Option (AV × Store) :=
  match base, y with
  | .all i, .all k => appendD1 (settle1 s k) a i k
  | _, _ => none

def settle (s : Store) : Store := (List.range s.length).foldl settle1 s

/-- rows of rows in the store -/
def slOf (mu : Bool) (a : Ty) : Option Ty :=
  match mu, a with
  | true, .sl b => some b
  | _, _ => none

def mkMake (mu : Bool) (s : Store) (a : Ty) (n : Nat) : AV × Store :=
  match slOf mu a with
  | some b => makeD s b n
  | none => mkRow mu s a (List.replicate n a.zero)

def storeV (s : Store) (t : Ty) (p v : AV) : Option Store :=
  match p with
  | .ptr id i f => (match s[id]? with
    | some (.data a xs) => (match allD t v.cells with
      | some y => (xs[i]?).bind fun x => (Ty.set t y a x f).map fun z => putBlk s id (.data a (xs.set i z))
      | none => storeNode s id i f a.size (xs.map fun x => .d a x) t v)
    | some (.node sz xs) => storeNode s id i f sz xs t v
    | _ => none)
  | _ => none

def storeW (s : Store) (t : Ty) (p v : AV) : Option Store :=
  match storeV s t p v with
  | some s' => some s'
  | none => storeD s t p v

end Go.Ev

/-
  THE EVALUATOR: operations, regions, code, calls. Nothing is claimed in this text.
-/
namespace Go.Ev

/-! ### references in values -/

def id1 : AV → List Nat
  | .all i | .ref i _ _ _ | .ptr i _ _ => [i]
  | _ => []
def id2 : AV → List Nat
  | .agg cs => cs.flatMap id1
  | .fn _ cap => cap.flatMap id1
  | v => id1 v
def id3 : AV → List Nat
  | .tup vs => vs.flatMap id2
  | v => id2 v

def ren1 (m : Nat → Option Nat) : AV → AV
  | .all i => match m i with | some j => .all j | none => .any
  | .ref i o l t => match m i with | some j => .ref j o l t | none => .any
  | .ptr i e f => match m i with | some j => .ptr j e f | none => .any
  | .d t v => .d t v
  | .e0 t => .e0 t
  | .cptr t v f => .cptr t v f
  | _ => .any
def ren2 (m : Nat → Option Nat) : AV → AV
  | .agg cs => .agg (cs.map (ren1 m))
  | .fn f cap => .fn f (cap.map (ren1 m))
  | v => ren1 m v
def ren3 (m : Nat → Option Nat) : AV → AV
  | .tup vs => .tup (vs.map (ren2 m))
  | v => ren2 m v
def renE (m : Nat → Option Nat) (x : AV) : AV :=
  match ren2 m x with
  | .any => .agg (x.cells.map (ren1 m))
  | y => y
def renB (m : Nat → Option Nat) : Blk → Blk
  | .node sz xs => .node sz (xs.map (renE m))
  | .deep t xs link => .deep t xs (link.map fun q => (q.1, q.2.bind m))
  | b => b

def addNew (acc : List Nat) : List Nat → List Nat
  | [] => acc
  | x :: r => addNew (if acc.contains x then acc else acc ++ [x]) r

def blkIds (s : Store) (i : Nat) : List Nat :=
  match s[i]? with
  | some (.node _ xs) => xs.flatMap id2
  | _ => []

def reachOnce (s : Store) (is : List Nat) : List Nat := addNew is (is.flatMap (blkIds s))

def posOf : List Nat → Nat → Option Nat
  | [], _ => none
  | x :: r, i => if x = i then some 0 else (posOf r i).map (· + 1)

/-- the blocks that stay: the first k, and what the roots reach -/
def stay (k : Nat) (roots : List AV) (s : Store) : List Nat :=
  reachOnce s (reachOnce s (reachOnce s (addNew (List.range k) (roots.flatMap id3))))

def pickBlks (s : Store) (m : Nat → Option Nat) (is : List Nat) : Store :=
  is.map fun i => match s[i]? with | some b => renB m b | none => .dead

/-! ### hints: they steer, nothing rests on them -/

inductive Mode where
  | borrow | sub | whole
  deriving DecidableEq

inductive Turn where
  | forced | pure | read | over | late
  | adopt (j : Nat)
  | aside (ids F : List Nat)
  deriving DecidableEq

structure Hint where
  mu : List Tmp := []
  keep : List Tmp := []
  keepR : List Tmp := []
  res : List Tmp := []
  refR : Bool := false
  gc : Bool := true
  base : Nat := 0
  order : List (Nat × List (Nat × Turn)) := []
  keepL : List (Nat × List Tmp) := []
  keepX : List (Nat × List Tmp) := []
  fill : List (Nat × List Tmp) := []
  fillR : Bool := false
  fillT : Bool := false
  own : Bool := false
  frzV : List (Nat × List (Tmp × Ty)) := []

structure St where
  env : Env
  s : Store

inductive Ex where
  | normal
  | exit (id : Nat)
  | ret
  deriving DecidableEq

def forget (keep : List Tmp) (e : Env) : Env := e.filter fun p => keep.contains p.1

def keepAt (l : List (Nat × List Tmp)) (d : List Tmp) (id : Nat) : List Tmp :=
  ((l.find? (·.1 == id)).map (·.2)).getD d

/-! ### slices that hold nothing become rows of the store -/

def nilBlk : Ty → Blk
  | .sl b => .deep b [] none
  | a => .data a []

def fill1 (v : AV) (s : Store) : AV × Store :=
  match v with
  | .e0 t => (.all s.length, s ++ [nilBlk t])
  | v => (v, s)

def fillL : List AV → Store → List AV × Store
  | [], s => ([], s)
  | v :: r, s => ((fill1 v s).1 :: (fillL r (fill1 v s).2).1, (fillL r (fill1 v s).2).2)

def fill2 (v : AV) (s : Store) : AV × Store :=
  match v with
  | .agg cs => (.agg (fillL cs s).1, (fillL cs s).2)
  | v => fill1 v s

def fill2L : List AV → Store → List AV × Store
  | [], s => ([], s)
  | v :: r, s => ((fill2 v s).1 :: (fill2L r (fill2 v s).2).1, (fill2L r (fill2 v s).2).2)

def fill3 (v : AV) (s : Store) : AV × Store :=
  match v with
  | .tup vs => (.tup (fill2L vs s).1, (fill2L vs s).2)
  | v => fill2 v s

def fillE : List Tmp → Env → Store → Env × Store
  | [], e, s => (e, s)
  | t :: r, e, s => fillE r (up e t (fill2 (lk e t) s).1) (fill2 (lk e t) s).2

def fillB (s : Store) (i : Nat) : Store :=
  match s[i]? with
  | some (.node sz xs) => (fill2L xs s).2.set i (.node sz (fill2L xs s).1)
  | _ => s

def fillSt (ts : Option (List Tmp)) (st : St) : St :=
  match ts with
  | some ts =>
    let us := ts.filter fun t => st.env.any fun p => p.1 == t
    ⟨(fillE us st.env st.s).1, (List.range (fillE us st.env st.s).2.length).foldl fillB (fillE us st.env st.s).2⟩
  | none => st

def fillAt (H : Hint) (id : Nat) : Option (List Tmp) := (H.fill.find? (·.1 == id)).map (·.2)

def gcSt (H : Hint) (st : St) : St :=
  if H.gc then
    let s := settle st.s
    let is := stay H.base (st.env.map (·.2)) s
    ⟨st.env.map fun p => (p.1, ren3 (posOf is) p.2), pickBlks s (posOf is) is⟩
  else st

def norm (H : Hint) (id : Nat) (st : St) : St :=
  gcSt H (fillSt (fillAt H id) ⟨forget (keepAt H.keepL H.keep id) st.env, st.s⟩)

def leave (H : Hint) (id : Nat) (st : St) : St := gcSt H (fillSt (fillAt H id) st)

/-- a variable that nobody writes any more becomes plain data -/
def frz1 (st : St) (p : Tmp × Ty) : St :=
  match lk st.env p.1 with
  | .ptr id 0 0 => (match st.s[id]? with
    | some (.data a [x]) => ⟨up st.env p.1 (.cptr a x 0), st.s.set id .dead⟩
    | some (.node _ [x]) => (match allD p.2 x.cells with
      | some y => ⟨up st.env p.1 (.cptr p.2 y 0), st.s.set id .dead⟩
      | none => st)
    | _ => st)
  | _ => st

def frzSt (ts : List (Tmp × Ty)) (st : St) : St := ts.foldl frz1 st

def frzAt (H : Hint) (id : Nat) : List (Tmp × Ty) := ((H.frzV.find? (·.1 == id)).map (·.2)).getD []

/-- what is known of calls: the continuation is handed the result and the store behind the call -/
structure Oracle where
  run : {γ : Type} → FuncId → List AV → Store → (AV → Store → Option γ) → Option γ

/-- what is known of a function's loops -/
structure Loops where
  run : {γ : Type} → Nat → St → (Ex → St → Option γ) → Option γ

/-! ### calls -/

def capB (s : Store) : AV → Option AV
  | .d t v => some (.d t v)
  | .cptr t v f => some (.cptr t v f)
  | .ptr i e f => (match s[i]? with
    | some (.data t xs) => (xs[e]?).map fun x => .cptr t x f
    | _ => none)
  | _ => none

def argB (T : Tab) (s : Store) (t : TypeId) (v : AV) : Option AV :=
  match v with
  | .fn f cap => (mapO (capB s) cap).map (.fn f)
  | .cptr a x f => some (.cptr a x f)
  | .ptr i e f => capB s (.ptr i e f)
  | v => (T.ty t).bind fun a => (snap s a v).map (.d a)

def isImm1 : AV → Bool
  | .d _ _ | .cptr _ _ _ | .e0 _ => true
  | _ => false
def isImm : AV → Bool
  | .agg cs => cs.all isImm1
  | .fn _ cap => cap.all isImm1
  | v => isImm1 v

def dNoL : (t : Ty) → t.D → Bool
  | .cons h t, v => dNoL h v.1 && dNoL t v.2
  | .sl _, xs => (match xs with | [] => true | _ :: _ => false)
  | _, _ => true

/-- a shape without slices -/
def Ty.noL : Ty → Bool
  | .cons h t => h.noL && t.noL
  | .sl _ => false
  | _ => true

def noL1 : AV → Bool
  | .d t v => t.noL || dNoL t v
  | .e0 _ | .all _ | .ref _ _ _ _ | .ptr _ _ _ | .any => true
  | _ => false
def noL2 : AV → Bool
  | .agg cs => cs.all noL1
  | v => noL1 v
def noL3 : AV → Bool
  | .tup vs => vs.all noL2
  | v => noL2 v

def blkNoL : Blk → Bool
  | .dead => true
  | .data t _ => t.noL
  | .node _ xs => xs.all noL2
  | .deep t _ _ => t.noL

def frzAll (s : Store) : List Ty → List AV → Option (List AV)
  | [], [] => some []
  | t :: ts, v :: vs => (snap s t v).bind fun x => (frzAll s ts vs).map fun r => .d t x :: r
  | _, _ => none

def frz (T : Tab) (s : Store) (rt : TypeId) : AV → Option AV
  | .tup vs => (match vs with
    | [] => some (.tup [])
    | vs => (T.tup rt).bind fun ts => (frzAll s ts vs).map .tup)
  | v => (T.ty rt).bind fun t => (snap s t v).map (.d t)

def argsB (T : Tab) (s : Store) : List TypeId → List AV → Option (List AV)
  | [], [] => some []
  | t :: ts, v :: vs => (argB T s t v).bind fun x => (argsB T s ts vs).map fun r => x :: r
  | _, _ => none

def writeBack {α : Type} (s : List α) : List Nat → List α → List α
  | i :: is, b :: bs => writeBack (s.set i b) is bs
  | _, _ => s

def isData : Option Blk → Bool
  | some (.data _ _) => true
  | _ => false

def callV (T : Tab) (M : FuncId → Mode) (O : Oracle) {γ : Type} (mu : Bool) (rt : TypeId) (g : FuncId) (ts : List TypeId) (args cap : List AV) (s : Store) (k : AV → Store → Option γ) : Option γ :=
  match M g with
  | .borrow =>
    (argsB T s ts args).bind fun as => (mapO (capB s) cap).bind fun cs => O.run g (as ++ cs) [] fun v s1 =>
      if (args ++ cap).all isImm || (noL3 v && s1.all blkNoL) then
        if mu then k (ren3 (fun i => some (s.length + i)) v) (s ++ s1.map (renB fun i => some (s.length + i)))
        else (frz T s1 rt v).bind fun v => k v s
      else none
  | .sub =>
    let is := addNew [] ((args ++ cap).flatMap id3)
    if is.all (fun i => isData s[i]?) then
      O.run g ((args ++ cap).map (ren3 (posOf is))) (is.map fun i => (s[i]?).getD .dead) fun v s1 =>
        if is.length ≤ s1.length then
          let m : Nat → Option Nat := fun j => if j < is.length then is[j]? else some (s.length + (j - is.length))
          k (ren3 m v) (writeBack s is ((s1.take is.length).map (renB m)) ++ (s1.drop is.length).map (renB m))
        else none
    else none
  | .whole => O.run g (args ++ cap) s k

/-! ### operations -/

def sameOpnd : Operand → Operand → Bool
  | .tmp a, .tmp b => a == b
  | .const (.int _ a), .const (.int _ b) => a == b
  | _, _ => false

def foldI (f : Int → Int → Int) : List AV → Option AV
  | [] => none
  | x :: r => (asI x).bind fun a => (r.foldl (fun acc y => acc.bind fun b => (asI y).map fun c => f b c.2) (some a.2)).map fun n => .d (.int a.1) n

/-- elements overwritten from the beginning of a slice on -/
def overV (s : Store) (a : Ty) (x : AV) (ys : List a.D) : Option Store :=
  match x with
  | .all id => (match s[id]? with
    | some (.data b xs) => (castD (a := .sl b) (.sl a) xs).map fun zs => putBlk s id (.data a (over zs 0 ys))
    | _ => none)
  | .ref id off _ _ => (match s[id]? with
    | some (.data b xs) => (castD (a := .sl b) (.sl a) xs).map fun zs => putBlk s id (.data a (over zs off ys))
    | _ => none)
  | _ => none

/-- the capacity, where it is known -/
def capV (s : Store) : AV → Option Nat
  | .e0 _ => some 0
  | .ref id _ _ tight => bif liveB s id then tight else none
  | _ => none

def builtinV (T : Tab) (mu : Bool) (b : Builtin) (ts : List TypeId) (args : List AV) (s : Store) : Option (AV × Store) :=
  match b, ts, args with
  | .len, t :: _, [x] => (match T.ty t, x with
    | some .str, .d .str b => some (.d (.int .i64) (b.size : Int), s)
    | some (.sl _), x => (lenSl s x).map fun (n : Nat) => (.d (.int .i64) (n : Int), s)
    | _, _ => none)
  | .append, t :: u :: _, [x, y] => (match T.ty t, T.ty u with
    | some (.sl a), some (.sl _) => (match slOf mu a with
      | some b => appendD s b x y
      | none => (elems s a y).bind fun ys => appendV mu s a x ys)
    | some (.sl a), some (.int _) => (asN y).bind fun n => if n ≤ bigRow then appendV mu s a x (List.replicate n a.zero) else none
    | _, _ => none)
  | .cap, t :: _, [x] => (match T.ty t with
    | some (.sl _) => (capV s x).map fun (n : Nat) => (.d (.int .i64) (n : Int), s)
    | _ => none)
  | .clear, t :: _, [x] => (match T.ty t with
    | some (.sl a) => (lenSl s x).bind fun n => (overV s a x (List.replicate n a.zero)).map fun s' => (.tup [], s')
    | _ => none)
  | .copy, t :: u :: _, [x, y] => (match T.ty t, T.ty u with
    | some (.sl a), some (.sl _) => (lenSl s x).bind fun n => (elems s a y).bind fun ys => (overV s a x (ys.take n)).map fun s' => (.d (.int .i64) ((min ys.length n : Nat) : Int), s')
    | _, _ => none)
  | .min, _, args => (foldI (fun a b => if b < a then b else a) args).map fun v => (v, s)
  | .max, _, args => (foldI (fun a b => if b > a then b else a) args).map fun v => (v, s)
  | _, _, _ => none

/-- a struct of this shape -/
def aggOk (a : Ty) : AV → Bool
  | .d b _ => decide (a = b) && a.isAgg
  | .agg _ => true
  | _ => false

/-- a slice of elements of this shape -/
def eltOk (s : Store) (a : Ty) : AV → Bool
  | .d (.sl b) _ => decide (a = b)
  | .all id => okSz s id a.size
  | .ref id _ _ _ => okSz s id a.size
  | _ => false

def placeAll (t : Ty) : List (Nat × AV) → List AV → Option (List AV)
  | [], cs => some cs
  | (i, v) :: r, cs => (t.field i).bind fun x =>
    if v.cells.length = x.2.size ∧ x.1 + x.2.size ≤ cs.length then placeAll t r (cs.take x.1 ++ v.cells ++ cs.drop (x.1 + x.2.size)) else none

def setAll (a : Ty) : List (Nat × AV) → List a.D → Option (List a.D)
  | [], xs => some xs
  | (i, v) :: r, xs => (snap [] a v).bind fun x => if i < xs.length then setAll a r (xs.set i x) else none

/-- is a result held in the store? -/
def muOf (H : Hint) (dst : Option Tmp) : Bool := match dst with | some d => H.mu.contains d | none => false

def moveV (mu : Bool) (s : Store) : AV → AV × Store
  | .e0 a => if mu then (.all s.length, s ++ [.data a []]) else (.e0 a, s)
  | v => (v, s)

/-- a value of one cell -/
def cap1 : AV → Bool
  | .d t _ => !t.isAgg
  | .agg _ | .fn _ _ | .tup _ => false
  | _ => true

def bytesV (xs : List Int) : ByteArray := xs.foldl (fun r n => r.push (UInt8.ofNat n.toNat)) ByteArray.empty

/-- a conversion: of numbers; of bytes to text -/
def convV : Ty → Ty → AV → Option AV
  | .int _, .int k, .d (.int _) n => some (.d (.int k) (k.wrap (n : Int)))
  | .sl a, .str, .d (.sl b) xs => if a = .int .u8 then (castD (a := .sl b) (.sl (.int .u8)) xs).map fun ys => .d .str (bytesV ys) else none
  | _, _, _ => none

def opV (T : Tab) (H : Hint) (o : Oper) (e : Env) (s : Store) : Option (AV × Store) :=
  let mu := muOf H o.dst
  let pu (x : Option AV) : Option (AV × Store) := x.map fun v => (v, s)
  match o.op with
  | .move x | .assign x => some (moveV mu s (opnd T o.type e x))
  | .pick c a b => (asB (opnd T o.type e c)).bind fun t => bif t then some (opnd T o.type e a, s) else some (opnd T o.type e b, s)
  | .alloc t => (T.ty t).bind fun a => mkVar mu s a (if mu then (if a.isAgg then (match allD a (zeroCells a) with | some x => .d a x | none => .agg (zeroCells a)) else (zeroCells a).headD .any) else .d a a.zero)
  | .box t x => (T.ty t).bind fun a => if (opnd T t e x).cells.length = a.size then mkVar mu s a (opnd T t e x) else none
  | .build t ps => (T.ty t).bind fun a => (placeAll a (ps.toList.map fun p => (p.1, opnd T 0 e p.2)) (zeroCells a)).bind fun cs => pu (if a.isAgg then ofCells a cs else none)
  | .buildSlice t n ps => (match T.ty t with
    | some (.sl a) => if n = 0 then (if ps.size = 0 then some (if mu then (.all s.length, s ++ [.data a []]) else (.e0 a, s)) else none)
      else if (slOf mu a).isSome then (match slOf mu a, ps.toList.map fun p => (p.1, opnd T 0 e p.2) with
        | some b, [(0, x)] => if n = 1 then buildD s b x else none
        | _, _ => none)
      else if n * a.size ≤ 100000 then (setAll a (ps.toList.map fun p => (p.1, opnd T 0 e p.2)) (List.replicate n a.zero)).map fun xs => mkRow mu s a xs
      else none
    | _ => none)
  | .load t a => (T.ty t).bind fun τ => if mu then takeV s τ (opnd T 0 e a) else pu (loadV s τ (opnd T 0 e a))
  | .store t a x => (T.ty t).bind fun τ => (storeW s τ (opnd T 0 e a) (opnd T t e x)).map fun s' => (.tup [], s')
  | .nilCheck x => pu (partPtr s 0 (opnd T 0 e x))
  | .binOp op t x y _ => pu (binOpV T op t (opnd T t e x) (opnd T t e y))
  | .unOp op _ x => (match op, opnd T 0 e x with
    | .not, .d .bool b => some (.d .bool (!b), s)
    | .neg, .d (.int k) n => some (.d (.int k) (k.wrap (0 - (n : Int))), s)
    | _, _ => none)
  | .convert a b x => pu ((T.ty a).bind fun α => (T.ty b).bind fun β => convV α β (opnd T a e x))
  | .makeFunc (.func f) first cap => if first.size = 0 ∧ (cap.toList.map (opnd T 0 e)).all cap1 = true then some (.fn f (cap.toList.map (opnd T 0 e)), s) else none
  | .makeSlice t l c => (match T.ty t with
    | some (.sl a) => if sameOpnd l c then (asN (opnd T 0 e l)).bind fun n => if n ≤ bigRow then some (mkMake mu s a n) else none else none
    | _ => none)
  | .slice t x lo hi mx => (T.ty t).bind fun τ => pu (cutV mu τ s (opnd T 0 e x) (lo.map (opnd T 0 e)) (hi.map (opnd T 0 e)) (mx.map (opnd T 0 e)))
  | .fieldAddr t x n => (T.ty t).bind fun a => (a.field n).bind fun f => pu (partPtr s f.1 (opnd T 0 e x))
  | .field t x n => (T.ty t).bind fun a => (a.field n).bind fun f =>
    if aggOk a (opnd T t e x) && decide ((opnd T t e x).cells.length = a.size) then pu (ofCells f.2 (((opnd T t e x).cells.drop f.1).take f.2.size)) else none
  | .indexAddr t x i => (match T.ty t with
    | some (.sl a) => (asN (opnd T 0 e i)).bind fun n => if eltOk s a (opnd T t e x) then pu (elemPtr s (opnd T t e x) n) else none
    | _ => none)
  | .index t x i => (match T.ty t, opnd T t e x with
    | some .str, .d .str b => (asN (opnd T 0 e i)).bind fun n => ((b : ByteArray)[n]?).map fun c => (.d (.int .u8) ((c : UInt8).toNat : Int), s)
    | _, _ => none)
  | .extract x i => (match opnd T 0 e x with
    | .tup vs => (vs[i]?).map fun v => (v, s)
    | _ => none)
  | .call c => (match c.callee with
    | .builtin b => if c.args.size = c.argTypes.size then builtinV T mu b c.argTypes.toList ((c.args.toList.zip c.argTypes.toList).map fun p => opnd T p.2 e p.1) s else none
    | _ => none)
  | _ => none

/-- an operation; a call of a function asks the oracle -/
def opK (T : Tab) (H : Hint) (M : FuncId → Mode) (O : Oracle) {γ : Type} (o : Oper) (e : Env) (s : Store) (k : AV → Store → Option γ) : Option γ :=
  match o.op with
  | .call c => (match c.callee with
    | .value f => (match opnd T 0 e f with
      | .fn g cap => if c.args.size = c.argTypes.size then callV T M O (muOf H o.dst) o.type g c.argTypes.toList ((c.args.toList.zip c.argTypes.toList).map fun p => opnd T p.2 e p.1) cap s k else none
      | _ => none)
    | _ => (opV T H o e s).bind fun x => k x.1 x.2)
  | _ => (opV T H o e s).bind fun x => k x.1 x.2

/-- is the operation carried out? with what is then known of the guard's slot, either way -/
def wantV (ops : Array Oper) (o : Oper) (e : Env) : Option (Bool × Env × Env) :=
  match o.guard with
  | none => some (true, e, e)
  | some (j, want) => (match (ops[j]?).bind (·.dst) with
    | some d => (match lk e d with
      | .d .bool b => some (bif want then b else !b, up e d (.d .bool want), up e d (.d .bool (!want)))
      | .tup [] => some (false, e, e)
      | _ => none)
    | none => none)

def putV (e : Env) (dst : Option Tmp) (v : AV) : Env :=
  match dst with
  | some d => up e d v
  | none => e

/-- both answers must come to the same -/
noncomputable def both {γ : Type} (a b : Option γ) : Option γ :=
  @ite _ (a = b) (Classical.propDecidable _) a none

theorem both_some {γ : Type} {a b : Option γ} {r : γ} (h : both a b = some r) : a = some r ∧ b = some r := by
  unfold both at h
  split at h
  · rename_i e; exact ⟨h, e ▸ h⟩
  · cases h

theorem both_self {γ : Type} (a : Option γ) : both a a = a := by
  unfold both; split
  · rfl
  · rename_i h; exact absurd rfl h

/-- a slice held against nil: is it '!=', is it known to hold nothing? -/
def nilArg (T : Tab) (o : Oper) (e : Env) : Option (Bool × Bool) :=
  match o.op with
  | .binOp op t x (.const (.slice none 0 0)) _ => (match T.ty t, opnd T t e x with
    | some (.sl _), .d (.sl _) xs => (match op with
      | .eql => some (false, xs.isEmpty)
      | .neq => some (true, xs.isEmpty)
      | _ => none)
    | _, _ => none)
  | _ => none

noncomputable def opN (T : Tab) (H : Hint) (M : FuncId → Mode) (O : Oracle) {γ : Type} (o : Oper) (e : Env) (s : Store) (k : AV → Store → Option γ) : Option γ :=
  match nilArg T o e with
  | some (neg, em) => bif em then both (k (.d .bool (!neg)) s) (k (.d .bool neg) s) else k (.d .bool neg) s
  | none => opK T H M O o e s k

noncomputable def runOps (T : Tab) (H : Hint) (M : FuncId → Mode) (O : Oracle) {γ : Type} (ops : Array Oper) : List Oper → St → (St → Option γ) → Option γ
  | [], st, k => k st
  | o :: r, st, k => (wantV ops o st.env).bind fun w =>
    bif w.1 then opN T H M O o w.2.1 st.s fun v s => runOps T H M O ops r ⟨putV w.2.1 o.dst v, s⟩ k
    else runOps T H M O ops r ⟨putV w.2.2 o.dst (.tup []), st.s⟩ k

/-- operations that never write or lengthen the store -/
def quietOp (H : Hint) (M : FuncId → Mode) (o : Oper) : Bool :=
  match o.op with
  | .pick .. | .build .. | .nilCheck _ | .binOp .. | .unOp .. | .convert .. | .makeFunc .. | .slice .. | .fieldAddr .. | .field .. | .indexAddr .. | .index .. | .extract .. => true
  | .move _ | .assign _ | .alloc _ | .box .. | .buildSlice .. | .makeSlice .. | .load .. => !muOf H o.dst
  | .call c => (match c.callee with
    | .builtin .len | .builtin .min | .builtin .max => true
    | .value (.func g) => !muOf H o.dst && (M g == .borrow)
    | _ => false)
  | _ => false

/-- operations that do so at an empty store -/
def pureOp (H : Hint) (M : FuncId → Mode) (o : Oper) : Bool :=
  quietOp H M o || (match o.op with
    | .call c => (match c.callee with
      | .builtin .append => !muOf H o.dst
      | _ => false)
    | _ => false)

/-- operations that at most lengthen the store -/
def pushOp (H : Hint) (M : FuncId → Mode) (o : Oper) : Bool :=
  quietOp H M o || (match o.op with
    | .move _ | .assign _ | .alloc _ | .box .. | .buildSlice .. | .makeSlice .. => true
    | .call c => (match c.callee with
      | .value (.func g) => M g == .borrow
      | _ => false)
    | _ => false)

/-- the operations that wait for operation i -/
def waitOn (ops : Array Oper) (listed : Array Bool) (i : Nat) (zs : List Nat) (j : Nat) : Bool :=
  !listed.getD j true && (match ops[j]? with
    | some o => o.after.any fun e => Region.binds .any e && (e.on == i || zs.contains e.on)
    | none => false)
def waitStep (ops : Array Oper) (listed : Array Bool) (i : Nat) (zs : List Nat) (j : Nat) : List Nat :=
  if waitOn ops listed i zs j = true then j :: zs else zs
def waiting (ops : Array Oper) (listed : Array Bool) (i : Nat) : List Nat := (List.range ops.size).foldl (waitStep ops listed i) []

/-- may operation i come first, whatever the others do? -/
def mayFirst (H : Hint) (M : FuncId → Mode) (ops : Array Oper) (listed : Array Bool) (i : Nat) (oi : Oper) (pure : Bool) : Bool :=
  (List.range ops.size).all fun j => j == i || listed.getD j true || (match ops[j]? with
    | none => true
    | some oj => (waiting ops listed i).contains j || (oi.apart ops oj && (pure || pushOp H M oj)))

/-- the operands through which an operation may write -/
def touched (T : Tab) (H : Hint) (M : FuncId → Mode) (o : Oper) : Option (List (TypeId × Operand)) :=
  match o.op with
  | .load _ p => if muOf H o.dst then some [(0, p)] else none
  | .store t p x => (match T.ty t with
    | some (.sl _) => some [(0, p), (t, x)]
    | _ => some [(0, p)])
  | .call c => (match c.callee with
    | .builtin .append => (match c.args.toList, c.argTypes.toList with
      | [x, _], t :: _ => (match T.ty t with
        | some (.sl a) => if (slOf (muOf H o.dst) a).isSome then none else some [(t, x)]
        | _ => none)
      | _, _ => none)
    | .value (.func g) => if M g = .sub then some ((c.args.toList.zip c.argTypes.toList).map fun p => (p.2, p.1)) else none
    | _ => none)
  | _ => none

/-- does none of the operations that are left give this value? -/
def settled (ops : Array Oper) (listed : Array Bool) (t : Nat) : Bool :=
  (List.range ops.size).all fun j => listed.getD j true || (match ops[j]? with | some o => o.dst != some t | none => true)

/-- operations that give what is new -/
def freshOp (M : FuncId → Mode) (o : Oper) : Bool :=
  match o.op with
  | .buildSlice .. | .makeSlice .. => true
  | .call c => (match c.callee with
    | .value (.func g) => M g == .borrow
    | _ => false)
  | _ => false
def isAppend (o : Oper) : Bool :=
  match o.op with
  | .load .. => true
  | .call c => (match c.callee with
    | .builtin .append => true
    | _ => false)
  | _ => false
def inF (F : List Nat) (d : Option Tmp) : Bool :=
  match d with
  | some t => F.contains t
  | none => false

def touchOk (T : Tab) (H : Hint) (M : FuncId → Mode) (ops : Array Oper) (listed : Array Bool) (e : Env) (ids F : List Nat) (o : Oper) : Bool :=
  (pushOp H M o && (!inF F o.dst || freshOp M o)) || (match touched T H M o with
    | some l => (!inF F o.dst || isAppend o) && l.all fun p => (match p.2 with
      | .tmp t => F.contains t || (settled ops listed t && (id3 (opnd T p.1 e p.2)).all ids.contains)
      | _ => (id3 (opnd T p.1 e p.2)).all ids.contains)
    | none => false)

/-- may operation i come first, whatever the others do to the blocks ids? -/
def mayAside (T : Tab) (H : Hint) (M : FuncId → Mode) (ops : Array Oper) (listed : Array Bool) (e : Env) (ids F : List Nat) (i : Nat) (oi : Oper) : Bool :=
  (F.all fun t => (id3 (lk e t)).all ids.contains) && (List.range ops.size).all fun j => j == i || listed.getD j true || (match ops[j]? with
    | none => true
    | some oj => (waiting ops listed i).contains j || (oi.apart ops oj && touchOk T H M ops listed e ids F oj))

def killFrom (ids : List Nat) : Nat → Store → Store
  | _, [] => []
  | n, b :: r => (if ids.contains n then .dead else b) :: killFrom ids (n + 1) r

def kill (ids : List Nat) (s : Store) : Store := killFrom ids 0 s

/-- operations that lengthen the store and look at nothing -/
def blindOp (o : Oper) : Bool :=
  match o.op with
  | .alloc _ => true
  | _ => false

/-- operations that so do the same whatever stands in a block of plain rows -/
def calmOp (H : Hint) (o : Oper) : Bool :=
  match o.op with
  | .load .. => muOf H o.dst
  | _ => blindOp o

/-- calls that are handed blocks -/
def subOp (M : FuncId → Mode) (o : Oper) : Bool :=
  match o.op with
  | .call c => (match c.callee with
    | .value (.func g) => M g == .sub
    | _ => false)
  | _ => false

/-- may operation i come first, if the others at most lengthen the store, looking at nothing? -/
def mayOver (H : Hint) (ops : Array Oper) (listed : Array Bool) (i : Nat) (oi : Oper) : Bool :=
  (List.range ops.size).all fun j => j == i || listed.getD j true || (match ops[j]? with
    | none => true
    | some oj => (waiting ops listed i).contains j || (oi.apart ops oj && calmOp H oj))

def isD : AV → Bool
  | .d _ _ => true
  | _ => false

/-- the blocks that a call is handed -/
def handed (T : Tab) (o : Oper) (e : Env) : List Nat :=
  match o.op with
  | .call c => addNew [] ((((c.args.toList.zip c.argTypes.toList).map fun (p : Operand × TypeId) => opnd T p.2 e p.1) ++ []).flatMap id3)
  | _ => []

/-- a call over one block that comes back with plain data, no new blocks -/
def overOk (T : Tab) (o : Oper) (e : Env) (t : Turn) (s : Store) (v : AV) (s' : Store) : Bool :=
  match t with
  | .over => (s'.length == s.length) && isD v && (match handed T o e with | [i] => isData s'[i]? | _ => false)
  | _ => true

/-- does no other operation give what operation j gives? -/
def onlyOne (ops : Array Oper) (j : Nat) (d : Tmp) : Bool :=
  (List.range ops.size).all fun k => k == j || (match ops[k]? with | some o => o.dst != some d | none => true)

/-- a new variable's type, where nothing but its making is said -/
def lateTy (T : Tab) (o : Oper) : Option (Tmp × Ty) :=
  match o.op, o.guard, o.dst with
  | .alloc t, none, some d => (T.ty t).map fun a => (d, a)
  | _, _, _ => none

def isLate (T : Tab) (ops : Array Oper) (j : Nat) : Bool :=
  match ops[j]? with
  | some o => (match lateTy T o with | some p => onlyOne ops j p.1 | none => false)
  | none => false

/-- a part of a tuple: it may be taken at any time -/
def lightOp (ops : Array Oper) (j : Nat) (o : Oper) : Bool :=
  (match o.op with | .extract .. => true | _ => false) && (match ops[j]? with
    | some oj => (match oj.dst with | some d => !(o.looksAt ops).contains d && decide (o.dst ≠ some d) | none => false)
    | none => false)

/-- does operation i wait for j, and for every other, or every other for it, but for those that may come at any time? -/
def waitsAll (ops : Array Oper) (i j : Nat) : Bool :=
  (match ops[i]? with | some oi => oi.after.any fun e => Region.binds .any e && e.on == j | none => false) &&
  (List.range ops.size).all fun k => k == i || (match ops[i]?, ops[k]? with
    | some oi, some ok => (oi.after.any fun e => Region.binds .any e && e.on == k) || (ok.after.any fun e => Region.binds .any e && e.on == i) || lightOp ops j ok
    | _, _ => false)

def isAny : AV → Bool
  | .any => true
  | _ => false

def adoptOk (T : Tab) (H : Hint) (ops : Array Oper) (listed : Array Bool) (e : Env) (i j : Nat) : Bool :=
  decide (Region.ready .any ops listed = [i]) && waitsAll ops i j && isLate T ops j && listed.getD j false && (match ops[j]? with
    | some o => muOf H o.dst && (match o.dst with | some d => isAny (lk e d) | none => false)
    | none => false)

/-- the turns that are operations -/
def stepsOf : List (Nat × Turn) → Nat
  | [] => 0
  | (_, .adopt _) :: r => stepsOf r
  | _ :: r => stepsOf r + 1

def turnOk (T : Tab) (H : Hint) (M : FuncId → Mode) (ops : Array Oper) (listed : Array Bool) (e : Env) (i : Nat) (o : Oper) : Turn → Bool
  | .forced => decide (Region.ready .any ops listed = [i])
  | .pure => (Region.ready .any ops listed).contains i && pureOp H M o && mayFirst H M ops listed i o true
  | .read => (Region.ready .any ops listed).contains i && quietOp H M o && mayFirst H M ops listed i o false
  | .aside ids F => (Region.ready .any ops listed).contains i && quietOp H M o && mayAside T H M ops listed e ids F i o
  | .over => (Region.ready .any ops listed).contains i && subOp M o && mayOver H ops listed i o
  | .late => false
  | .adopt _ => false

def lateOk (T : Tab) (H : Hint) (M : FuncId → Mode) (ops : Array Oper) (listed : Array Bool) (i : Nat) (o : Oper) : Bool :=
  (Region.ready .any ops listed).contains i && (lateTy T o).isSome && isLate T ops i && mayFirst H M ops listed i o true

def turnStore : Turn → Store → Store
  | .pure, _ => []
  | .aside ids _, s => kill ids s
  | _, s => s
def turnBack : Turn → Store → Store → Store
  | .pure, s, _ => s
  | .aside _ _, s, _ => s
  | _, _, s => s

def drawStep (T : Tab) (H : Hint) (M : FuncId → Mode) (O : Oracle) {γ : Type} (ops : Array Oper) (i : Nat) (t : Turn) (listed : Array Bool) (st : St) (K : Array Bool → St → Option γ) : Option γ :=
  match ops[i]? with
  | none => none
  | some o =>
    if turnOk T H M ops listed st.env i o t then
      (wantV ops o st.env).bind fun w =>
        bif w.1 then opK T H M O o w.2.1 (turnStore t st.s) fun v s => if overOk T o w.2.1 t st.s v s then K (listed.setIfInBounds i true) ⟨putV w.2.1 o.dst v, turnBack t st.s s⟩ else none
        else K (listed.setIfInBounds i true) ⟨putV w.2.2 o.dst (.tup []), st.s⟩
    else none

def lateStep (T : Tab) (H : Hint) (M : FuncId → Mode) {γ : Type} (ops : Array Oper) (i : Nat) (listed : Array Bool) (st : St) (K : Array Bool → St → Option γ) : Option γ :=
  match ops[i]? with
  | none => none
  | some o => if lateOk T H M ops listed i o then K (listed.setIfInBounds i true) ⟨putV st.env o.dst .any, st.s⟩ else none

def adoptStep (T : Tab) (H : Hint) {γ : Type} (ops : Array Oper) (i j : Nat) (r : List (Nat × Turn)) (listed : Array Bool) (st : St) (K : Array Bool → St → Option γ) : Option γ :=
  match ops[j]? with
  | none => none
  | some o => if adoptOk T H ops listed st.env i j && decide (stepsOf r = r.length) then (opV T H o st.env st.s).bind fun x => K listed ⟨putV st.env o.dst x.1, x.2⟩ else none

def runDraw (T : Tab) (H : Hint) (M : FuncId → Mode) (O : Oracle) {γ : Type} (ops : Array Oper) : List (Nat × Turn) → Array Bool → St → (St → Option γ) → Option γ
  | [], listed, st, k => if Region.ready .any ops listed = [] then k st else none
  | (i, t) :: r, listed, st, k => (match t with
    | .late => lateStep T H M ops i listed st fun l s => runDraw T H M O ops r l s k
    | .adopt j => adoptStep T H ops i j r listed st fun l s => runDraw T H M O ops r l s k
    | t => drawStep T H M O ops i t listed st fun l s => runDraw T H M O ops r l s k)

/-! ### code -/

def hintOrder (H : Hint) (id : Nat) : List (Nat × Turn) :=
  (H.order.find? (·.1 == id)).map (·.2) |>.getD []

def dropC (H : Hint) (c : Operand) (e : Env) : Env :=
  match c with
  | .tmp t => if H.keep.contains t then e else e.filter fun p => p.1 != t
  | _ => e

noncomputable def evC (T : Tab) (H : Hint) (M : FuncId → Mode) (O : Oracle) (L : Loops) {γ : Type} : Code → St → (Ex → St → Option γ) → Option γ
  | .skip, st, k => k .normal st
  | .region id ops dr, st, k =>
    if dr then (if stepsOf (hintOrder H id) ≤ ops.size ∧ Region.noSelect ops = true then runDraw T H M O ops (hintOrder H id) (Array.replicate ops.size false) st fun st' => k .normal (frzSt (frzAt H id) ⟨forget H.keepR st'.env, st'.s⟩) else none)
    else runOps T H M O ops ops.toList st fun st' => k .normal (frzSt (frzAt H id) ⟨forget H.keepR st'.env, st'.s⟩)
  | .seq a b, st, k => evC T H M O L a st fun e st' => (match e with | .normal => evC T H M O L b st' k | e => k e st')
  | .cond c a b, st, k => (asB (opnd T 0 st.env c)).bind fun t =>
    bif t then evC T H M O L a ⟨dropC H c st.env, st.s⟩ k else evC T H M O L b ⟨dropC H c st.env, st.s⟩ k
  | .block id b, st, k =>
    let k' : Ex → St → Option γ := fun e st' => (match e with | .exit j => if j = id then k .normal st' else k (.exit j) st' | e => k e st')
    (match b with
    | .loop _ => L.run id (norm H id st) k'
    | b => evC T H M O L b st k')
  | .exit id, st, k => k (.exit id) ⟨forget (keepAt H.keepX H.keep id) st.env, st.s⟩
  | .ret, st, k => k .ret ⟨forget H.res st.env, st.s⟩
  | _, _, _ => none

/-- one round of a loop -/
noncomputable def round (T : Tab) (H : Hint) (M : FuncId → Mode) (O : Oracle) (L : Loops) (id : Nat) (b : Code) {γ : Type} (st : St) (k : Ex → St → Option γ) : Option γ :=
  evC T H M O L b st fun e s' => (match e with | .normal => k .normal (norm H id s') | e => k e (leave H id s'))

/-- a loop's rounds, as far as it comes to an end -/
inductive Rounds (T : Tab) (H : Hint) (M : FuncId → Mode) (O : Oracle) (L : Loops) (id : Nat) (b : Code) : St → Ex → St → Prop
  | last {st e st'} (h : round T H M O L id b st (fun e s => some (e, s)) = some (e, st')) (he : e ≠ .normal) : Rounds T H M O L id b st e st'
  | more {st st1 e st'} (h : round T H M O L id b st (fun e s => some (e, s)) = some (.normal, st1)) (r : Rounds T H M O L id b st1 e st') : Rounds T H M O L id b st e st'

/-- all loops of a code, with the number of the block around each -/
def loopsOf : Code → List (Nat × Code)
  | .seq a b => loopsOf a ++ loopsOf b
  | .cond _ a b => loopsOf a ++ loopsOf b
  | .block id b => (match b with | .loop c => [(id, c)] | _ => []) ++ loopsOf b
  | .loop b => loopsOf b
  | _ => []

/-! ### calls of functions -/

def resV (T : Tab) (st : St) : ResultVar → Option AV
  | .tmp t => some (lk st.env t)
  | .cell a t => (T.ty t).bind fun τ => loadV st.s τ (lk st.env a)

def notTup : AV → Bool
  | .tup _ => false
  | _ => true

def resultsV (T : Tab) (st : St) (rs : List ResultVar) : Option AV :=
  (mapO (resV T st) rs).bind fun vs => (match vs with
    | [v] => some v
    | vs => if vs.all notTup then some (.tup vs) else none)

def finish (k : Nat) (v : AV) (s : Store) : AV × Store :=
  let is := stay k [v] s
  (ren3 (posOf is) v, pickBlks s (posOf is) is)

/-- results, with rows for slices that hold nothing -/
def fillR (v : AV) (s : Store) : AV × Store :=
  ((fill3 v s).1, (List.range (fill3 v s).2.length).foldl fillB (fill3 v s).2)

/-- a whole block as a part of itself -/
def refV1 (v : AV) (s : Store) : AV :=
  match v with
  | .all id => (match s[id]? with
    | some (.data _ xs) => .ref id 0 xs.length none
    | some (.deep _ xs _) => .ref id 0 xs.length none
    | _ => v)
  | v => v
def refV (v : AV) (s : Store) : AV :=
  match v with
  | .agg cs => .agg (cs.map fun c => refV1 c s)
  | v => refV1 v s

/-- nothing, as a part without room -/
def tight1 (v : AV) (s : Store) : AV × Store :=
  match v with
  | .e0 t => (.ref s.length 0 0 (some 0), s ++ [.data t []])
  | v => (v, s)
def tightL : List AV → Store → List AV × Store
  | [], s => ([], s)
  | v :: r, s => ((tight1 v s).1 :: (tightL r (tight1 v s).2).1, (tightL r (tight1 v s).2).2)
def tightV (v : AV) (s : Store) : AV × Store :=
  match v with
  | .tup vs => (.tup (tightL vs s).1, (tightL vs s).2)
  | v => tight1 v s

/-- a part from a row's beginning on becomes a block of its own, the row is given up -/
def own1 (v : AV) (s : Store) : AV × Store :=
  match v with
  | .ref id 0 len _ => (match s[id]? with
    | some (.data t xs) => (.all s.length, s.set id .dead ++ [.data t (xs.take len)])
    | _ => (v, s))
  | v => (v, s)

/-- the first k blocks are given up -/
def killTo : Nat → Store → Store
  | 0, s => s
  | k + 1, s => (killTo k s).set k .dead

/-- the form in which a result is handed back -/
def outV (H : Hint) (v : AV) (s : Store) : AV × Store :=
  if H.own then ((own1 v s).1, killTo H.base (own1 v s).2) else if H.fillR then (if H.refR then (refV (fillR v s).1 (fillR v s).2, (fillR v s).2) else fillR v s) else if H.refR then (refV v s, s) else if H.fillT then tightV v s else (v, s)

def argEnv : Nat → List AV → Env
  | _, [] => []
  | n, v :: r => (n, v) :: argEnv (n + 1) r

/-- how a program is read -/
structure Cfg where
  T : Tab
  hint : FuncId → Hint
  mode : FuncId → Mode

noncomputable def evBody (P : Program) (C : Cfg) (O : Oracle) (L : Loops) {γ : Type} (f : FuncId) (args : List AV) (s : Store) (k : AV → Store → Option γ) : Option γ :=
  match P.funcs[f]? with
  | some fn => (match fn.body with
    | some c => if args.length ≤ fn.ntmps ∧ ((C.hint f).gc = false ∨ s.length = (C.hint f).base) then
        evC C.T (C.hint f) C.mode O L c ⟨argEnv 0 args, s⟩ fun e st => (match e with
          | .exit _ => none
          | _ => (resultsV C.T st fn.results.toList).bind fun v =>
            if (C.hint f).gc then (let w := outV (C.hint f) v st.s; k (finish s.length w.1 w.2).1 (finish s.length w.1 w.2).2) else k v st.s)
      else none
    | none => none)
  | none => none

def dstOk (n : Nat) : Code → Bool
  | .seq a b => dstOk n a && dstOk n b
  | .cond _ a b => dstOk n a && dstOk n b
  | .block _ b => dstOk n b
  | .loop b => dstOk n b
  | .region _ ops _ => ops.toList.all fun o => match o.dst with | some d => decide (d < n) | none => true
  | _ => true

def progOk (P : Program) : Bool :=
  P.funcs.toList.all fun fn => match fn.body with
    | some c => dstOk fn.ntmps c && !(fn.name == "runtime.NumGoroutine")
    | none => true

/-- the body of the i-th loop of a function -/
def lp (P : Program) (f : FuncId) (i : Nat) : Code :=
  match (P.funcs[f]?).bind (·.body) with
  | some c => (((loopsOf c)[i]?).map (·.2)).getD .skip
  | none => .skip

end Go.Ev

/-
  WHAT THE EVALUATOR's VALUES SAY OF THE MACHINE's: the relation, and how it is kept.
-/
namespace Go.Ev

def All2 {α β : Type} (R : α → β → Prop) : List α → List β → Prop
  | [], [] => True
  | a :: as, b :: bs => R a b ∧ All2 R as bs
  | _, _ => False

section
variable {α β : Type} {R S : α → β → Prop}

theorem All2.length : ∀ {as : List α} {bs : List β}, All2 R as bs → as.length = bs.length
  | [], [], _ => rfl
  | _ :: _, _ :: _, h => by simp [All2.length h.2]
  | [], _ :: _, h => h.elim
  | _ :: _, [], h => h.elim

theorem All2.mono (hm : ∀ a b, R a b → S a b) : ∀ {as : List α} {bs : List β}, All2 R as bs → All2 S as bs
  | [], [], _ => trivial
  | _ :: _, _ :: _, h => ⟨hm _ _ h.1, All2.mono hm h.2⟩
  | [], _ :: _, h => h.elim
  | _ :: _, [], h => h.elim

theorem All2.append : ∀ {as : List α} {bs : List β} {cs : List α} {ds : List β}, All2 R as bs → All2 R cs ds → All2 R (as ++ cs) (bs ++ ds)
  | [], [], _, _, _, k => k
  | _ :: _, _ :: _, _, _, h, k => ⟨h.1, All2.append h.2 k⟩
  | [], _ :: _, _, _, h, _ => h.elim
  | _ :: _, [], _, _, h, _ => h.elim

theorem All2.take : ∀ (n : Nat) {as : List α} {bs : List β}, All2 R as bs → All2 R (as.take n) (bs.take n)
  | 0, _, _, _ => by simp [All2]
  | _ + 1, [], [], _ => by simp [All2]
  | n + 1, _ :: _, _ :: _, h => by simp only [List.take_succ_cons]; exact ⟨h.1, All2.take n h.2⟩
  | _ + 1, [], _ :: _, h => h.elim
  | _ + 1, _ :: _, [], h => h.elim

theorem All2.drop : ∀ (n : Nat) {as : List α} {bs : List β}, All2 R as bs → All2 R (as.drop n) (bs.drop n)
  | 0, _, _, h => by simpa using h
  | _ + 1, [], [], _ => by simp [All2]
  | n + 1, _ :: _, _ :: _, h => by simp only [List.drop_succ_cons]; exact All2.drop n h.2
  | _ + 1, [], _ :: _, h => h.elim
  | _ + 1, _ :: _, [], h => h.elim

theorem All2.get : ∀ {as : List α} {bs : List β}, All2 R as bs → ∀ (i : Nat) (a : α), as[i]? = some a → ∃ b, bs[i]? = some b ∧ R a b
  | [], [], _, i, a, h => by simp at h
  | x :: _, y :: _, h, 0, a, e => by simp at e; subst e; exact ⟨y, by simp, h.1⟩
  | _ :: _, _ :: _, h, i + 1, a, e => by simp at e; simpa using All2.get h.2 i a e
  | [], _ :: _, h, _, _, _ => h.elim
  | _ :: _, [], h, _, _, _ => h.elim

theorem All2.map_left {γ : Type} {f : γ → α} : ∀ {as : List γ} {bs : List β}, All2 R (as.map f) bs ↔ All2 (fun a b => R (f a) b) as bs
  | [], [] => Iff.rfl
  | _ :: _, _ :: _ => by simp only [List.map_cons, All2]; rw [All2.map_left]
  | [], _ :: _ => Iff.rfl
  | _ :: _, [] => Iff.rfl

theorem All2.map_right {γ : Type} {f : γ → β} : ∀ {as : List α} {bs : List γ}, All2 R as (bs.map f) ↔ All2 (fun a b => R a (f b)) as bs
  | [], [] => Iff.rfl
  | _ :: _, _ :: _ => by simp only [List.map_cons, All2]; rw [All2.map_right]
  | [], _ :: _ => Iff.rfl
  | _ :: _, [] => Iff.rfl

theorem All2.set : ∀ {as : List α} {bs : List β}, All2 R as bs → ∀ (i : Nat) {a : α} {b : β}, R a b → All2 R (as.set i a) (bs.set i b)
  | [], [], _, _, _, _, _ => by simp [All2]
  | _ :: _, _ :: _, h, 0, _, _, k => ⟨k, h.2⟩
  | _ :: _, _ :: _, h, i + 1, _, _, k => ⟨h.1, All2.set h.2 i k⟩
  | [], _ :: _, h, _, _, _, _ => h.elim
  | _ :: _, [], h, _, _, _, _ => h.elim
end

/-- n cells of a row from o on -/
def seg (c : Array Value) (o n : Nat) : List Value := (c.toList.drop o).take n

theorem seg_length {c : Array Value} {o n : Nat} (h : o + n ≤ c.size) : (seg c o n).length = n := by
  simp [seg, Nat.min_def]; omega

theorem seg_get {c : Array Value} {o n j : Nat} (h : j < n) : (seg c o n)[j]? = c[o + j]? := by
  simp [seg, h]

theorem seg_seg {c : Array Value} {o n p m : Nat} (h : p + m ≤ n) : ((seg c o n).drop p).take m = seg c (o + p) m := by
  unfold seg
  rw [List.drop_take, List.take_take, List.drop_drop]
  rw [Nat.min_eq_left (by omega)]

/-! ### plain data in memory: N holds the blocks that nobody writes -/

def RepC (w : World) (N : Nat → Prop) : (t : Ty) → t.D → List Value → Prop
  | .bool, b, cs => cs = [.bool b]
  | .int k, n, cs => cs = [.int k n]
  | .str, s, cs => cs = [.string s]
  | .nil, _, cs => cs = []
  | .cons h t, v, cs => RepC w N h v.1 (cs.take h.size) ∧ RepC w N t v.2 (cs.drop h.size)
  | .sl t, xs, cs => ∃ base cap, cs = [.slice base xs.length cap] ∧ xs.length ≤ cap ∧ (xs ≠ [] → ∃ b o c ty fr, base = some ⟨b, o, none⟩ ∧ N b ∧
      w.heap[b]? = some (.cells c ty fr) ∧ o + xs.length * t.size ≤ c.size ∧ ∀ i (h : i < xs.length), RepC w N t xs[i] (seg c (o + i * t.size) t.size))

theorem RepC.length {w : World} {N : Nat → Prop} : ∀ {t : Ty} {v : t.D} {cs : List Value}, RepC w N t v cs → cs.length = t.size
  | .bool, _, _, h => by simp only [RepC] at h; subst h; rfl
  | .int _, _, _, h => by simp only [RepC] at h; subst h; rfl
  | .str, _, _, h => by simp only [RepC] at h; subst h; rfl
  | .nil, _, _, h => by simp only [RepC] at h; subst h; rfl
  | .sl _, _, _, h => by simp only [RepC] at h; obtain ⟨_, _, rfl, _⟩ := h; rfl
  | .cons h t, v, cs, hr => by
    simp only [RepC] at hr
    have h1 := RepC.length hr.1
    have h2 := RepC.length hr.2
    simp only [List.length_take, List.length_drop] at h1 h2
    simp only [Ty.size]
    omega

theorem RepC.one {w : World} {N : Nat → Prop} : ∀ {t : Ty} {v : t.D} {cs : List Value}, RepC w N t v cs → ∀ x ∈ cs, x.oneCell' = true
  | .bool, _, _, h => by simp only [RepC] at h; subst h; simp [Value.oneCell']
  | .int _, _, _, h => by simp only [RepC] at h; subst h; simp [Value.oneCell']
  | .str, _, _, h => by simp only [RepC] at h; subst h; simp [Value.oneCell']
  | .nil, _, _, h => by simp only [RepC] at h; subst h; simp
  | .sl _, _, _, h => by simp only [RepC] at h; obtain ⟨_, _, rfl, _⟩ := h; simp [Value.oneCell']
  | .cons h t, v, cs, hr => by
    simp only [RepC] at hr
    intro x hx
    rw [← List.take_append_drop h.size cs] at hx
    rcases List.mem_append.1 hx with hx | hx
    · exact RepC.one hr.1 x hx
    · exact RepC.one hr.2 x hx

theorem RepC.mono {w w' : World} {N N' : Nat → Prop} (hm : ∀ b, N b → N' b ∧ w'.heap[b]? = w.heap[b]?) : ∀ {t : Ty} {v : t.D} {cs : List Value}, RepC w N t v cs → RepC w' N' t v cs
  | .bool, _, _, h => h
  | .int _, _, _, h => h
  | .str, _, _, h => h
  | .nil, _, _, h => h
  | .cons _ _, _, _, h => ⟨RepC.mono hm h.1, RepC.mono hm h.2⟩
  | .sl t, xs, cs, h => by
    simp only [RepC] at h ⊢
    obtain ⟨base, cap, h1, h2, h3⟩ := h
    refine ⟨base, cap, h1, h2, fun hne => ?_⟩
    obtain ⟨b, o, c, ty, fr, h4, h5, h6, h7, h8⟩ := h3 hne
    exact ⟨b, o, c, ty, fr, h4, (hm b h5).1, by rw [(hm b h5).2]; exact h6, h7, fun i hi => RepC.mono hm (h8 i hi)⟩

/-- data that hold no element of any slice mean the same whatever N is -/
theorem RepC.noL {w w' : World} {N N' : Nat → Prop} : ∀ {t : Ty} {v : t.D} {cs : List Value}, dNoL t v = true → RepC w N t v cs → RepC w' N' t v cs
  | .bool, _, _, _, h => h
  | .int _, _, _, _, h => h
  | .str, _, _, _, h => h
  | .nil, _, _, _, h => h
  | .cons _ _, v, _, hl, h => by
    simp only [dNoL, Bool.and_eq_true] at hl
    exact ⟨RepC.noL hl.1 h.1, RepC.noL hl.2 h.2⟩
  | .sl t, xs, cs, hl, h => by
    cases xs with
    | nil =>
      simp only [RepC] at h ⊢
      obtain ⟨base, cap, h1, h2, _⟩ := h
      exact ⟨base, cap, h1, h2, fun hne => absurd rfl hne⟩
    | cons x xs => simp [dNoL] at hl

theorem castD_some {a b : Ty} {v : a.D} {x : b.D} (h : castD b v = some x) : ∃ e : a = b, x = e ▸ v := by
  unfold castD at h
  split at h
  · rename_i e; exact ⟨e, by simpa using h.symm⟩
  · cases h

theorem RepC.cast {w : World} {N : Nat → Prop} {a b : Ty} {v : a.D} {x : b.D} {cs : List Value} (h : castD b v = some x) (hr : RepC w N a v cs) : RepC w N b x cs := by
  obtain ⟨e, rfl⟩ := castD_some h
  subst e
  exact hr

theorem get_ok {w : World} {N : Nat → Prop} (b : Ty) : ∀ {a : Ty} {v : a.D} {cs : List Value} {off : Nat} {x : b.D}, RepC w N a v cs → Ty.get b a v off = some x →
    off + b.size ≤ a.size ∧ RepC w N b x ((cs.drop off).take b.size) := by
  intro a
  induction a with
  | cons h t ih1 ih2 =>
    intro v cs off x hr hg
    have hlen := hr.length
    simp only [Ty.get] at hg
    split at hg
    · rename_i e
      split at hg
      · rename_i e0
        subst e0; subst e
        obtain rfl : v = x := by simpa using hg
        refine ⟨by omega, ?_⟩
        rw [List.drop_zero, List.take_of_length_le (by omega)]
        exact hr
      · cases hg
    · split at hg
      · rename_i hlt
        have := ih1 hr.1 hg
        refine ⟨by simp only [Ty.size]; omega, ?_⟩
        have h2 := this.2
        rw [List.drop_take, List.take_take, Nat.min_eq_left (by omega)] at h2
        exact h2
      · rename_i hge
        have := ih2 hr.2 hg
        refine ⟨by simp only [Ty.size]; omega, ?_⟩
        have h2 := this.2
        rw [List.drop_drop, show h.size + (off - h.size) = off by omega] at h2
        exact h2
  | _ =>
    intro v cs off x hr hg
    have hlen := hr.length
    simp only [Ty.get] at hg
    split at hg
    · rename_i e0
      subst e0
      obtain ⟨e, rfl⟩ := castD_some hg
      subst e
      refine ⟨by omega, ?_⟩
      rw [List.drop_zero, List.take_of_length_le (by omega)]
      exact hr
    · cases hg

/-- cells overwritten in the front part of a row -/
theorem over_front {α : Type} (cs ds : List α) (off h : Nat) (h1 : off + ds.length ≤ h) (h2 : h ≤ cs.length) :
    (cs.take off ++ ds ++ cs.drop (off + ds.length)).take h = (cs.take h).take off ++ ds ++ (cs.take h).drop (off + ds.length) ∧
    (cs.take off ++ ds ++ cs.drop (off + ds.length)).drop h = cs.drop h := by
  constructor
  all_goals
    apply List.ext_getElem?
    intro i
    simp only [List.getElem?_append, List.getElem?_take, List.getElem?_drop, List.length_take, List.length_append]
    have e1 : min off cs.length = off := by omega
    have e2 : min h cs.length = h := by omega
    have e3 : min off h = off := by omega
    simp only [e1, e2, e3]
    repeat' split
    all_goals first
      | rfl
      | omega
      | (congr 1; omega)

theorem over_back {α : Type} (cs ds : List α) (off h : Nat) (h1 : h ≤ off) (h2 : off + ds.length ≤ cs.length) :
    (cs.take off ++ ds ++ cs.drop (off + ds.length)).take h = cs.take h ∧
    (cs.take off ++ ds ++ cs.drop (off + ds.length)).drop h = (cs.drop h).take (off - h) ++ ds ++ (cs.drop h).drop (off - h + ds.length) := by
  constructor
  all_goals
    apply List.ext_getElem?
    intro i
    simp only [List.getElem?_append, List.getElem?_take, List.getElem?_drop, List.length_take, List.length_append, List.length_drop]
    have e1 : min off cs.length = off := by omega
    have e2 : min (off - h) (cs.length - h) = off - h := by omega
    simp only [e1, e2]
    repeat' split
    all_goals first
      | rfl
      | omega
      | (congr 1; omega)

theorem set_ok {w : World} {N : Nat → Prop} (b : Ty) (x : b.D) {ds : List Value} (hd : RepC w N b x ds) : ∀ {a : Ty} {v : a.D} {cs : List Value} {off : Nat} {y : a.D}, RepC w N a v cs → Ty.set b x a v off = some y →
    off + b.size ≤ a.size ∧ RepC w N a y (cs.take off ++ ds ++ cs.drop (off + b.size)) := by
  intro a
  have hdl := hd.length
  induction a with
  | cons h t ih1 ih2 =>
    intro v cs off y hr hg
    have hlen := hr.length
    simp only [Ty.size] at hlen
    simp only [Ty.set] at hg
    split at hg
    · rename_i e
      split at hg
      · rename_i e0
        subst e0; subst e
        obtain rfl : x = y := by simpa using hg
        refine ⟨by omega, ?_⟩
        rw [List.take_zero, List.nil_append, List.drop_of_length_le (by simp only [Ty.size]; omega), List.append_nil]
        exact hd
      · cases hg
    · split at hg
      · rename_i hlt
        cases hs : Ty.set b x h v.1 off with
        | none => simp [hs] at hg
        | some z =>
          have h1 := ih1 hr.1 hs
          simp only [hs, Option.map_some, Option.some.injEq] at hg
          subst hg
          have ho := over_front cs ds off h.size (by omega) (by omega)
          rw [hdl] at ho
          refine ⟨by simp only [Ty.size]; omega, ?_, ?_⟩
          · show RepC w N h z _
            rw [ho.1]; exact h1.2
          · show RepC w N t v.2 _
            rw [ho.2]; exact hr.2
      · rename_i hge
        cases hs : Ty.set b x t v.2 (off - h.size) with
        | none => simp [hs] at hg
        | some z =>
          have h1 := ih2 hr.2 hs
          simp only [hs, Option.map_some, Option.some.injEq] at hg
          subst hg
          have ho := over_back cs ds off h.size (by omega) (by omega)
          rw [hdl] at ho
          refine ⟨by simp only [Ty.size]; omega, ?_, ?_⟩
          · show RepC w N h v.1 _
            rw [ho.1]; exact hr.1
          · show RepC w N t z _
            rw [ho.2]; exact h1.2
  | _ =>
    intro v cs off y hr hg
    have hlen := hr.length
    simp only [Ty.set] at hg
    split at hg
    · rename_i e0
      subst e0
      obtain ⟨e, rfl⟩ := castD_some hg
      subst e
      refine ⟨by omega, ?_⟩
      rw [List.take_zero, List.nil_append, List.drop_of_length_le (by omega), List.append_nil]
      exact hd
    · cases hg

end Go.Ev

/-
  VALUES, STORE AND WORLD: the relation between the evaluator's state and the machine's; how it is kept.
-/
namespace Go.Ev

def Blk.len : Blk → Nat
  | .dead => 0
  | .data _ xs => xs.length
  | .node _ xs => xs.length
  | .deep _ xs _ => xs.length

def Blk.sz : Blk → Nat
  | .dead => 0
  | .data t _ => t.size
  | .node n _ => n
  | .deep _ _ _ => 1

def Blk.live : Blk → Prop
  | .dead => False
  | _ => True

/-- the blocks that nobody writes; the rows of rows of the call's own: of block id, at place i -/
structure Fz where
  n : Nat → Prop
  d : Nat → Nat → Nat → Prop

def Fz.of (n : Nat → Prop) : Fz := ⟨n, fun _ _ _ => False⟩

instance : CoeFun Fz (fun _ => Nat → Prop) := ⟨Fz.n⟩
instance : Coe Fz (Nat → Prop) := ⟨Fz.n⟩

/-- the world, the blocks that nobody writes, the call's own blocks by their numbers, the store -/
structure Cx where
  w : World
  N : Fz
  r : List (Option Nat)
  s : Store

def Cx.owns (c : Cx) (b : Nat) : Prop := (∃ id : Nat, c.r[id]? = some (some b)) ∨ ∃ id i : Nat, c.N.d id i b

/-- block id is row b of the heap, with these cells -/
def Cx.at (c : Cx) (id b : Nat) (cs : Array Value) : Prop := c.r[id]? = some (some b) ∧ ∃ ty, c.w.heap[b]? = some (.cells cs ty (0, 0))

def Rep1 (c : Cx) : AV → Value → Prop
  | .any, _ => True
  | .d t v, x => t.isAgg = false ∧ RepC c.w c.N t v [x]
  | .e0 _, x => ∃ base, x = .slice base 0 0
  | .all id, x => x.oneCell' = true ∧ ∃ bk, c.s[id]? = some bk ∧ (bk.live → ∃ base cap, x = .slice base bk.len cap ∧ bk.len ≤ cap ∧
      (cap ≠ 0 → ∃ b cs, c.at id b cs ∧ base = some ⟨b, 0, none⟩ ∧ cap * bk.sz ≤ cs.size))
  | .ref id off len tight, x => x.oneCell' = true ∧ ∃ bk, c.s[id]? = some bk ∧ (bk.live → ∃ base cap, x = .slice base len cap ∧ off + len ≤ bk.len ∧ len ≤ cap ∧
      (∀ k, tight = some k → cap = k) ∧ (tight = none → bk.len ≤ off + cap) ∧
      (cap ≠ 0 → ∃ b cs, c.at id b cs ∧ base = some ⟨b, off * bk.sz, none⟩ ∧ (off + cap) * bk.sz ≤ cs.size))
  | .ptr id i f, x => x.oneCell' = true ∧ ∃ bk, c.s[id]? = some bk ∧ (bk.live → ∃ b cs, c.at id b cs ∧ x = .pointer (some ⟨b, i * bk.sz + f, none⟩) ∧ i < bk.len)
  | .cptr t v f, x => ∃ b o cs ty fr, x = .pointer (some ⟨b, o + f, none⟩) ∧ c.N b ∧ c.w.heap[b]? = some (.cells cs ty fr) ∧ o + t.size ≤ cs.size ∧ RepC c.w c.N t v (seg cs o t.size)
  | _, _ => False

def Rep2 (c : Cx) : AV → Value → Prop
  | .d t v, x => ∃ cs : List Value, (if t.isAgg then x = .agg cs.toArray else cs = [x]) ∧ RepC c.w c.N t v cs
  | .agg cs, x => ∃ vs : List Value, x = .agg vs.toArray ∧ All2 (Rep1 c) cs vs
  | .fn f cap, x => ∃ vs : List Value, x = .func (.func f) #[] vs.toArray ∧ All2 (Rep1 c) cap vs
  | v, x => Rep1 c v x

def Rep3 (c : Cx) : AV → Value → Prop
  | .tup vs, x => ∃ xs : List Value, x = .tuple xs.toArray ∧ All2 (Rep2 c) vs xs
  | v, x => Rep2 c v x

theorem Rep2_d (c : Cx) {t : Ty} {v : t.D} {x : Value} : Rep2 c (.d t v) x ↔ ∃ cs : List Value, (if t.isAgg then x = .agg cs.toArray else cs = [x]) ∧ RepC c.w c.N t v cs := Iff.rfl

theorem Rep2_of1 {c : Cx} {v : AV} {x : Value} (h : Rep1 c v x) : Rep2 c v x := by
  cases v <;> first
    | exact h
    | (simp only [Rep1] at h; exact ⟨[x], by simp [h.1], h.2⟩)
    | exact h.elim

theorem Rep1_of2 {c : Cx} {v : AV} {x : Value} (h : Rep2 c v x) (h1 : ∀ t y, v ≠ .d t y) (h2 : ∀ cs, v ≠ .agg cs) (h3 : ∀ f cs, v ≠ .fn f cs) (h4 : ∀ vs, v ≠ .tup vs) : Rep1 c v x := by
  cases v <;> first
    | exact h
    | exact absurd rfl (h1 _ _)
    | exact absurd rfl (h2 _)
    | exact absurd rfl (h3 _ _)
    | exact absurd rfl (h4 _)

theorem Rep3_of2 {c : Cx} {v : AV} {x : Value} (h : Rep2 c v x) : Rep3 c v x := by
  cases v <;> first
    | exact h
    | exact h.elim

theorem Rep2_of3 {c : Cx} {v : AV} {x : Value} (h : Rep3 c v x) (hv : ∀ vs, v ≠ .tup vs) : Rep2 c v x := by
  cases v <;> first
    | exact h
    | exact absurd rfl (hv _)

/-- the room behind the elements of a row: elements too -/
def Sp (w : World) (N : Nat → Prop) (t : Ty) (n : Nat) (cs : Array Value) : Prop := ∀ i, n ≤ i → i * t.size + t.size ≤ cs.size → ∃ v : t.D, RepC w N t v (seg cs (i * t.size) t.size)

theorem Sp.mono {w w' : World} {N N' : Nat → Prop} (hm : ∀ b, N b → N' b ∧ w'.heap[b]? = w.heap[b]?) {t : Ty} {n : Nat} {cs : Array Value} (h : Sp w N t n cs) : Sp w' N' t n cs :=
  fun i h1 h2 => by obtain ⟨v, hv⟩ := h i h1 h2; exact ⟨v, hv.mono hm⟩

/-- a row at place i of block id, in a row of the heap by itself -/
def RowIn (c : Cx) (id i : Nat) (t : Ty) (xs : List t.D) (x : Value) : Prop :=
  ∃ base cap, x = .slice base xs.length cap ∧ xs.length ≤ cap ∧ (cap ≠ 0 → ∃ b cs ty, base = some ⟨b, 0, none⟩ ∧ c.N.d id i b ∧ c.w.heap[b]? = some (.cells cs ty (0, 0)) ∧ cap * t.size ≤ cs.size ∧
    (∀ j (h : j < xs.length), RepC c.w c.N t xs[j] (seg cs (j * t.size) t.size)) ∧ Sp c.w c.N t xs.length cs)

/-- a cell of a row of rows: the row at this place stands in it, or in block j of the store -/
def DeepCell (c : Cx) (id i : Nat) (t : Ty) (xs : List t.D) (link : Option (Nat × Option Nat)) (x : Value) : Prop :=
  match link with
  | some (p, j) => if i = p then (match j with | some j => Rep1 c (.all j) x | none => True) else RowIn c id i t xs x
  | none => RowIn c id i t xs x

/-- what a block of the store says of the heap -/
def RepB (c : Cx) (id : Nat) : Blk → Prop
  | .dead => True
  | .data t xs => (xs = [] ∨ ∃ b cs, c.at id b cs ∧ xs.length * t.size ≤ cs.size ∧ ∀ i (h : i < xs.length), RepC c.w c.N t xs[i] (seg cs (i * t.size) t.size)) ∧ ∀ b cs, c.at id b cs → Sp c.w c.N t xs.length cs
  | .node sz xs => xs = [] ∨ ∃ b cs, c.at id b cs ∧ xs.length * sz ≤ cs.size ∧ ∀ i (h : i < xs.length), All2 (Rep1 c) xs[i].cells (seg cs (i * sz) sz)
  | .deep t xs link => xs = [] ∨ ∃ b cs, c.at id b cs ∧ xs.length ≤ cs.size ∧ ∀ i (h : i < xs.length), ∃ x, cs[i]? = some x ∧ DeepCell c id i t xs[i] link x

structure Inv (c : Cx) : Prop where
  len : c.r.length = c.s.length
  inj : ∀ (i j b : Nat), c.r[i]? = some (some b) → c.r[j]? = some (some b) → i = j
  dis : ∀ (i id p b : Nat), c.r[i]? = some (some b) → ¬ c.N.d id p b
  din : ∀ (id p id' p' b : Nat), c.N.d id p b → c.N.d id' p' b → id = id' ∧ p = p'
  own : ∀ b, c.owns b → b < c.w.heap.size ∧ ¬ c.N b
  old : ∀ b, c.N b → b < c.w.heap.size
  blk : ∀ (id : Nat) (bk : Blk), c.s[id]? = some bk → RepB c id bk

/-- how a step may change things -/
structure Ext (c c' : Cx) : Prop where
  os : c'.w.os = c.w.os
  tape : c'.w.tape = c.w.tape
  output : c'.w.output = c.w.output
  fz : ∀ a : Addr, a.block < c.w.heap.size → c'.w.frozen? a = c.w.frozen? a
  size : c.w.heap.size ≤ c'.w.heap.size
  out : ∀ b, b < c.w.heap.size → ¬ c.owns b → c'.w.heap[b]? = c.w.heap[b]?
  shape : ∀ (b : Nat) (cs : Array Value) (ty : TypeId), c.w.heap[b]? = some (.cells cs ty (0, 0)) → ∃ cs' : Array Value, c'.w.heap[b]? = some (.cells cs' ty (0, 0)) ∧ cs'.size = cs.size
  nm : ∀ b, c.N b → c'.N b
  nn : ∀ b, c'.N b → c.N b ∨ c.w.heap.size ≤ b ∨ c.owns b
  own : ∀ b, c'.owns b → c.owns b ∨ c.w.heap.size ≤ b
  ids : ∀ (id : Nat) (bk : Blk), c.s[id]? = some bk → ∃ bk', c'.s[id]? = some bk' ∧ (bk'.live → bk.live ∧ bk'.len = bk.len ∧ bk'.sz = bk.sz ∧ c'.r[id]? = c.r[id]?)

theorem Ext.refl (c : Cx) : Ext c c :=
  ⟨rfl, rfl, rfl, fun _ _ => rfl, Nat.le_refl _, fun _ _ _ => rfl, fun _ cs _ h => ⟨cs, h, rfl⟩, fun _ h => h, fun _ h => .inl h, fun _ h => .inl h, fun _ bk h => ⟨bk, h, fun hl => ⟨hl, rfl, rfl, rfl⟩⟩⟩

theorem Ext.trans {a b c : Cx} (h : Ext a b) (k : Ext b c) : Ext a c where
  os := k.os.trans h.os
  tape := k.tape.trans h.tape
  output := k.output.trans h.output
  fz := fun a ha => (k.fz a (Nat.lt_of_lt_of_le ha h.size)).trans (h.fz a ha)
  size := Nat.le_trans h.size k.size
  out := fun i hi hn => by
    have h1 := h.size
    rw [k.out i (by omega) (fun hb => by rcases h.own i hb with h' | h'; exact hn h'; omega), h.out i hi hn]
  shape := fun i cs ty hc => by
    obtain ⟨cs1, h1, h2⟩ := h.shape i cs ty hc
    obtain ⟨cs2, h3, h4⟩ := k.shape i cs1 ty h1
    exact ⟨cs2, h3, h4.trans h2⟩
  nm := fun i hi => k.nm i (h.nm i hi)
  nn := fun i hi => by
    have h1 := h.size
    rcases k.nn i hi with h' | h' | h'
    · exact h.nn i h'
    · exact .inr (.inl (by omega))
    · rcases h.own i h' with h' | h'
      · exact .inr (.inr h')
      · exact .inr (.inl h')
  own := fun i hi => by
    have h1 := h.size
    rcases k.own i hi with h' | h'
    · exact h.own i h'
    · exact .inr (by omega)
  ids := fun id bk hb => by
    obtain ⟨b1, h1, h2⟩ := h.ids id bk hb
    obtain ⟨b2, h3, h4⟩ := k.ids id b1 h1
    refine ⟨b2, h3, fun hl => ?_⟩
    obtain ⟨k1, k2, k3, k4⟩ := h4 hl
    obtain ⟨m1, m2, m3, m4⟩ := h2 k1
    exact ⟨m1, k2.trans m2, k3.trans m3, k4.trans m4⟩

section
variable {c c' : Cx}

theorem Ext.N (hi : Inv c) (h : Ext c c') : ∀ b, c.N b → c'.N b ∧ c'.w.heap[b]? = c.w.heap[b]? :=
  fun b hb => ⟨h.nm b hb, h.out b (hi.old b hb) fun ho => (hi.own b ho).2 hb⟩

theorem Ext.at {id b : Nat} {cs : Array Value} (h : Ext c c') (hr : c'.r[id]? = c.r[id]?) (ha : c.at id b cs) : ∃ cs' : Array Value, c'.at id b cs' ∧ cs'.size = cs.size := by
  obtain ⟨h1, ty, h2⟩ := ha
  obtain ⟨cs', h3, h4⟩ := h.shape b cs ty h2
  exact ⟨cs', ⟨hr.trans h1, ty, h3⟩, h4⟩

theorem Rep1.ext (hi : Inv c) (h : Ext c c') {v : AV} {x : Value} (hr : Rep1 c v x) : Rep1 c' v x := by
  cases v with
  | any => trivial
  | d t v => exact ⟨hr.1, hr.2.mono (h.N hi)⟩
  | e0 t => exact hr
  | agg cs => exact hr.elim
  | tup vs => exact hr.elim
  | fn f cap => exact hr.elim
  | all id =>
    obtain ⟨h0, bk, hb, hr⟩ := hr
    obtain ⟨bk', hb', hk⟩ := h.ids id bk hb
    refine ⟨h0, bk', hb', fun hl => ?_⟩
    obtain ⟨k1, k2, k3, k4⟩ := hk hl
    obtain ⟨base, cap, h1, h2, h3⟩ := hr k1
    rw [k2, k3]
    refine ⟨base, cap, h1, h2, fun hc => ?_⟩
    obtain ⟨b, cs, h4, h5, h6⟩ := h3 hc
    obtain ⟨cs', h7, h8⟩ := h.at k4 h4
    exact ⟨b, cs', h7, h5, by omega⟩
  | ref id off len tight =>
    obtain ⟨h0, bk, hb, hr⟩ := hr
    obtain ⟨bk', hb', hk⟩ := h.ids id bk hb
    refine ⟨h0, bk', hb', fun hl => ?_⟩
    obtain ⟨k1, k2, k3, k4⟩ := hk hl
    obtain ⟨base, cap, h1, h2, h3, h4, h5, h6⟩ := hr k1
    rw [k2, k3]
    refine ⟨base, cap, h1, h2, h3, h4, h5, fun hc => ?_⟩
    obtain ⟨b, cs, h7, h8, h9⟩ := h6 hc
    obtain ⟨cs', h10, h11⟩ := h.at k4 h7
    exact ⟨b, cs', h10, h8, by omega⟩
  | ptr id i f =>
    obtain ⟨h0, bk, hb, hr⟩ := hr
    obtain ⟨bk', hb', hk⟩ := h.ids id bk hb
    refine ⟨h0, bk', hb', fun hl => ?_⟩
    obtain ⟨k1, k2, k3, k4⟩ := hk hl
    obtain ⟨b, cs, h1, h2, h3⟩ := hr k1
    obtain ⟨cs', h7, h8⟩ := h.at k4 h1
    rw [k2, k3]
    exact ⟨b, cs', h7, h2, h3⟩
  | cptr t v f =>
    obtain ⟨b, o, cs, ty, fr, h1, h2, h3, h4, h5⟩ := hr
    exact ⟨b, o, cs, ty, fr, h1, h.nm b h2, by rw [(h.N hi b h2).2]; exact h3, h4, h5.mono (h.N hi)⟩

theorem Rep2.ext (hi : Inv c) (h : Ext c c') {v : AV} {x : Value} (hr : Rep2 c v x) : Rep2 c' v x := by
  cases v with
  | d t v => obtain ⟨cs, h1, h2⟩ := hr; exact ⟨cs, h1, h2.mono (h.N hi)⟩
  | agg cs => obtain ⟨vs, h1, h2⟩ := hr; exact ⟨vs, h1, h2.mono fun _ _ => Rep1.ext hi h⟩
  | fn f cap => obtain ⟨vs, h1, h2⟩ := hr; exact ⟨vs, h1, h2.mono fun _ _ => Rep1.ext hi h⟩
  | tup vs => exact hr.elim
  | _ => exact Rep2_of1 (Rep1.ext hi h (Rep1_of2 hr (by simp) (by simp) (by simp) (by simp)))

theorem Rep3.ext (hi : Inv c) (h : Ext c c') {v : AV} {x : Value} (hr : Rep3 c v x) : Rep3 c' v x := by
  cases v with
  | tup vs => obtain ⟨xs, h1, h2⟩ := hr; exact ⟨xs, h1, h2.mono fun _ _ => Rep2.ext hi h⟩
  | _ => exact Rep3_of2 (Rep2.ext hi h (Rep2_of3 hr (by simp)))

theorem RowIn.ext (hi : Inv c) (h : Ext c c') {id i : Nat} {t : Ty} {xs : List t.D} {x : Value} (hw : ∀ b, c.N.d id i b → c'.w.heap[b]? = c.w.heap[b]? ∧ c'.N.d id i b) (hr : RowIn c id i t xs x) : RowIn c' id i t xs x := by
  obtain ⟨base, cap, h1, h2, h3⟩ := hr
  refine ⟨base, cap, h1, h2, fun hc => ?_⟩
  obtain ⟨b, cs, ty, k1, k2, k3, k4, k5, k6⟩ := h3 hc
  obtain ⟨m1, m2⟩ := hw b k2
  exact ⟨b, cs, ty, k1, m2, m1.trans k3, k4, fun j hj => (k5 j hj).mono (h.N hi), k6.mono (h.N hi)⟩

/-- a block that has not changed, over a row that has not changed -/
theorem RepB.ext (hi : Inv c) (h : Ext c c') {id : Nat} {bk : Blk} (hr : c'.r[id]? = c.r[id]?)
    (hw : ∀ b, c.r[id]? = some (some b) → c'.w.heap[b]? = c.w.heap[b]?) (hd : ∀ p b, c.N.d id p b → c'.w.heap[b]? = c.w.heap[b]? ∧ c'.N.d id p b) (hb : RepB c id bk) : RepB c' id bk := by
  cases bk with
  | dead => trivial
  | data t xs =>
    obtain ⟨hb, hsp⟩ := hb
    refine ⟨?_, fun b cs ⟨h1, ty, h2⟩ => ?_⟩
    · rcases hb with hb | ⟨b, cs, ⟨h1, ty, h2⟩, h3, h4⟩
      · exact .inl hb
      · exact .inr ⟨b, cs, ⟨hr.trans h1, ty, (hw b h1).trans h2⟩, h3, fun i hi' => (h4 i hi').mono (h.N hi)⟩
    · rw [hr] at h1
      exact (hsp b cs ⟨h1, ty, (hw b h1).symm.trans h2⟩).mono (h.N hi)
  | node sz xs =>
    rcases hb with hb | ⟨b, cs, ⟨h1, ty, h2⟩, h3, h4⟩
    · exact .inl hb
    · exact .inr ⟨b, cs, ⟨hr.trans h1, ty, (hw b h1).trans h2⟩, h3, fun i hi' => (h4 i hi').mono fun _ _ => Rep1.ext hi h⟩
  | deep t xs link =>
    rcases hb with hb | ⟨b, cs, ⟨h1, ty, h2⟩, h3, h4⟩
    · exact .inl hb
    · refine .inr ⟨b, cs, ⟨hr.trans h1, ty, (hw b h1).trans h2⟩, h3, fun i hi' => ?_⟩
      obtain ⟨x, k1, k2⟩ := h4 i hi'
      refine ⟨x, k1, ?_⟩
      unfold DeepCell at k2 ⊢
      split
      · simp only at k2
        split
        · rename_i e
          rw [if_pos e] at k2
          split
          · exact Rep1.ext hi h k2
          · trivial
        · rename_i e
          rw [if_neg e] at k2
          exact k2.ext hi h (hd i)
      · exact k2.ext hi h (hd i)

end

/-! ### values and their cells -/

theorem flat_rep {c : Cx} : ∀ {t : Ty} {v : t.D} {cs : List Value}, RepC c.w c.N t v cs → All2 (Rep1 c) (flat t v) cs
  | .bool, _, cs, h => by simp only [RepC] at h; subst h; exact ⟨⟨rfl, rfl⟩, trivial⟩
  | .int k, _, cs, h => by simp only [RepC] at h; subst h; exact ⟨⟨rfl, rfl⟩, trivial⟩
  | .str, _, cs, h => by simp only [RepC] at h; subst h; exact ⟨⟨rfl, rfl⟩, trivial⟩
  | .nil, _, cs, h => by simp only [RepC] at h; subst h; trivial
  | .sl t, xs, cs, h => by
    obtain ⟨base, cap, rfl, h2⟩ := h
    exact ⟨⟨rfl, base, cap, rfl, h2⟩, trivial⟩
  | .cons h t, v, cs, hr => by
    have := (flat_rep hr.1).append (flat_rep hr.2)
    rwa [List.take_append_drop] at this

/-- the cells of a value -/
theorem cells_rep {c : Cx} {v : AV} {x : Value} (h : Rep2 c v x) (hne : v.cells ≠ []) : All2 (Rep1 c) v.cells x.cells.toList := by
  cases v with
  | d t v =>
    obtain ⟨cs, h1, h2⟩ := h
    have h3 := flat_rep h2
    split at h1
    · subst h1; simpa [AV.cells, Value.cells] using h3
    · rename_i ha
      subst h1
      have hx : x.cells = #[x] := by
        have := h2.one x (by simp)
        cases x <;> simp [Value.cells, Value.oneCell'] at this ⊢
      simpa [AV.cells, hx] using h3
  | agg cs =>
    obtain ⟨vs, rfl, h2⟩ := h
    simpa [AV.cells, Value.cells] using h2
  | fn f cap => simp [AV.cells] at hne
  | tup vs => simp [AV.cells] at hne
  | any => simp [AV.cells] at hne
  | e0 t => obtain ⟨b, rfl⟩ := h; exact ⟨⟨b, rfl⟩, trivial⟩
  | all id =>
    have hx : x.cells = #[x] := by have := h.1; cases x <;> simp [Value.cells, Value.oneCell'] at this ⊢
    rw [hx]
    exact ⟨h, trivial⟩
  | ref id off len tight =>
    have hx : x.cells = #[x] := by have := h.1; cases x <;> simp [Value.cells, Value.oneCell'] at this ⊢
    rw [hx]
    exact ⟨h, trivial⟩
  | ptr id i f =>
    have hx : x.cells = #[x] := by have := h.1; cases x <;> simp [Value.cells, Value.oneCell'] at this ⊢
    rw [hx]
    exact ⟨h, trivial⟩
  | cptr t v f =>
    obtain ⟨b, o, cs, ty, fr, h1, h2⟩ := h
    subst h1
    exact ⟨⟨b, o, cs, ty, fr, rfl, h2⟩, trivial⟩

end Go.Ev

/-
  THE TABLE OF TYPES AGAINST THE PROGRAM's OWN; plain data out of cells.
-/
namespace Go.Ev

def zeroIs : Ty → List Value → Bool
  | .bool, cs => (match cs with | [.bool b] => !b | _ => false)
  | .int k, cs => (match cs with | [.int k' n] => decide (k' = k) && decide (n = 0) | _ => false)
  | .str, cs => (match cs with | [.string s] => decide (s.data.toList = []) | _ => false)
  | .sl _, cs => (match cs with | [.slice none 0 0] => true | _ => false)
  | .nil, cs => (match cs with | [] => true | _ => false)
  | .cons h t, cs => zeroIs h (cs.take h.size) && zeroIs t (cs.drop h.size)

def Ty.depth : Ty → Nat
  | .cons h t => h.depth + t.depth + 1
  | _ => 1

def zeroOk (t : Ty) (z : Value) : Bool :=
  if t.isAgg then (match z with | .agg cs => zeroIs t cs.toList | _ => false) else zeroIs t [z]

def infoOk (P : Program) (a : Ty) (t : TypeId) : Bool :=
  match P.info? t with
  | some i => i.size == a.size && decide (i.bytes ≤ 128 ∧ a.depth ≤ 1000) && (match i.zero with | some z => zeroOk a z | none => false)
  | none => false

/-- is type t of this shape? are these fields, from a cell on? -/
def tyF (P : Program) : Ty → (TypeId → Bool) × (List Field → Nat → Bool)
  | .bool => (fun t => infoOk P .bool t && (match P.underlying t with | some .bool => true | _ => false), fun _ _ => false)
  | .int k => (fun t => infoOk P (.int k) t && (match P.underlying t with | some (.int k') => decide (k' = k) | _ => false), fun _ _ => false)
  | .str => (fun t => infoOk P .str t && (match P.underlying t with | some .string => true | _ => false), fun _ _ => false)
  | .sl a => (fun t => infoOk P (.sl a) t && (match P.underlying t with | some (.slice e) => (tyF P a).1 e && decide (0 < a.size) | _ => false), fun _ _ => false)
  | .nil => (fun _ => false, fun fs _ => fs.isEmpty)
  | .cons h r =>
    let F : List Field → Nat → Bool := fun fs off => match fs with
      | f :: rest => decide (f.offset = off) && (decide (0 < h.size) && decide (f.name ≠ "_")) && (tyF P h).1 f.type && (tyF P r).2 rest (off + h.size)
      | [] => false
    (fun t => infoOk P (.cons h r) t && (match P.underlying t with | some (.struct fs) => F fs.toList 0 && !P.stoodInHeld t && !P.eqGuardType P.depth t | _ => false), F)

def TyOk (P : Program) (a : Ty) (t : TypeId) : Prop := (tyF P a).1 t = true

def TabOk (P : Program) (T : Tab) : Prop := ∀ t a, T.ty t = some a → TyOk P a t

theorem zeroIs_rep {w : World} {N : Nat → Prop} : ∀ {t : Ty} {cs : List Value}, zeroIs t cs = true → RepC w N t t.zero cs
  | .bool, cs, h => by
    simp only [zeroIs] at h
    split at h
    · rename_i b; simp at h; subst h; rfl
    · cases h
  | .int k, cs, h => by
    simp only [zeroIs] at h
    split at h
    · simp at h; obtain ⟨rfl, rfl⟩ := h; rfl
    · cases h
  | .str, cs, h => by
    simp only [zeroIs] at h
    split at h
    · rename_i s
      simp at h
      show _ = [Value.string ByteArray.empty]
      congr 2
      cases s; simp_all; rfl
    · cases h
  | .sl _, cs, h => by
    simp only [zeroIs] at h
    split at h
    · exact ⟨none, 0, rfl, Nat.le_refl _, fun hne => absurd rfl hne⟩
    · cases h
  | .nil, cs, h => by
    simp only [zeroIs] at h
    split at h
    · rfl
    · cases h
  | .cons h t, cs, hz => by
    simp only [zeroIs, Bool.and_eq_true] at hz
    exact ⟨zeroIs_rep hz.1, zeroIs_rep hz.2⟩

theorem zeroIs_cells {c : Cx} : ∀ {t : Ty} {cs : List Value}, zeroIs t cs = true → All2 (Rep1 c) (zeroCells t) cs
  | .bool, cs, h => by
    simp only [zeroIs] at h
    split at h
    · rename_i b; simp at h; subst h; exact ⟨⟨rfl, rfl⟩, trivial⟩
    · cases h
  | .int k, cs, h => by
    simp only [zeroIs] at h
    split at h
    · simp at h; obtain ⟨rfl, rfl⟩ := h; exact ⟨⟨rfl, rfl⟩, trivial⟩
    · cases h
  | .str, cs, h => by
    have := zeroIs_rep (w := c.w) (N := c.N) h
    simp only [RepC] at this; subst this
    exact ⟨⟨rfl, rfl⟩, trivial⟩
  | .sl _, cs, h => by
    simp only [zeroIs] at h
    split at h
    · exact ⟨⟨none, rfl⟩, trivial⟩
    · cases h
  | .nil, cs, h => by
    simp only [zeroIs] at h
    split at h
    · trivial
    · cases h
  | .cons h t, cs, hz => by
    simp only [zeroIs, Bool.and_eq_true] at hz
    have := (zeroIs_cells (c := c) hz.1).append (zeroIs_cells (c := c) hz.2)
    rwa [List.take_append_drop] at this

section
variable {P : Program} {a : Ty} {t : TypeId}

theorem TyOk.infoOk (h : TyOk P a t) : infoOk P a t = true := by
  unfold TyOk at h
  cases a <;> simp only [tyF, Bool.and_eq_true, Bool.false_eq_true] at h <;> exact h.1

theorem TyOk.info (h : TyOk P a t) : ∃ i z, P.info? t = some i ∧ i.size = a.size ∧ i.bytes ≤ 128 ∧ i.zero = some z ∧ zeroOk a z = true ∧ a.depth ≤ 1000 := by
  have h := h.infoOk
  unfold Ev.infoOk at h
  split at h
  · rename_i i hi
    simp only [Bool.and_eq_true, beq_iff_eq, decide_eq_true_eq] at h
    obtain ⟨⟨h1, h2, h4⟩, h3⟩ := h
    split at h3
    · rename_i z hz
      exact ⟨i, z, hi, h1, h2, hz, h3, h4⟩
    · cases h3
  · cases h

/-- the zero value, and its cells -/
theorem TyOk.zero (h : TyOk P a t) : ∃ i z, P.info? t = some i ∧ i.size = a.size ∧ i.bytes ≤ 128 ∧ i.zero = some z ∧
    zeroIs a z.cells.toList = true ∧ z.cells.size = a.size ∧ (if a.isAgg then z = .agg z.cells else z.cells = #[z]) := by
  obtain ⟨i, z, h1, h2, h3, h4, h5, _⟩ := h.info
  refine ⟨i, z, h1, h2, h3, h4, ?_⟩
  unfold zeroOk at h5
  split at h5
  · rename_i ha
    split at h5
    · rename_i cs
      have hl := (zeroIs_rep (w := default) (N := fun _ => False) h5).length
      exact ⟨h5, by simpa [Value.cells] using hl, by simp [ha, Value.cells]⟩
    · cases h5
  · rename_i ha
    have hr := zeroIs_rep (w := default) (N := fun _ => False) h5
    have hx : z.cells = #[z] := by
      have := hr.one z (by simp)
      cases z <;> simp [Value.cells, Value.oneCell'] at this ⊢
    have hl := hr.length
    refine ⟨by rw [hx]; exact h5, by rw [hx]; simpa using hl, ?_⟩
    rw [if_neg ha]; exact hx

theorem TyOk.sizeOf (h : TyOk P a t) (w : World) : (sizeOf t).run P w = .ok a.size w := by
  obtain ⟨i, z, h1, h2, _⟩ := h.info
  simp [Go.sizeOf, typeInfo, h1, h2]

theorem TyOk.typeInfo (h : TyOk P a t) : ∃ i, P.info? t = some i ∧ i.size = a.size ∧ i.bytes ≤ 128 ∧ ∀ w, (typeInfo t).run P w = .ok i w := by
  obtain ⟨i, z, h1, h2, h3, _⟩ := h.info
  exact ⟨i, h1, h2, h3, fun w => by simp [Go.typeInfo, h1]⟩

theorem TyOk.isAgg (h : TyOk P a t) (w : World) : (isAgg t).run P w = .ok a.isAgg w := by
  unfold TyOk at h
  cases a <;> simp only [tyF, Bool.and_eq_true, Bool.false_eq_true] at h
  all_goals
    have h2 := h.2
    split at h2
    · rename_i hu
      simp [Go.isAgg, Go.underlying, hu, Ty.isAgg]
    · cases h2

theorem TyOk.sl {b : Ty} (h : TyOk P (.sl b) t) : ∃ e, P.underlying t = some (.slice e) ∧ TyOk P b e ∧ 0 < b.size := by
  unfold TyOk at h
  simp only [tyF, Bool.and_eq_true] at h
  have h2 := h.2
  split at h2
  · rename_i e hu
    simp only [Bool.and_eq_true, decide_eq_true_eq] at h2
    exact ⟨e, hu, h2.1, h2.2⟩
  · cases h2

theorem TyOk.bool (h : TyOk P .bool t) : P.underlying t = some .bool := by
  unfold TyOk at h
  simp only [tyF, Bool.and_eq_true] at h
  have h2 := h.2
  split at h2
  · assumption
  · cases h2

theorem TyOk.str (h : TyOk P .str t) : P.underlying t = some .string := by
  unfold TyOk at h
  simp only [tyF, Bool.and_eq_true] at h
  have h2 := h.2
  split at h2
  · assumption
  · cases h2

theorem TyOk.int {k : IntKind} (h : TyOk P (.int k) t) : P.underlying t = some (.int k) := by
  unfold TyOk at h
  simp only [tyF, Bool.and_eq_true] at h
  have h2 := h.2
  split at h2
  · rename_i k' hu
    simp only [decide_eq_true_eq] at h2
    rw [hu, h2]
  · cases h2

theorem fields_ok : ∀ {a : Ty} {fs : List Field} {off : Nat}, (tyF P a).2 fs off = true → ∀ {n : Nat} {o : Nat} {b : Ty}, a.field n = some (o, b) →
    ∃ f, fs[n]? = some f ∧ f.offset = off + o ∧ TyOk P b f.type ∧ o + b.size ≤ a.size ∧ 0 < b.size
  | .cons h r, fs, off, hf, n, o, b, hn => by
    simp only [tyF] at hf
    split at hf
    · rename_i f rest
      simp only [Bool.and_eq_true, decide_eq_true_eq] at hf
      obtain ⟨⟨⟨h1, h0, hnm⟩, h2⟩, h3⟩ := hf
      cases n with
      | zero =>
        simp only [Ty.field, Option.some.injEq, Prod.mk.injEq] at hn
        obtain ⟨rfl, rfl⟩ := hn
        exact ⟨f, rfl, by omega, h2, by simp [Ty.size], h0⟩
      | succ n =>
        simp only [Ty.field] at hn
        cases hx : r.field n with
        | none => simp [hx] at hn
        | some x =>
          simp only [hx, Option.map_some, Option.some.injEq, Prod.mk.injEq] at hn
          obtain ⟨rfl, rfl⟩ := hn
          obtain ⟨f', k1, k2, k3, k4, k5⟩ := fields_ok h3 (n := n) (o := x.1) (b := x.2) (by rw [hx])
          exact ⟨f', by simpa using k1, by omega, k3, by simp only [Ty.size]; omega, k5⟩
    · cases hf
  | .nil, _, _, _, n, _, _, hn => by cases n <;> simp [Ty.field] at hn
  | .bool, _, _, _, n, _, _, hn => by cases n <;> simp [Ty.field] at hn
  | .int _, _, _, _, n, _, _, hn => by cases n <;> simp [Ty.field] at hn
  | .str, _, _, _, n, _, _, hn => by cases n <;> simp [Ty.field] at hn
  | .sl _, _, _, _, n, _, _, hn => by cases n <;> simp [Ty.field] at hn

theorem TyOk.field (h : TyOk P a t) {n o : Nat} {b : Ty} (hn : a.field n = some (o, b)) :
    ∃ fs f, P.underlying t = some (.struct fs) ∧ fs[n]? = some f ∧ f.offset = o ∧ TyOk P b f.type ∧ o + b.size ≤ a.size ∧ 0 < b.size := by
  cases a with
  | cons x r =>
    unfold TyOk at h
    have hF : ∃ fs, P.underlying t = some (.struct fs) ∧ (tyF P (.cons x r)).2 fs.toList 0 = true := by
      simp only [tyF, Bool.and_eq_true] at h
      have h2 := h.2
      split at h2
      · rename_i fs hu
        simp only [Bool.and_eq_true] at h2
        exact ⟨fs, hu, h2.1.1⟩
      · cases h2
    obtain ⟨fs, hu, hf⟩ := hF
    obtain ⟨f, k1, k2, k3, k4, k5⟩ := fields_ok hf hn
    exact ⟨fs, f, hu, by simpa using k1, by omega, k3, k4, k5⟩
  | _ => cases n <;> simp [Ty.field] at hn

end

theorem TyOk.pos {P : Program} {a : Ty} {t : TypeId} (h : TyOk P a t) : 0 < a.size := by
  cases a with
  | cons x r =>
    unfold TyOk at h
    simp only [tyF, Bool.and_eq_true] at h
    have h2 := h.2
    split at h2
    · simp only [Bool.and_eq_true] at h2
      have h3 := h2.1.1
      split at h3
      · simp only [Bool.and_eq_true, decide_eq_true_eq] at h3
        have h4 := h3.1.1.2.1
        simp only [Ty.size]; omega
      · cases h3
    · cases h2
  | nil => unfold TyOk at h; simp [tyF] at h
  | _ => simp [Ty.size]

/-! ### plain data out of cells -/

theorem leaf_rep {c : Cx} {t a : Ty} {v : a.D} {x : t.D} {cs : List Value} (hr : All2 (Rep1 c) [.d a v] cs) (h : castD t v = some x) : RepC c.w c.N t x cs := by
  match cs, hr with
  | [y], hr => exact RepC.cast h hr.1.2
  | _ :: _ :: _, hr => exact hr.2.elim

theorem allD_rep {c : Cx} : ∀ {t : Ty} {vs : List AV} {cs : List Value} {v : t.D}, All2 (Rep1 c) vs cs → allD t vs = some v → RepC c.w c.N t v cs
  | .bool, vs, cs, v, hr, h => by
    simp only [allD] at h
    split at h
    · exact leaf_rep hr h
    · cases h
  | .int k, vs, cs, v, hr, h => by
    simp only [allD] at h
    split at h
    · exact leaf_rep hr h
    · cases h
  | .str, vs, cs, v, hr, h => by
    simp only [allD] at h
    split at h
    · exact leaf_rep hr h
    · cases h
  | .sl t, vs, cs, v, hr, h => by
    simp only [allD] at h
    split at h
    · exact leaf_rep hr h
    · cases h
  | .nil, vs, cs, v, hr, h => by
    simp only [allD] at h
    split at h
    · have := hr.length
      cases cs with
      | nil => rfl
      | cons => simp at this
    · cases h
  | .cons a b, vs, cs, v, hr, h => by
    simp only [allD] at h
    cases h1 : allD a (vs.take a.size) with
    | none => simp [h1] at h
    | some x =>
      cases h2 : allD b (vs.drop a.size) with
      | none => simp [h1, h2] at h
      | some y =>
        simp only [h1, h2, Option.bind_some, Option.map_some, Option.some.injEq] at h
        subst h
        exact ⟨allD_rep (hr.take _) h1, allD_rep (hr.drop _) h2⟩

theorem mapO_some {α β : Type} {f : α → Option β} : ∀ {xs : List α} {ys : List β}, mapO f xs = some ys → ys.length = xs.length ∧ ∀ (i : Nat) (x : α), xs[i]? = some x → ∃ y, ys[i]? = some y ∧ f x = some y
  | [], ys, h => by simp only [mapO, Option.some.injEq] at h; subst h; simp
  | x :: xs, ys, h => by
    simp only [mapO] at h
    cases h1 : f x with
    | none => simp [h1] at h
    | some y =>
      cases h2 : mapO f xs with
      | none => simp [h1, h2] at h
      | some zs =>
        simp only [h1, h2, Option.bind_some, Option.map_some, Option.some.injEq] at h
        subst h
        have ih := mapO_some h2
        refine ⟨by simp [ih.1], fun i a ha => ?_⟩
        cases i with
        | zero => simp at ha; subst ha; exact ⟨y, rfl, h1⟩
        | succ i => simpa using ih.2 i a (by simpa using ha)

/-- the blocks that nobody writes while the call's own are left alone -/
def Cx.N2 (c : Cx) : Nat → Prop := fun b => c.N b ∨ c.owns b

theorem at_eq {c : Cx} {id b b' : Nat} {cs cs' : Array Value} (h : c.at id b cs) (h' : c.at id b' cs') : b = b' ∧ cs = cs' := by
  obtain ⟨h1, ty, h2⟩ := h
  obtain ⟨h3, ty', h4⟩ := h'
  have : b = b' := by simpa [h1] using h3
  subst this
  exact ⟨rfl, by rw [h2] at h4; simp at h4; exact h4.1⟩

theorem spOne {c : Cx} {id b : Nat} {cs : Array Value} (hat : c.at id b cs) {t : Ty} {n : Nat} (h : Sp c.w c.N t n cs) : ∀ b' cs', c.at id b' cs' → Sp c.w c.N t n cs' := fun b' cs' hat' => by
  obtain ⟨rfl, rfl⟩ := at_eq hat hat'
  exact h

/-- a row of a row of rows -/
theorem RowIn.repC {c : Cx} {id i : Nat} {t : Ty} {xs : List t.D} {x : Value} (h : RowIn c id i t xs x) : RepC c.w c.N2 (.sl t) xs [x] := by
  obtain ⟨base, cap, rfl, h2, h3⟩ := h
  refine ⟨base, cap, rfl, h2, fun hne => ?_⟩
  have hpos := List.length_pos_iff.2 hne
  obtain ⟨b, cs, ty, k1, k2, k3, k4, k5, k6⟩ := h3 (by omega)
  refine ⟨b, 0, cs, ty, (0, 0), k1, .inr (.inr ⟨id, i, k2⟩), k3, ?_, fun j hj => ?_⟩
  · rw [Nat.zero_add]; exact Nat.le_trans (Nat.mul_le_mul_right _ h2) k4
  · rw [Nat.zero_add]; exact (k5 j hj).mono fun b hb => ⟨.inl hb, rfl⟩

theorem deep_rows {c : Cx} {id b : Nat} {t : Ty} {xss : List (List t.D)} {cs : Array Value} (h : RepB c id (.deep t xss none)) (hat : c.at id b cs) : ∀ i (hi : i < xss.length), xss.length * (Ty.sl t).size ≤ cs.size ∧ RepC c.w c.N2 (.sl t) xss[i] (seg cs (i * (Ty.sl t).size) (Ty.sl t).size) := by
  intro i hi
  rcases h with rfl | ⟨b', cs', k1, k2, k3⟩
  · simp at hi
  · obtain ⟨rfl, rfl⟩ := at_eq hat k1
    obtain ⟨x, h1, h2⟩ := k3 i hi
    have hs : seg cs (i * 1) 1 = [x] := by
      unfold seg
      rw [← Array.getElem?_toList] at h1
      rw [Nat.mul_one, List.take_one, List.head?_drop, h1]
      rfl
    refine ⟨by simpa [Ty.size] using k2, ?_⟩
    show RepC c.w c.N2 (.sl t) xss[i] (seg cs (i * 1) 1)
    rw [hs]
    exact RowIn.repC (by simpa [DeepCell] using h2)

/-- the elements of a block between off and off + len, as a slice over its row -/
theorem slice_rep {w : World} {N : Nat → Prop} {t : Ty} {xs : List t.D} {base : Option Addr} {len cap off b : Nat} {cs : Array Value} {ty : TypeId} {fr : Nat × Nat} (hc : len ≤ cap) (hl : off + len ≤ xs.length)
    (hb : 0 < len → base = some ⟨b, off * t.size, none⟩ ∧ N b ∧ w.heap[b]? = some (.cells cs ty fr) ∧ xs.length * t.size ≤ cs.size ∧ ∀ i (h : i < xs.length), RepC w N t xs[i] (seg cs (i * t.size) t.size)) :
    RepC w N (.sl t) ((xs.drop off).take len) [.slice base len cap] := by
  have hlen : ((xs.drop off).take len).length = len := by simp; omega
  refine ⟨base, cap, by rw [hlen], by omega, fun hne => ?_⟩
  have hpos : 0 < len := by
    rw [← hlen]
    exact List.length_pos_iff.2 hne
  obtain ⟨h1, h2, h3, h4, h5⟩ := hb hpos
  refine ⟨b, off * t.size, cs, ty, fr, h1, h2, h3, ?_, fun i hi => ?_⟩
  · rw [hlen, ← Nat.add_mul]
    exact Nat.le_trans (Nat.mul_le_mul_right _ hl) h4
  · have hi' : off + i < xs.length := by omega
    have := h5 (off + i) hi'
    rw [Nat.add_mul] at this
    simpa using this

theorem snapC_rep {c : Cx} (hi : Inv c) : ∀ {t : Ty} {vs : List AV} {cs : List Value} {v : t.D}, All2 (Rep1 c) vs cs → snapC c.s t vs = some v → RepC c.w c.N2 t v cs := by
  have hN : ∀ b, c.N b → c.N2 b ∧ c.w.heap[b]? = c.w.heap[b]? := fun b h => ⟨.inl h, rfl⟩
  intro t
  induction t with
  | bool =>
    intro vs cs v hr h
    simp only [snapC] at h
    split at h
    · exact (leaf_rep hr h).mono hN
    · cases h
  | int k =>
    intro vs cs v hr h
    simp only [snapC] at h
    split at h
    · exact (leaf_rep hr h).mono hN
    · cases h
  | str =>
    intro vs cs v hr h
    simp only [snapC] at h
    split at h
    · exact (leaf_rep hr h).mono hN
    · cases h
  | nil =>
    intro vs cs v hr h
    simp only [snapC] at h
    split at h
    · have := hr.length
      cases cs with
      | nil => rfl
      | cons => simp at this
    · cases h
  | cons a b iha ihb =>
    intro vs cs v hr h
    simp only [snapC] at h
    cases h1 : snapC c.s a (vs.take a.size) with
    | none => simp [h1] at h
    | some x =>
      cases h2 : snapC c.s b (vs.drop a.size) with
      | none => simp [h1, h2] at h
      | some y =>
        simp only [h1, h2, Option.bind_some, Option.map_some, Option.some.injEq] at h
        subst h
        exact ⟨iha (hr.take _) h1, ihb (hr.drop _) h2⟩
  | sl t ih =>
    intro vs cs v hr h
    simp only [snapC] at h
    split at h
    · exact (leaf_rep hr h).mono hN
    · rename_i a
      split at h
      · simp only [Option.some.injEq] at h
        subst h
        match cs, hr with
        | [y], hr =>
          obtain ⟨base, rfl⟩ := hr.1
          exact ⟨base, 0, rfl, Nat.le_refl _, fun hne => absurd rfl hne⟩
        | _ :: _ :: _, hr => exact hr.2.elim
      · cases h
    · rename_i id
      match cs, hr with
      | _ :: _ :: _, hr => exact hr.2.elim
      | [y], hr =>
        obtain ⟨_, bk, hbk, hr⟩ := hr.1
        have hB := hi.blk id bk hbk
        split at h
        · rename_i a xs hs
          rw [hs] at hbk
          obtain rfl : _ = bk := by simpa using hbk
          obtain ⟨e, rfl⟩ := castD_some h
          obtain rfl : a = t := by simpa using e
          obtain ⟨base, cap, rfl, h2, h3⟩ := hr trivial
          have key : ∀ (b : Nat) (cs : Array Value) (ty : TypeId) (fr : Nat × Nat), (0 < xs.length → base = some ⟨b, 0, none⟩ ∧ c.N2 b ∧ c.w.heap[b]? = some (.cells cs ty fr) ∧ xs.length * a.size ≤ cs.size ∧
              ∀ i (h : i < xs.length), RepC c.w c.N2 a xs[i] (seg cs (i * a.size) a.size)) → RepC c.w c.N2 (.sl a) xs [.slice base xs.length cap] := fun b cs ty fr hh => by
            have := slice_rep (w := c.w) (N := c.N2) (t := a) (xs := xs) (base := base) (len := xs.length) (cap := cap) (off := 0) (b := b) (cs := cs) (ty := ty) (fr := fr) h2 (by simp) (by simpa using hh)
            simpa using this
          rcases hB with rfl | ⟨b, cs, k1, k2, k3⟩
          · exact key 0 #[] 0 (0, 0) (fun h0 => by simp at h0)
          · refine key b cs k1.2.choose (0, 0) (fun h0 => ?_)
            obtain ⟨b', cs', k4, k5, k6⟩ := h3 (by simp only [Blk.len] at h2; omega)
            obtain ⟨rfl, rfl⟩ := at_eq k1 k4
            exact ⟨k5, .inr (.inl ⟨id, k1.1⟩), k1.2.choose_spec, k2, fun i hi' => (k3 i hi').mono hN⟩
        · rename_i sz xs hs
          rw [hs] at hbk
          obtain rfl : _ = bk := by simpa using hbk
          obtain ⟨base, cap, rfl, h2, h3⟩ := hr trivial
          have hm := mapO_some h
          simp only [Blk.len] at h2 ⊢
          refine ⟨base, cap, by rw [hm.1], by omega, fun hne => ?_⟩
          have hpos : 0 < xs.length := by rw [← hm.1]; exact List.length_pos_iff.2 hne
          rcases hB with rfl | ⟨b, cs, k1, k2, k3⟩
          · simp at hpos
          · obtain ⟨b', cs', k4, k5, k6⟩ := h3 (by omega)
            obtain ⟨rfl, rfl⟩ := at_eq k1 k4
            have hsz : ∀ i (hi' : i < v.length), RepC c.w c.N2 t v[i] (seg cs (i * sz) sz) := fun i hi' => by
              have hx : i < xs.length := by omega
              obtain ⟨z, z1, z2⟩ := hm.2 i xs[i] (by simp [hx])
              have hz : v[i] = z := by simpa [hi'] using z1
              rw [hz]
              exact ih (k3 i hx) z2
            have hsz0 : sz = t.size := by
              have h5 := (hsz 0 (by omega)).length
              rw [seg_length (by have := Nat.le_mul_of_pos_left sz hpos; omega)] at h5
              exact h5
            subst hsz0
            refine ⟨b, 0, cs, k1.2.choose, (0, 0), k5, .inr (.inl ⟨id, k1.1⟩), k1.2.choose_spec, by rw [hm.1]; simpa using k2, fun i hi' => ?_⟩
            simpa using hsz i hi'
        · rename_i a xs hs
          rw [hs] at hbk
          obtain rfl : _ = bk := by simpa using hbk
          obtain ⟨e, hys⟩ := castD_some h
          obtain rfl : .sl a = t := by simpa using e
          simp only at hys
          subst hys
          obtain ⟨base, cap, rfl, h2, h3⟩ := hr trivial
          simp only [Blk.len] at h2 h3
          refine ⟨base, cap, rfl, h2, fun hne => ?_⟩
          have hpos := List.length_pos_iff.2 hne
          obtain ⟨b, cs, k1, k2, k3⟩ := h3 (by omega)
          have key := deep_rows hB k1
          refine ⟨b, 0, cs, k1.2.choose, (0, 0), k2, .inr (.inl ⟨id, k1.1⟩), k1.2.choose_spec, ?_, fun i hi' => ?_⟩
          · rw [Nat.zero_add]; exact (key 0 hpos).1
          · rw [Nat.zero_add]; exact (key i hi').2
        · cases h
    · rename_i id off len tight
      match cs, hr with
      | _ :: _ :: _, hr => exact hr.2.elim
      | [y], hr =>
        obtain ⟨_, bk, hbk, hr⟩ := hr.1
        have hB := hi.blk id bk hbk
        split at h
        · rename_i a xs hs
          rw [hs] at hbk
          obtain rfl : _ = bk := by simpa using hbk
          cases hcast : castD (a := .sl a) (.sl t) xs with
          | none => simp [hcast] at h
          | some ys =>
            obtain ⟨e, hys⟩ := castD_some hcast
            obtain rfl : a = t := by simpa using e
            simp only at hys
            subst hys
            simp only [hcast, Option.map_some, Option.some.injEq] at h
            subst h
            obtain ⟨base, cap, rfl, h1, h2, _, _, h3⟩ := hr trivial
            simp only [Blk.len] at h1
            rcases hB with rfl | ⟨b, cs, k1, k2, k3⟩
            · exact slice_rep (b := 0) (cs := #[]) (ty := 0) (fr := (0, 0)) h2 h1 (fun h0 => by simp at h1; omega)
            · refine slice_rep (b := b) (cs := cs) (ty := k1.2.choose) (fr := (0, 0)) h2 h1 (fun h0 => ?_)
              obtain ⟨b', cs', k4, k5, k6⟩ := h3 (by omega)
              obtain ⟨rfl, rfl⟩ := at_eq k1 k4
              exact ⟨k5, .inr (.inl ⟨id, k1.1⟩), k1.2.choose_spec, k2, fun i hi' => (k3 i hi').mono hN⟩
        · rename_i sz xs hs
          rw [hs] at hbk
          obtain rfl : _ = bk := by simpa using hbk
          obtain ⟨base, cap, rfl, h1, h2, _, _, h3⟩ := hr trivial
          have hm := mapO_some h
          simp only [Blk.len] at h1
          have hlen : ((xs.drop off).take len).length = len := by simp; omega
          rw [hlen] at hm
          refine ⟨base, cap, by rw [hm.1], by omega, fun hne => ?_⟩
          have hpos : 0 < len := by rw [← hm.1]; exact List.length_pos_iff.2 hne
          rcases hB with rfl | ⟨b, cs, k1, k2, k3⟩
          · simp at h1; omega
          · obtain ⟨b', cs', k4, k5, k6⟩ := h3 (by omega)
            obtain ⟨rfl, rfl⟩ := at_eq k1 k4
            have hsz : ∀ i (hi' : i < v.length), RepC c.w c.N2 t v[i] (seg cs ((off + i) * sz) sz) := fun i hi' => by
              have hx : off + i < xs.length := by omega
              obtain ⟨z, z1, z2⟩ := hm.2 i xs[off + i] (by simp [List.getElem?_take, show i < len by omega, hx])
              have hz : v[i] = z := by simpa [hi'] using z1
              rw [hz]
              exact ih (k3 (off + i) hx) z2
            have hsz0 : sz = t.size := by
              have h5 := (hsz 0 (by omega)).length
              rw [seg_length (by
                have h6 : (off + 0 + 1) * sz ≤ xs.length * sz := Nat.mul_le_mul_right _ (by omega)
                rw [Nat.add_mul] at h6
                omega)] at h5
              exact h5
            subst hsz0
            refine ⟨b, off * t.size, cs, k1.2.choose, (0, 0), k5, .inr (.inl ⟨id, k1.1⟩), k1.2.choose_spec, ?_, fun i hi' => ?_⟩
            · rw [hm.1, ← Nat.add_mul]
              exact Nat.le_trans (Nat.mul_le_mul_right _ h1) k2
            · have := hsz i hi'
              rw [Nat.add_mul] at this
              exact this
        · rename_i a xs hs
          rw [hs] at hbk
          obtain rfl : _ = bk := by simpa using hbk
          cases hcast : castD (a := .sl (.sl a)) (.sl t) xs with
          | none => simp [hcast] at h
          | some ys =>
            obtain ⟨e, hys⟩ := castD_some hcast
            obtain rfl : .sl a = t := by simpa using e
            simp only at hys
            subst hys
            simp only [hcast, Option.map_some, Option.some.injEq] at h
            subst h
            obtain ⟨base, cap, rfl, h1, h2, _, _, h3⟩ := hr trivial
            simp only [Blk.len] at h1
            by_cases h0 : len = 0
            · exact slice_rep (t := .sl a) (xs := ys) (b := 0) (cs := #[]) (ty := 0) (fr := (0, 0)) h2 h1 (fun h9 => by omega)
            · obtain ⟨b, cs, k1, k2, k3⟩ := h3 (by omega)
              have key := deep_rows hB k1
              exact slice_rep (t := .sl a) (xs := ys) (b := b) (cs := cs) (ty := k1.2.choose) (fr := (0, 0)) h2 h1 (fun _ => ⟨by simpa [Blk.sz, Ty.size] using k2, .inr (.inl ⟨id, k1.1⟩), k1.2.choose_spec, (key 0 (by omega)).1, fun i hi' => (key i hi').2⟩)
        · cases h
    · cases h

/-- no reference to the store is looked up -/
theorem snap0C_rep {c : Cx} : ∀ {t : Ty} {vs : List AV} {cs : List Value} {v : t.D}, All2 (Rep1 c) vs cs → snapC [] t vs = some v → RepC c.w c.N t v cs
  | .bool, vs, cs, v, hr, h => by
    simp only [snapC] at h
    split at h
    · exact leaf_rep hr h
    · cases h
  | .int k, vs, cs, v, hr, h => by
    simp only [snapC] at h
    split at h
    · exact leaf_rep hr h
    · cases h
  | .str, vs, cs, v, hr, h => by
    simp only [snapC] at h
    split at h
    · exact leaf_rep hr h
    · cases h
  | .nil, vs, cs, v, hr, h => by
    simp only [snapC] at h
    split at h
    · have := hr.length
      cases cs with
      | nil => rfl
      | cons => simp at this
    · cases h
  | .cons a b, vs, cs, v, hr, h => by
    simp only [snapC] at h
    cases h1 : snapC [] a (vs.take a.size) with
    | none => simp [h1] at h
    | some x =>
      cases h2 : snapC [] b (vs.drop a.size) with
      | none => simp [h1, h2] at h
      | some y =>
        simp only [h1, h2, Option.bind_some, Option.map_some, Option.some.injEq] at h
        subst h
        exact ⟨snap0C_rep (hr.take _) h1, snap0C_rep (hr.drop _) h2⟩
  | .sl t, vs, cs, v, hr, h => by
    simp only [snapC] at h
    split at h
    · exact leaf_rep hr h
    · split at h
      · simp only [Option.some.injEq] at h
        subst h
        match cs, hr with
        | [y], hr =>
          obtain ⟨base, rfl⟩ := hr.1
          exact ⟨base, 0, rfl, Nat.le_refl _, fun hne => absurd rfl hne⟩
        | _ :: _ :: _, hr => exact hr.2.elim
      · cases h
    · simp at h
    · simp at h
    · cases h

/-- the shape of a value -/
def VC (t : Ty) (x : Value) (cs : List Value) : Prop := if t.isAgg then x = .agg cs.toArray else cs = [x]

theorem asD_rep {c : Cx} {t : Ty} {v : AV} {x : Value} {u : t.D} (hr : Rep3 c v x) (h : asD t v = some u) : ∃ cs, VC t x cs ∧ RepC c.w c.N t u cs := by
  unfold asD at h
  split at h
  · obtain ⟨cs, h1, h2⟩ := hr
    obtain ⟨e, rfl⟩ := castD_some h
    subst e
    exact ⟨cs, h1, h2⟩
  · split at h
    · rename_i ha
      obtain ⟨vs, rfl, h2⟩ := hr
      exact ⟨vs, by simp [VC, ha], allD_rep h2 h⟩
    · cases h
  · cases h

theorem one_of1 {c : Cx} {v : AV} {x : Value} (h : Rep1 c v x) (hv : v ≠ .any) : x.oneCell' = true := by
  cases v with
  | any => exact absurd rfl hv
  | d t y => exact h.2.one x (by simp)
  | e0 t => obtain ⟨b, rfl⟩ := h; rfl
  | agg cs => exact h.elim
  | tup vs => exact h.elim
  | fn f cap => exact h.elim
  | all id => exact h.1
  | ref => exact h.1
  | ptr => exact h.1
  | cptr t y f => obtain ⟨_, _, _, _, _, rfl, _⟩ := h; rfl

theorem snap0_rep {c : Cx} {t : Ty} {v : AV} {x : Value} {u : t.D} (hr : Rep3 c v x) (h : snap [] t v = some u) : ∃ cs, VC t x cs ∧ RepC c.w c.N t u cs := by
  unfold snap at h
  split at h
  · obtain ⟨cs, h1, h2⟩ := hr
    obtain ⟨e, rfl⟩ := castD_some h
    subst e
    exact ⟨cs, h1, h2⟩
  · split at h
    · rename_i ha
      obtain ⟨vs, rfl, h2⟩ := hr
      exact ⟨vs, by simp [VC, ha], snap0C_rep h2 h⟩
    · cases h
  · rename_i hnd hna
    split at h
    · cases h
    · rename_i ha
      by_cases hne : v.cells = []
      · rw [hne] at h
        cases t <;> simp [snapC, Ty.isAgg] at h ha
      · have h2 : Rep2 c v x := Rep2_of3 hr (fun vs e => by subst e; simp [AV.cells] at hne)
        have hc := cells_rep h2 hne
        have hs := snap0C_rep hc h
        refine ⟨x.cells.toList, ?_, hs⟩
        unfold VC
        rw [if_neg ha]
        have h1 : Rep1 c v x := Rep1_of2 h2 (fun t y e => hnd t y e) (fun cs e => hna cs e) (fun f cs e => by subst e; simp [AV.cells] at hne) (fun vs e => by subst e; simp [AV.cells] at hne)
        have ho := one_of1 h1 (fun e => by subst e; simp [AV.cells] at hne)
        cases x <;> simp [Value.cells, Value.oneCell'] at ho ⊢

theorem snap_rep {c : Cx} (hi : Inv c) {t : Ty} {v : AV} {x : Value} {u : t.D} (hr : Rep3 c v x) (h : snap c.s t v = some u) : ∃ cs, VC t x cs ∧ RepC c.w c.N2 t u cs := by
  have hN : ∀ b, c.N b → c.N2 b ∧ c.w.heap[b]? = c.w.heap[b]? := fun b h => ⟨.inl h, rfl⟩
  unfold snap at h
  split at h
  · obtain ⟨cs, h1, h2⟩ := hr
    obtain ⟨e, rfl⟩ := castD_some h
    subst e
    exact ⟨cs, h1, h2.mono hN⟩
  · split at h
    · rename_i ha
      obtain ⟨vs, rfl, h2⟩ := hr
      exact ⟨vs, by simp [VC, ha], snapC_rep hi h2 h⟩
    · cases h
  · rename_i hnd hna
    split at h
    · cases h
    · rename_i ha
      by_cases hne : v.cells = []
      · rw [hne] at h
        cases t <;> simp [snapC, Ty.isAgg] at h ha
      · have h2 : Rep2 c v x := Rep2_of3 hr (fun vs e => by subst e; simp [AV.cells] at hne)
        have hc := cells_rep h2 hne
        have hs := snapC_rep hi hc h
        refine ⟨x.cells.toList, ?_, hs⟩
        unfold VC
        rw [if_neg ha]
        have h1 : Rep1 c v x := Rep1_of2 h2 (fun t y e => hnd t y e) (fun cs e => hna cs e) (fun f cs e => by subst e; simp [AV.cells] at hne) (fun vs e => by subst e; simp [AV.cells] at hne)
        have ho : x.oneCell' = true := by
          cases v with
          | e0 a => obtain ⟨b, rfl⟩ := h1; rfl
          | all id => exact h1.1
          | ref => exact h1.1
          | ptr => exact h1.1
          | cptr a y f => obtain ⟨_, _, _, _, _, rfl, _⟩ := h1; rfl
          | d a y => exact absurd rfl (hnd _ _)
          | agg cs => exact absurd rfl (hna _)
          | any => simp [AV.cells] at hne
          | tup vs => simp [AV.cells] at hne
          | fn f cs => simp [AV.cells] at hne
        cases x <;> simp [Value.cells, Value.oneCell'] at ho ⊢

/-- a value of its cells -/
theorem ofCells_rep {c : Cx} {t : Ty} {cs : List AV} {vs : List Value} {v : AV} (hr : All2 (Rep1 c) cs vs) (h : ofCells t cs = some v) :
    (t.isAgg = true → vs.length = t.size ∧ Rep2 c v (.agg vs.toArray)) ∧ (t.isAgg = false → ∃ x, vs = [x] ∧ Rep2 c v x) := by
  unfold ofCells at h
  split at h
  · rename_i ha
    refine ⟨fun _ => ?_, fun h' => by rw [ha] at h'; cases h'⟩
    split at h
    · rename_i hl
      simp only [Option.some.injEq] at h
      refine ⟨by rw [← hr.length]; exact hl, ?_⟩
      split at h
      · rename_i x hx
        subst h
        exact ⟨vs, by simp [ha], allD_rep hr hx⟩
      · subst h
        exact ⟨vs, rfl, hr⟩
    · cases h
  · rename_i ha
    refine ⟨fun h' => absurd h' ha, fun _ => ?_⟩
    split at h
    · simp only [Option.some.injEq] at h
      subst h
      match vs, hr with
      | [x], hr => exact ⟨x, rfl, Rep2_of1 hr.1⟩
      | _ :: _ :: _, hr => exact hr.2.elim
    · cases h

end Go.Ev

/-
  OPERATIONS THAT LEAVE STORE AND WORLD ALONE: what the evaluator computes is what the machine yields.
-/
namespace Go.Ev

theorem Rep3.bool {c : Cx} {b : Bool} {x : Value} (h : Rep3 c (.d .bool b) x) : x = .bool b := by
  obtain ⟨cs, h1, h2⟩ := h
  simp only [RepC] at h2
  simp [Ty.isAgg] at h1
  subst h1; simpa using h2

theorem Rep3.int {c : Cx} {k : IntKind} {n : Int} {x : Value} (h : Rep3 c (.d (.int k) n) x) : x = .int k n := by
  obtain ⟨cs, h1, h2⟩ := h
  simp only [RepC] at h2
  simp [Ty.isAgg] at h1
  subst h1; simpa using h2

theorem Rep3.str {c : Cx} {s : ByteArray} {x : Value} (h : Rep3 c (.d .str s) x) : x = .string s := by
  obtain ⟨cs, h1, h2⟩ := h
  simp only [RepC] at h2
  simp [Ty.isAgg] at h1
  subst h1; simpa using h2

theorem rep_bool (c : Cx) (b : Bool) : Rep3 c (.d .bool b) (.bool b) := ⟨[.bool b], by simp [Ty.isAgg], rfl⟩
theorem rep_int (c : Cx) (k : IntKind) (n : Int) : Rep3 c (.d (.int k) n) (.int k n) := ⟨[.int k n], by simp [Ty.isAgg], rfl⟩
theorem rep_str (c : Cx) (s : ByteArray) : Rep3 c (.d .str s) (.string s) := ⟨[.string s], by simp [Ty.isAgg], rfl⟩

theorem asB_rep {c : Cx} {v : AV} {b : Bool} {x : Value} (h : asB v = some b) (hr : Rep3 c v x) : x = .bool b := by
  unfold asB at h
  split at h
  · simp at h; subst h; exact hr.bool
  · cases h

theorem asI_rep {c : Cx} {v : AV} {k : IntKind} {n : Int} {x : Value} (h : asI v = some (k, n)) (hr : Rep3 c v x) : x = .int k n := by
  unfold asI at h
  split at h
  · simp at h; obtain ⟨rfl, rfl⟩ := h; exact hr.int
  · cases h

theorem asN_rep {c : Cx} {v : AV} {n : Nat} {x : Value} (h : asN v = some n) (hr : Rep3 c v x) : ∃ k, x = .int k (n : Int) := by
  unfold asN at h
  cases h1 : asI v with
  | none => simp [h1] at h
  | some y =>
    obtain ⟨k, m⟩ := y
    simp only [h1, Option.bind_some] at h
    split at h
    · rename_i h0
      simp only [Option.some.injEq] at h
      refine ⟨k, ?_⟩
      rw [asI_rep h1 hr, ← h, Int.toNat_of_nonneg h0]
    · cases h

/-- the environment against the temporaries -/
def RepE (c : Cx) (e : Env) (tmps : Array Value) : Prop := ∀ t, Rep3 c (lk e t) (tmps.getD t undef)

theorem const_rep (c : Cx) (T : Tab) (t : TypeId) (v : Value) : Rep3 c (ofConst T t v) v := by
  unfold ofConst
  split
  · exact rep_bool c _
  · exact rep_int c _ _
  · exact rep_str c _
  · split
    · exact ⟨none, rfl⟩
    · trivial
  · split
    · rename_i vs h
      exact ⟨[], by rw [Array.eq_empty_of_size_eq_zero h], trivial⟩
    · trivial
  · trivial

theorem opnd_rep {c : Cx} {T : Tab} {t : TypeId} {e : Env} {a : Act} (he : RepE c e a.tmps) (x : Operand) : Rep3 c (opnd T t e x) (a.eval x) := by
  cases x with
  | tmp i => exact he i
  | const v => exact const_rep c T t v
  | func f => exact ⟨[], rfl, trivial⟩
  | global g => trivial

/-- an operation is carried out: what it yields, and the state behind it -/
def Done (P : Program) (a : Act) (o : Oper) (c : Cx) (v : AV) (s' : Store) : Prop :=
  ∃ n x c', (execOp a.eval o).run P c.w = .ok n c'.w ∧ (n = .value x ∨ (n = .skip ∧ x = undef)) ∧ c'.s = s' ∧ Inv c' ∧ Ext c c' ∧ Rep3 c' v x

theorem Done.pure {P : Program} {a : Act} {o : Oper} {c : Cx} {v : AV} {x : Value} (hi : Inv c) (hrun : (execOp a.eval o).run P c.w = .ok (.value x) c.w) (hr : Rep3 c v x) : Done P a o c v c.s :=
  ⟨.value x, x, c, hrun, .inl rfl, rfl, hi, Ext.refl c, hr⟩

/-! ### integers, booleans, strings -/

theorem bin_rep {P : Program} (c : Cx) (op : BinOp) (t : TypeId) (k : IntKind) (x y : Int) {v : AV} (h : bin op k x y = some v) :
    ∃ z, (binOp op t (.int k x) (.int k y)).run P c.w = .ok z c.w ∧ Rep3 c v z := by
  cases op <;> simp only [bin, Option.some.injEq, reduceCtorEq] at h
  case quo =>
    split at h
    · cases h
    · rename_i h0; simp only [Option.some.injEq] at h; subst h
      exact ⟨_, by simp [binOp, Op.intDiv, h0], rep_int c k _⟩
  case rem =>
    split at h
    · cases h
    · rename_i h0; simp only [Option.some.injEq] at h; subst h
      exact ⟨_, by simp [binOp, Op.intDiv, h0], rep_int c k _⟩
  case add => subst h; exact ⟨_, by simp [binOp, Op.intArith], rep_int c k _⟩
  case sub => subst h; exact ⟨_, by simp [binOp, Op.intArith], rep_int c k _⟩
  case mul => subst h; exact ⟨_, by simp [binOp, Op.intArith], rep_int c k _⟩
  case and => subst h; exact ⟨_, by simp [binOp, Op.intBits], rep_int c k _⟩
  case or => subst h; exact ⟨_, by simp [binOp, Op.intBits], rep_int c k _⟩
  case xor => subst h; exact ⟨_, by simp [binOp, Op.intBits], rep_int c k _⟩
  case andNot => subst h; exact ⟨_, by simp [binOp, Op.intBits], rep_int c k _⟩
  all_goals
    subst h
    exact ⟨_, by simp [binOp, Op.intCmp], rep_bool c _⟩

theorem binS_rep {P : Program} (c : Cx) (op : BinOp) (t : TypeId) (x y : ByteArray) {v : AV} (h : binS op x y = some v) :
    ∃ z, (binOp op t (.string x) (.string y)).run P c.w = .ok z c.w ∧ Rep3 c v z := by
  cases op <;> simp only [binS, Option.some.injEq, reduceCtorEq] at h
  case add =>
    split at h
    · cases h
    · rename_i h0
      simp only [Option.some.injEq] at h; subst h
      refine ⟨_, ?_, rep_str c _⟩
      simp only [binOp, Op.stringOp]
      rw [if_neg (by simpa [IntKind.max_i64] using h0)]
      rfl
  all_goals
    subst h
    exact ⟨_, by simp only [binOp, Op.stringOp]; rfl, rep_bool c _⟩

/-! ### '==' on structs -/

theorem value_of {w : World} {N : Nat → Prop} {t : Ty} {v : t.D} {x : Value} {cs : List Value} (h : if t.isAgg then x = .agg cs.toArray else cs = [x]) (hr : RepC w N t v cs) : x.cells.toList = cs := by
  split at h
  · subst h; simp [Value.cells]
  · subst h
    have := hr.one x (by simp)
    cases x <;> simp [Value.cells, Value.oneCell'] at this ⊢

/-- a part of a row of cells, as a value -/
theorem run_part {P : Program} {b : Ty} {t : TypeId} (ht : TyOk P b t) (w : World) {N : Nat → Prop} {v : b.D} {cs : Array Value} {off : Nat} (hr : RepC w N b v (seg cs off b.size)) :
    ∃ x, (part t cs off).run P w = .ok x w ∧ (if b.isAgg then x = .agg (seg cs off b.size).toArray else seg cs off b.size = [x]) := by
  have hl := hr.length
  by_cases ha : b.isAgg = true
  · refine ⟨.agg (seg cs off b.size).toArray, ?_, by simp [ha]⟩
    simp only [part, Sem.run_bind, ht.isAgg, Result.andThen_ok, ha, if_true, ht.sizeOf, Sem.run_pure]
    congr 2
    apply Array.ext'
    simp [seg, Array.toList_extract, List.extract_eq_take_drop]
  · have ha' : b.isAgg = false := by simpa using ha
    have h1 : b.size = 1 := by cases b <;> simp_all [Ty.isAgg, Ty.size]
    rw [h1] at hl hr ⊢
    have hx : ∃ x, cs[off]? = some x ∧ seg cs off 1 = [x] := by
      match hs : seg cs off 1, hl with
      | [x], _ =>
        have := seg_get (c := cs) (o := off) (n := 1) (j := 0) (by omega)
        rw [hs] at this
        exact ⟨x, by simpa using this.symm, rfl⟩
    obtain ⟨x, hx, hs⟩ := hx
    refine ⟨x, ?_, by simp [ha', hs]⟩
    simp [part, ht.isAgg, ha', hx]

theorem part_struct {P : Program} {h r : Ty} {t : TypeId} (ht : TyOk P (.cons h r) t) :
    ∃ fs, P.underlying t = some (.struct fs) ∧ (tyF P (.cons h r)).2 fs.toList 0 = true ∧ P.stoodInHeld t = false ∧ P.eqGuardType P.depth t = false := by
  unfold TyOk at ht
  simp only [tyF, Bool.and_eq_true] at ht
  have h2 := ht.2
  split at h2
  · rename_i fs hu
    simp only [Bool.and_eq_true, Bool.not_eq_true'] at h2
    exact ⟨fs, hu, h2.1.1, h2.1.2, h2.2⟩
  · cases h2

theorem eqB_rep {P : Program} (w : World) {N : Nat → Prop} : ∀ (τ : Ty),
    (∀ (t : TypeId) (d : Nat) (u v : τ.D) (r : Bool) (x y : Value) (cs ds : List Value), TyOk P τ t → τ.depth ≤ d → τ.eqB u v = some r →
      (if τ.isAgg then x = .agg cs.toArray else cs = [x]) → (if τ.isAgg then y = .agg ds.toArray else ds = [y]) → RepC w N τ u cs → RepC w N τ v ds → (Op.equalIn d t x y).run P w = .ok r w) ∧
    (∀ (fs : List Field) (off d : Nat) (u v : τ.D) (r : Bool) (xs ys : Array Value), (tyF P τ).2 fs off = true → τ.depth ≤ d + 1 → τ.eqB u v = some r →
      RepC w N τ u (seg xs off τ.size) → RepC w N τ v (seg ys off τ.size) → (Op.eqFields d xs ys fs).run P w = .ok r w) := by
  intro τ
  induction τ with
  | bool =>
    refine ⟨fun t d u v r x y cs ds ht hd he hx hy hu hv => ?_, fun fs off d u v r xs ys hf => by simp [tyF] at hf⟩
    obtain ⟨d, rfl⟩ : ∃ e, d = e + 1 := ⟨d - 1, by simp [Ty.depth] at hd; omega⟩
    simp only [RepC] at hu hv
    simp [Ty.isAgg] at hx hy
    subst hx; subst hy
    simp at hu hv; subst hu; subst hv
    simp only [Ty.eqB, Option.some.injEq] at he
    rw [run_equalIn_bool' w d t u v ht.bool, he]
  | int k =>
    refine ⟨fun t d u v r x y cs ds ht hd he hx hy hu hv => ?_, fun fs off d u v r xs ys hf => by simp [tyF] at hf⟩
    obtain ⟨d, rfl⟩ : ∃ e, d = e + 1 := ⟨d - 1, by simp [Ty.depth] at hd; omega⟩
    simp only [RepC] at hu hv
    simp [Ty.isAgg] at hx hy
    subst hx; subst hy
    simp at hu hv; subst hu; subst hv
    simp only [Ty.eqB, Option.some.injEq] at he
    rw [run_equalIn_int w d t k k u v ht.int, ← he]
    congr 1
  | str =>
    refine ⟨fun t d u v r x y cs ds ht hd he hx hy hu hv => ?_, fun fs off d u v r xs ys hf => by simp [tyF] at hf⟩
    obtain ⟨d, rfl⟩ : ∃ e, d = e + 1 := ⟨d - 1, by simp [Ty.depth] at hd; omega⟩
    simp only [RepC] at hu hv
    simp [Ty.isAgg] at hx hy
    subst hx; subst hy
    simp at hu hv; subst hu; subst hv
    simp only [Ty.eqB, Option.some.injEq] at he
    rw [run_equalIn_string w d t u v ht.str, he]
  | sl t _ => exact ⟨fun _ _ _ _ _ _ _ _ _ _ _ he => by simp [Ty.eqB] at he, fun _ _ _ _ _ _ _ _ _ _ he => by simp [Ty.eqB] at he⟩
  | nil =>
    refine ⟨fun t d u v r x y cs ds ht hd he hx hy hu hv => ?_, fun fs off d u v r xs ys hf hd he _ _ => ?_⟩
    · unfold TyOk at ht; simp [tyF] at ht
    · simp [tyF] at hf
      subst hf
      simp only [Ty.eqB, Option.some.injEq] at he
      subst he
      simp [Op.eqFields]
  | cons h r ihh ihr =>
    have hB : (∀ (fs : List Field) (off d : Nat) (u v : (Ty.cons h r).D) (b : Bool) (xs ys : Array Value), (tyF P (.cons h r)).2 fs off = true → (Ty.cons h r).depth ≤ d + 1 → (Ty.cons h r).eqB u v = some b →
        RepC w N (.cons h r) u (seg xs off (Ty.cons h r).size) → RepC w N (.cons h r) v (seg ys off (Ty.cons h r).size) → (Op.eqFields d xs ys fs).run P w = .ok b w) := by
      intro fs off d u v b xs ys hf hd he hu hv
      simp only [tyF] at hf
      split at hf
      · rename_i f rest
        simp only [Bool.and_eq_true, decide_eq_true_eq] at hf
        obtain ⟨⟨⟨h1, h0, hnm⟩, h2⟩, h3⟩ := hf
        simp only [Ty.eqB] at he
        simp only [Ty.depth] at hd
        simp only [Ty.size] at hu hv
        have hu1 : RepC w N h u.1 (seg xs off h.size) := by
          have := hu.1
          rw [seg, List.take_take, Nat.min_eq_left (by omega)] at this
          exact this
        have hv1 : RepC w N h v.1 (seg ys off h.size) := by
          have := hv.1
          rw [seg, List.take_take, Nat.min_eq_left (by omega)] at this
          exact this
        have hu2 : RepC w N r u.2 (seg xs (off + h.size) r.size) := by
          have := hu.2
          rw [seg, List.drop_take, List.drop_drop, Nat.add_sub_cancel_left] at this
          exact this
        have hv2 : RepC w N r v.2 (seg ys (off + h.size) r.size) := by
          have := hv.2
          rw [seg, List.drop_take, List.drop_drop, Nat.add_sub_cancel_left] at this
          exact this
        cases he1 : Ty.eqB h u.1 v.1 with
        | none => simp [he1] at he
        | some b1 =>
          cases he2 : Ty.eqB r u.2 v.2 with
          | none => simp [he1, he2] at he
          | some b2 =>
            simp only [he1, he2, Option.bind_some, Option.map_some, Option.some.injEq] at he
            obtain ⟨p, hp1, hp2⟩ := run_part (t := f.type) h2 w hu1
            obtain ⟨q, hq1, hq2⟩ := run_part (t := f.type) h2 w hv1
            have hA := ihh.1 f.type d u.1 v.1 b1 p q _ _ h2 (by omega) he1 hp2 hq2 hu1 hv1
            have hR := ihr.2 rest (off + h.size) d u.2 v.2 b2 xs ys h3 (by omega) he2 hu2 hv2
            subst h1
            simp only [Op.eqFields, hnm, ne_eq, not_false_eq_true, if_true, Sem.run_bind, hp1, hq1, hA, Result.andThen_ok, Sem.run_ite, hR, Sem.run_pure]
            subst he
            cases b1 <;> simp
      · cases hf
    refine ⟨fun t d u v b x y cs ds ht hd he hx hy hu hv => ?_, hB⟩
    obtain ⟨d, rfl⟩ : ∃ e, d = e + 1 := ⟨d - 1, by simp [Ty.depth] at hd; omega⟩
    obtain ⟨fs, hfs, hF, hsi, _⟩ := part_struct ht
    simp [Ty.isAgg] at hx hy
    subst hx; subst hy
    have hft : P.fieldsOf t = fs := by simp [Program.fieldsOf, hfs]
    rw [run_equalIn_struct w d t _ _ (by rw [hft]; exact hfs) hsi, hft]
    have e1 : seg cs.toArray 0 (Ty.cons h r).size = cs := by simp only [seg, List.drop_zero]; exact List.take_of_length_le (by rw [hu.length]; exact Nat.le_refl _)
    have e2 : seg ds.toArray 0 (Ty.cons h r).size = ds := by simp only [seg, List.drop_zero]; exact List.take_of_length_le (by rw [hv.length]; exact Nat.le_refl _)
    exact hB fs.toList 0 d u v b _ _ hF (by omega) he (by rw [e1]; exact hu) (by rw [e2]; exact hv)

theorem eql_rep {P : Program} {c : Cx} {t : TypeId} {τ : Ty} (pos : Bool) (hτ : TyOk P τ t) {x y : AV} {p q : Value} {u w : τ.D} {r : Bool} {ox oy : Operand} (hx : Rep3 c x p) (hy : Rep3 c y q) (ha : asD τ x = some u) (hb : asD τ y = some w) (hr : τ.eqB u w = some r) :
    ∃ z, (eqGuard (if pos then .eql else .neq) t ox oy p q).run P c.w = .ok () c.w ∧ (binOp (if pos then .eql else .neq) t p q).run P c.w = .ok z c.w ∧ Rep3 c (.d .bool (if pos then r else !r)) z := by
  obtain ⟨cs, h1, h2⟩ := asD_rep hx ha
  obtain ⟨ds, h3, h4⟩ := asD_rep hy hb
  have hd : τ.depth ≤ 10000 := by obtain ⟨_, _, _, _, _, _, _, hd⟩ := hτ.info; omega
  have he := (eqB_rep (P := P) c.w (N := c.N) τ).1 t 10000 u w r p q cs ds hτ hd hr h1 h3 h2 h4
  cases τ with
  | sl a => simp [Ty.eqB] at hr
  | nil => unfold TyOk at hτ; simp [tyF] at hτ
  | cons h' r' =>
    obtain ⟨fs, _, _, _, hg⟩ := part_struct hτ
    simp [VC, Ty.isAgg] at h1 h3
    subst h1; subst h3
    refine ⟨.bool (if pos then r else !r), run_eqGuard_agg c.w _ t ox oy _ _ hg, ?_, rep_bool c _⟩
    cases pos
    · simp only [Bool.false_eq_true, if_false]; rw [run_neq_struct, he]; rfl
    · simp only [if_true]; rw [run_eql_struct, he]; rfl
  | bool =>
    simp only [RepC] at h2 h4
    simp [VC, Ty.isAgg] at h1 h3
    subst h1; subst h3
    simp at h2 h4; subst h2; subst h4
    refine ⟨.bool (if pos then r else !r), by rw [eqGuard_at_bool]; rfl, ?_, rep_bool c _⟩
    cases pos
    · simp only [Bool.false_eq_true, if_false, binOp]; simp [Op.equal, Op.maxDepth, he]
    · simp only [if_true, binOp]; simp [Op.equal, Op.maxDepth, he]
  | int k =>
    simp only [RepC] at h2 h4
    simp [VC, Ty.isAgg] at h1 h3
    subst h1; subst h3
    simp at h2 h4; subst h2; subst h4
    simp only [Ty.eqB, Option.some.injEq] at hr
    refine ⟨.bool (if pos then r else !r), by rw [eqGuard_at_int]; rfl, ?_, rep_bool c _⟩
    subst hr
    cases pos
    · simp [binOp, Op.intCmp]; rfl
    · simp [binOp, Op.intCmp]; rfl
  | str =>
    simp only [RepC] at h2 h4
    simp [VC, Ty.isAgg] at h1 h3
    subst h1; subst h3
    simp at h2 h4; subst h2; subst h4
    simp only [Ty.eqB, Option.some.injEq] at hr
    refine ⟨.bool (if pos then r else !r), by rw [eqGuard_at_string]; rfl, ?_, rep_bool c _⟩
    subst hr
    cases pos
    · simp [binOp, Op.stringOp]
    · simp [binOp, Op.stringOp]

theorem binOpV_rep {P : Program} {T : Tab} (hT : TabOk P T) {c : Cx} (op : BinOp) (t : TypeId) {x y : AV} {p q : Value} {v : AV} {ox oy : Operand} (h : binOpV T op t x y = some v) (hx : Rep3 c x p) (hy : Rep3 c y q) :
    ∃ z, (eqGuard op t ox oy p q).run P c.w = .ok () c.w ∧ (binOp op t p q).run P c.w = .ok z c.w ∧ Rep3 c v z := by
  unfold binOpV at h
  split at h
  · obtain rfl := hx.int
    obtain rfl := hy.int
    split at h
    · cases h
    · rename_i h0
      simp only [Option.some.injEq] at h
      subst h
      exact ⟨_, by rw [eqGuard_at_int]; rfl, by simp [binOp, Op.shift, h0], rep_int c _ _⟩
  · obtain rfl := hx.int
    obtain rfl := hy.int
    split at h
    · cases h
    · rename_i h0
      simp only [Option.some.injEq] at h
      subst h
      exact ⟨_, by rw [eqGuard_at_int]; rfl, by simp [binOp, Op.shift, h0], rep_int c _ _⟩
  · obtain rfl := hx.int
    obtain rfl := hy.int
    split at h
    · rename_i h0
      subst h0
      obtain ⟨z, h1, h2⟩ := bin_rep (P := P) c op t _ _ _ h
      exact ⟨z, by rw [eqGuard_at_int]; rfl, h1, h2⟩
    · cases h
  · obtain rfl := hx.str
    obtain rfl := hy.str
    obtain ⟨z, h1, h2⟩ := binS_rep (P := P) c op t _ _ h
    exact ⟨z, by rw [eqGuard_at_string]; rfl, h1, h2⟩
  · cases hτ : T.ty t with
    | none => simp [hτ] at h
    | some τ =>
      cases ha : asD τ x with
      | none => simp [hτ, ha] at h
      | some u =>
        cases hb : asD τ y with
        | none => simp [hτ, ha, hb] at h
        | some w =>
          cases hr : τ.eqB u w with
          | none => simp [hτ, ha, hb, hr] at h
          | some r =>
            simp only [hτ, ha, hb, hr, Option.bind_some, Option.map_some, Option.some.injEq] at h
            subst h
            obtain ⟨z, h1, h2, h3⟩ := eql_rep (P := P) (c := c) (ox := ox) (oy := oy) true (hT t τ hτ) hx hy ha hb hr
            exact ⟨z, h1, h2, h3⟩
  · cases hτ : T.ty t with
    | none => simp [hτ] at h
    | some τ =>
      cases ha : asD τ x with
      | none => simp [hτ, ha] at h
      | some u =>
        cases hb : asD τ y with
        | none => simp [hτ, ha, hb] at h
        | some w =>
          cases hr : τ.eqB u w with
          | none => simp [hτ, ha, hb, hr] at h
          | some r =>
            simp only [hτ, ha, hb, hr, Option.bind_some, Option.map_some, Option.some.injEq] at h
            subst h
            obtain ⟨z, h1, h2, h3⟩ := eql_rep (P := P) (c := c) (ox := ox) (oy := oy) false (hT t τ hτ) hx hy ha hb hr
            exact ⟨z, h1, h2, h3⟩
  · cases h

end Go.Ev

/-
  MORE OPERATIONS THAT LEAVE STORE AND WORLD ALONE.
-/
namespace Go.Ev

section
variable {P : Program} {T : Tab} {c : Cx} {a : Act} {e : Env}

theorem loadV_rep (hi : Inv c) {τ : Ty} {t : TypeId} (hτ : TyOk P τ t) {p : AV} {x : Value} {v : AV} (hr : Rep3 c p x) (h : loadV c.s τ p = some v) :
    ∃ y, (Instr.loadAt t x).run P c.w = .ok y c.w ∧ Rep3 c v y := by
  -- the cells of the part that is read
  have fin : ∀ (b o : Nat) (cs : Array Value) (ty : TypeId) (fr : Nat × Nat), x = .pointer (some ⟨b, o, none⟩) → c.w.heap[b]? = some (.cells cs ty fr) → o + τ.size ≤ cs.size →
      (τ.isAgg = true → Rep3 c v (.agg (seg cs o τ.size).toArray)) → (τ.isAgg = false → ∃ y, seg cs o τ.size = [y] ∧ Rep3 c v y) →
      ∃ y, (Instr.loadAt t x).run P c.w = .ok y c.w ∧ Rep3 c v y := by
    intro b o cs ty fr hx hb hl h1 h2
    subst hx
    have hcell : ∀ j y, (seg cs o τ.size)[j]? = some y → c.w.cell? ((⟨b, o, none⟩ : Addr).add j) = some y := fun j y hy => by
      rw [Addr.add_lit]
      have hj : j < τ.size := by
        have := (List.getElem?_eq_some_iff.1 hy).1
        rwa [seg_length hl] at this
      rw [seg_get hj] at hy
      simpa [World.cell?, hb] using hy
    by_cases ha : τ.isAgg = true
    · refine ⟨_, ?_, h1 ha⟩
      have hload := run_loadCells_list (P := P) c.w ⟨b, o, none⟩ (seg cs o τ.size) hcell
      rw [seg_length hl] at hload
      simp [Instr.loadAt, Instr.sureAddr, loadVar, hτ.isAgg, ha, hτ.sizeOf, hload]
    · have ha' : τ.isAgg = false := by simpa using ha
      obtain ⟨y, hy, hv⟩ := h2 ha'
      refine ⟨y, ?_, hv⟩
      have h0 := hcell 0 y (by rw [hy]; rfl)
      rw [Addr.add_zero'] at h0
      simp [Instr.loadAt, Instr.sureAddr, loadVar, hτ.isAgg, ha', h0]
  -- plain data at a place
  have finD : ∀ (b o f : Nat) (cs : Array Value) (ty : TypeId) (fr : Nat × Nat) (A : Ty) (z : A.D) (y : τ.D), x = .pointer (some ⟨b, o + f, none⟩) → c.w.heap[b]? = some (.cells cs ty fr) → o + A.size ≤ cs.size →
      RepC c.w c.N A z (seg cs o A.size) → Ty.get τ A z f = some y → v = .d τ y → ∃ y, (Instr.loadAt t x).run P c.w = .ok y c.w ∧ Rep3 c v y := by
    intro b o f cs ty fr A z y hx hb hl hz hg hv
    obtain ⟨g1, g2⟩ := get_ok τ hz hg
    rw [seg_seg (by omega)] at g2
    subst hv
    refine fin b (o + f) cs ty fr hx hb (by omega) (fun ha => ⟨_, by simp [ha], g2⟩) (fun ha => ?_)
    have hl1 := g2.length
    have hone : τ.size = 1 := by cases τ <;> simp_all [Ty.isAgg, Ty.size]
    match hs : seg cs (o + f) τ.size, hl1 with
    | [u], _ => exact ⟨u, rfl, [u], by simp [ha], by rw [hs] at g2; exact g2⟩
    | [], hl1 => simp [hone] at hl1
    | _ :: _ :: _, hl1 => simp [hone] at hl1
  unfold loadV at h
  split at h
  · rename_i A z f
    cases hg : Ty.get τ A z f with
    | none => simp [hg] at h
    | some y =>
      simp only [hg, Option.map_some, Option.some.injEq] at h
      obtain ⟨b, o, cs, ty, fr, rfl, _, h3, h4, h5⟩ := hr
      exact finD b o f cs ty fr A z y rfl h3 h4 h5 hg h.symm
  · rename_i id i f
    obtain ⟨_, bk, hbk, hr⟩ := hr
    have hB := hi.blk id bk hbk
    split at h
    · rename_i A xs hs
      rw [hs] at hbk
      obtain rfl : _ = bk := by simpa using hbk
      cases hx : xs[i]? with
      | none => simp [hx] at h
      | some z =>
        cases hg : Ty.get τ A z f with
        | none => simp [hx, hg] at h
        | some y =>
          simp only [hx, hg, Option.bind_some, Option.map_some, Option.some.injEq] at h
          obtain ⟨b, cs, k1, rfl, k3⟩ := hr trivial
          have hlt : i < xs.length := (List.getElem?_eq_some_iff.1 hx).1
          have hz : xs[i] = z := (List.getElem?_eq_some_iff.1 hx).2
          rcases hB with rfl | ⟨b', cs', m1, m2, m3⟩
          · simp at hlt
          · obtain ⟨rfl, rfl⟩ := at_eq k1 m1
            have hle : i * A.size + A.size ≤ xs.length * A.size := by
              have := Nat.mul_le_mul_right A.size (show i + 1 ≤ xs.length by omega)
              rw [Nat.add_mul] at this; omega
            exact finD b (i * A.size) f cs _ (0, 0) A z y rfl m1.2.choose_spec (by omega) (by rw [← hz]; exact m3 i hlt) hg h.symm
    · rename_i sz xs hs
      rw [hs] at hbk
      obtain rfl : _ = bk := by simpa using hbk
      cases hx : xs[i]? with
      | none => simp [hx] at h
      | some z =>
        simp only [hx, Option.bind_some] at h
        obtain ⟨b, cs, k1, rfl, k3⟩ := hr trivial
        have hlt : i < xs.length := (List.getElem?_eq_some_iff.1 hx).1
        have hz : xs[i] = z := (List.getElem?_eq_some_iff.1 hx).2
        rcases hB with rfl | ⟨b', cs', m1, m2, m3⟩
        · simp at hlt
        · obtain ⟨rfl, rfl⟩ := at_eq k1 m1
          have hle : i * sz + sz ≤ xs.length * sz := by
            have := Nat.mul_le_mul_right sz (show i + 1 ≤ xs.length by omega)
            rw [Nat.add_mul] at this; omega
          have hz2 := m3 i hlt
          rw [hz] at hz2
          have hcells := (hz2.drop f).take τ.size
          have hlz := hz2.length
          rw [seg_length (by omega)] at hlz
          have hor := ofCells_rep hcells h
          simp only [Blk.sz] at *
          -- the part lies within the element
          have hfit : f + τ.size ≤ sz := by
            have hl := hcells.length
            simp only [List.length_take, List.length_drop, hlz] at hl
            by_cases ha : τ.isAgg = true
            · have := (hor.1 ha).1
              simp only [List.length_take, List.length_drop] at this
              rw [seg_length (by omega)] at this
              have := hτ.pos
              omega
            · obtain ⟨y, hy, _⟩ := hor.2 (by simpa using ha)
              have hl2 := congrArg List.length hy
              simp only [List.length_take, List.length_drop, List.length_cons, List.length_nil] at hl2
              rw [seg_length (by omega)] at hl2
              have h1 : τ.size = 1 := by cases τ <;> simp_all [Ty.isAgg, Ty.size]
              omega
          rw [seg_seg (by omega)] at hor
          refine fin b (i * sz + f) cs _ (0, 0) rfl m1.2.choose_spec (by omega) (fun ha => Rep3_of2 (hor.1 ha).2) (fun ha => ?_)
          obtain ⟨y, h1, h2⟩ := hor.2 ha
          exact ⟨y, h1, Rep3_of2 h2⟩
    · cases h
  · cases h

theorem lenV_rep (hi : Inv c) {v : AV} {n : Nat} {x : Value} (hr : Rep3 c v x) (h : lenV c.s v = some n) : (∃ base cap, x = .slice base n cap ∧ n ≤ cap) ∨ ∃ s, v = .d .str s ∧ x = .string s ∧ s.size = n := by
  unfold lenV at h
  split at h
  · simp only [Option.some.injEq] at h
    obtain ⟨cs, h1, h2⟩ := hr
    simp [Ty.isAgg] at h1
    obtain ⟨base, cap, h3, h4, _⟩ := h2
    rw [h1] at h3
    simp only [List.cons.injEq, and_true] at h3
    subst h3; subst h
    exact .inl ⟨base, cap, rfl, h4⟩
  · simp only [Option.some.injEq] at h
    exact .inr ⟨_, rfl, hr.str, h⟩
  · simp only [Option.some.injEq] at h
    obtain ⟨base, rfl⟩ := hr
    subst h
    exact .inl ⟨base, 0, rfl, Nat.le_refl _⟩
  · rename_i id
    obtain ⟨_, bk, hbk, hr⟩ := hr
    split at h
    · rename_i A xs hs
      rw [hs] at hbk
      obtain rfl : _ = bk := by simpa using hbk
      obtain ⟨base, cap, rfl, k2, k3⟩ := hr trivial
      simp only [Option.some.injEq] at h
      subst h
      exact .inl ⟨base, cap, rfl, by first | exact k2 | exact k3.1⟩
    · rename_i sz xs hs
      rw [hs] at hbk
      obtain rfl : _ = bk := by simpa using hbk
      obtain ⟨base, cap, rfl, k2, k3⟩ := hr trivial
      simp only [Option.some.injEq] at h
      subst h
      exact .inl ⟨base, cap, rfl, by first | exact k2 | exact k3.1⟩
    · rename_i sz xs hs
      rw [hs] at hbk
      obtain rfl : _ = bk := by simpa using hbk
      obtain ⟨base, cap, rfl, k2, k3⟩ := hr trivial
      simp only [Option.some.injEq] at h
      subst h
      exact .inl ⟨base, cap, rfl, by first | exact k2 | exact k3.1⟩
    · cases h
  · rename_i id off len tight
    obtain ⟨_, bk, hbk, hr⟩ := hr
    split at h
    · rename_i A xs hs
      rw [hs] at hbk
      obtain rfl : _ = bk := by simpa using hbk
      obtain ⟨base, cap, rfl, k2, k3⟩ := hr trivial
      simp only [Option.some.injEq] at h
      subst h
      exact .inl ⟨base, cap, rfl, by first | exact k2 | exact k3.1⟩
    · rename_i sz xs hs
      rw [hs] at hbk
      obtain rfl : _ = bk := by simpa using hbk
      obtain ⟨base, cap, rfl, k2, k3⟩ := hr trivial
      simp only [Option.some.injEq] at h
      subst h
      exact .inl ⟨base, cap, rfl, by first | exact k2 | exact k3.1⟩
    · rename_i sz xs hs
      rw [hs] at hbk
      obtain rfl : _ = bk := by simpa using hbk
      obtain ⟨base, cap, rfl, k2, k3⟩ := hr trivial
      simp only [Option.some.injEq] at h
      subst h
      exact .inl ⟨base, cap, rfl, by first | exact k2 | exact k3.1⟩
    · cases h
  · cases h

/-- a number as a bound of a slice expression -/
theorem run_bound (k : IntKind) (n y : Nat) (code : BoundsCode) (h : n ≤ y) (w : World) : (Instr.sliceBound (.int k (n : Int)) y code).run P w = .ok n w := by
  unfold Instr.sliceBound
  simp only [asIntOf, Sem.run_bind, Sem.run_pure, Result.andThen_ok]
  rw [if_pos ⟨by omega, by omega⟩]
  simp

/-- the bounds of a slice expression without a third one -/
theorem run_bounds (sl : Bool) (len cap : Nat) (lo hi : Option Value) (l h : Option Nat) (w : World)
    (hl : (lo = none ∧ l = none) ∨ ∃ k n, lo = some (.int k ((n : Nat) : Int)) ∧ l = some n) (hh : (hi = none ∧ h = none) ∨ ∃ k n, hi = some (.int k ((n : Nat) : Int)) ∧ h = some n)
    (h1 : l.getD 0 ≤ h.getD len) (h2 : h.getD len ≤ cap) : (Instr.sliceBounds sl len cap lo hi none).run P w = .ok (l.getD 0, h.getD len, cap) w := by
  unfold Instr.sliceBounds
  rcases hl with ⟨rfl, rfl⟩ | ⟨k, n, rfl, rfl⟩ <;> rcases hh with ⟨rfl, rfl⟩ | ⟨k', n', rfl, rfl⟩
  · simp
  · simp only [Option.getD_some] at h1 h2
    simp [run_bound (P := P) k' n' cap _ h2]
  · simp only [Option.getD_some, Option.getD_none] at h1 h2
    simp [run_bound (P := P) k n len _ h1]
  · simp only [Option.getD_some] at h1 h2
    simp [run_bound (P := P) k' n' cap _ h2, run_bound (P := P) k n n' _ h1]

theorem bndV_rep {o : Option AV} {x : Option Value} {l : Option Nat} (h : bndV o = some l) (hr : ∀ v, o = some v → ∃ y, x = some y ∧ Rep3 c v y) (hn : o = none → x = none) :
    (x = none ∧ l = none) ∨ ∃ k n, x = some (.int k ((n : Nat) : Int)) ∧ l = some n := by
  cases o with
  | none => simp only [bndV, Option.some.injEq] at h; exact .inl ⟨hn rfl, h.symm⟩
  | some v =>
    simp only [bndV] at h
    cases h1 : asN v with
    | none => simp [h1] at h
    | some n =>
      simp only [h1, Option.map_some, Option.some.injEq] at h
      obtain ⟨y, rfl, hy⟩ := hr v rfl
      obtain ⟨k, rfl⟩ := asN_rep h1 hy
      exact .inr ⟨k, n, rfl, h.symm⟩

/-- what is left of a slice of plain data behind l elements -/
theorem cut_rep {w : World} {N : Nat → Prop} {t : Ty} {xs : List t.D} {base : Option Addr} {len cap l n : Nat} (hr : RepC w N (.sl t) xs [.slice base len cap]) (hn : l + n ≤ xs.length) :
    RepC w N (.sl t) ((xs.drop l).take n) [.slice (if cap = l then base else base.map (·.add (l * t.size))) n (cap - l)] := by
  obtain ⟨base', cap', h1, h2, h3⟩ := hr
  simp only [List.cons.injEq, Value.slice.injEq, and_true] at h1
  obtain ⟨rfl, rfl, rfl⟩ := h1
  have hlen : ((xs.drop l).take n).length = n := by simp; omega
  refine ⟨_, _, by rw [hlen], by omega, fun hne => ?_⟩
  have hpos : 0 < n := by rw [← hlen]; exact List.length_pos_iff.2 hne
  obtain ⟨b, o, c, ty, fr, rfl, k2, k3, k4, k5⟩ := h3 (by intro e; subst e; simp at hn; omega)
  refine ⟨b, o + l * t.size, c, ty, fr, ?_, k2, k3, ?_, fun i hi => ?_⟩
  · rw [if_neg (by omega)]
    simp [Addr.add_lit]
  · rw [hlen, Nat.add_assoc, ← Nat.add_mul]
    have := Nat.mul_le_mul_right t.size hn
    omega
  · have := k5 (l + i) (by omega)
    rw [Nat.add_mul, ← Nat.add_assoc] at this
    simpa using this

/-- the same with less room behind it -/
theorem cut_shrink {w : World} {N : Nat → Prop} {t : Ty} {xs : List t.D} {base : Option Addr} {len cap l n m : Nat} (hr : RepC w N (.sl t) xs [.slice base len cap]) (hn : l + n ≤ xs.length) (hm : l + n ≤ m) (hmc : m ≤ cap) :
    RepC w N (.sl t) ((xs.drop l).take n) [.slice (if m = l then base else base.map (·.add (l * t.size))) n (m - l)] := by
  have hq := cut_rep hr hn
  have hlen : ((xs.drop l).take n).length = n := by simp; omega
  obtain ⟨base', cap', h1, h2, h3⟩ := hq
  simp only [List.cons.injEq, Value.slice.injEq, and_true] at h1
  obtain ⟨rfl, _, rfl⟩ := h1
  refine ⟨_, _, by rw [hlen], by omega, fun hne => ?_⟩
  have hpos : 0 < n := by rw [← hlen]; exact List.length_pos_iff.2 hne
  have := h3 hne
  rw [if_neg (by omega)] at this ⊢
  exact this

theorem slice_of_bounds {t elem : TypeId} {a : Ty} (hu : P.underlying t = some (.slice elem)) (he : TyOk P a elem) (base : Option Addr) (len cap : Nat) (lo hi : Option Value) (l h : Nat) (w : World)
    (hb : (Instr.sliceBounds true len cap lo hi none).run P w = .ok (l, h, cap) w) :
    (Instr.sliceAt t (.slice base len cap) lo hi none).run P w = .ok (.slice (if cap = l then base else base.map (·.add (l * a.size))) (h - l) (cap - l)) w := by
  simp only [Instr.sliceAt, Instr.slice, Sem.run_bind, run_underlying hu, Result.andThen_ok, hb, he.sizeOf, Sem.run_pure]

theorem cutV_rep {mu : Bool} (hi : Inv c) {τ : Ty} {t : TypeId} (hτ : TyOk P τ t) {v : AV} {x : Value} {lo hi' mx : Option AV} {xl xh xm : Option Value} {u : AV} (hr : Rep3 c v x)
    (h1 : ∀ v, lo = some v → ∃ y, xl = some y ∧ Rep3 c v y) (h1n : lo = none → xl = none)
    (h2 : ∀ v, hi' = some v → ∃ y, xh = some y ∧ Rep3 c v y) (h2n : hi' = none → xh = none)
    (h3 : ∀ v, mx = some v → ∃ y, xm = some y ∧ Rep3 c v y) (h3n : mx = none → xm = none)
    (h : cutV mu τ c.s v lo hi' mx = some u) : ∃ y, (Instr.sliceAt t x xl xh xm).run P c.w = .ok y c.w ∧ Rep3 c u y := by
  unfold cutV at h
  cases hl : bndV lo with
  | none => simp [hl] at h
  | some l =>
  cases hh : bndV hi' with
  | none => simp [hl, hh] at h
  | some hb =>
  cases hm : bndV mx with
  | none => simp [hl, hh, hm] at h
  | some m =>
  simp only [hl, hh, hm, Option.bind_some] at h
  have bl := bndV_rep hl h1 h1n
  have bh := bndV_rep hh h2 h2n
  have bm := bndV_rep hm h3 h3n
  split at h
  · -- a string
    have hx : xm = none := by rcases bm with ⟨e, _⟩ | ⟨_, _, _, e⟩; exact e; cases e
    subst hx
    split at h
    · rename_i s
      obtain rfl := hr.str
      split at h
      · rename_i hc
        simp only [Option.some.injEq] at h
        subst h
        refine ⟨.string (s.extract (l.getD 0) (hb.getD s.size)), ?_, rep_str c _⟩
        simp only [Instr.sliceAt, Instr.slice, Sem.run_bind, run_underlying hτ.str, Result.andThen_ok]
        simp [run_bounds (P := P) false s.size s.size xl xh l hb c.w bl bh hc.1 hc.2]
      · cases h
    · cases h
  · -- a slice
    rename_i a
    have hx : xm = none := by rcases bm with ⟨e, _⟩ | ⟨_, _, _, e⟩; exact e; cases e
    subst hx
    obtain ⟨elem, hu, he, _⟩ := hτ.sl
    unfold cutS at h
    split at h
    · -- plain data
      rename_i b xs
      split at h
      · rename_i hab
        subst hab
        obtain ⟨cs, k1, k2⟩ := hr
        simp [Ty.isAgg] at k1
        subst k1
        have k2' := k2
        obtain ⟨base, cap, k3, k4, _⟩ := k2'
        simp only [List.cons.injEq, and_true] at k3
        subst k3
        have go : ∀ (L H : Nat), l.getD 0 = L → hb.getD xs.length = H → L ≤ H → H ≤ xs.length → u = .d (.sl a) ((xs.drop L).take (H - L)) →
            ∃ y, (Instr.sliceAt t (.slice base xs.length cap) xl xh none).run P c.w = .ok y c.w ∧ Rep3 c u y := by
          intro L H e1 e2 e3 e4 e5
          subst e1; subst e2
          have hrun := slice_of_bounds (P := P) hu he base xs.length cap xl xh _ _ c.w (run_bounds (P := P) true xs.length cap xl xh l hb c.w bl bh e3 (by omega))
          refine ⟨_, hrun, ?_⟩
          rw [e5]
          refine ⟨_, by simp [Ty.isAgg], cut_rep k2 (by omega)⟩
        rcases l with _ | l <;> rcases hb with _ | hb
        · simp only [Option.some.injEq] at h
          exact go 0 xs.length rfl rfl (by omega) (by omega) (by rw [← h]; simp)
        · simp only at h
          split at h
          · rename_i hc
            simp only [Option.some.injEq] at h
            exact go 0 hb rfl rfl (by omega) hc (by rw [← h]; simp)
          · cases h
        · simp only at h
          split at h
          · rename_i hc
            simp only [Option.some.injEq] at h
            exact go l xs.length rfl rfl hc (by omega) (by rw [← h]; congr 1; exact (List.take_of_length_le (by simp)).symm)
          · cases h
        · simp only at h
          split at h
          · rename_i hc
            simp only [Option.some.injEq] at h
            exact go l hb rfl rfl hc.1 hc.2 (by rw [← h]; congr 1; exact List.drop_take)
          · cases h
      · cases h
    · -- nothing
      rename_i b
      split at h
      · rename_i hc
        simp only [Option.some.injEq] at h
        subst h
        obtain ⟨base, rfl⟩ := hr
        have hrun := slice_of_bounds (P := P) hu he base 0 0 xl xh _ _ c.w (run_bounds (P := P) true 0 0 xl xh l hb c.w bl bh (by omega) (by omega))
        refine ⟨_, hrun, ?_⟩
        rw [hc.1, hc.2]
        exact ⟨_, rfl⟩
      · cases h
    · -- a whole block
      rename_i id
      split at h
      · rename_i hok
        cases hn : lenV c.s (.all id) with
        | none => simp [hn] at h
        | some n =>
          simp only [hn, Option.bind_some] at h
          split at h
          · rename_i hc
            simp only [Option.some.injEq] at h
            subst h
            obtain ⟨h0, bk, hbk, hr⟩ := hr
            have hlive : bk.live ∧ bk.len = n ∧ bk.sz = a.size := by
              unfold lenV at hn
              unfold okSz at hok
              simp only [hbk] at hn hok
              cases bk <;> simp_all [Blk.live, Blk.len, Blk.sz]
            obtain ⟨base, cap, rfl, k2, k3⟩ := hr hlive.1
            rw [hlive.2.1] at k2
            rw [hlive.2.1]
            have hrun := slice_of_bounds (P := P) hu he base n cap xl xh _ _ c.w (run_bounds (P := P) true n cap xl xh l hb c.w bl bh hc.1 (by omega))
            refine ⟨_, hrun, rfl, bk, hbk, fun _ => ⟨_, _, rfl, by omega, by omega, (fun _ hf => by cases hf), (fun _ => by omega), fun hcap => ?_⟩⟩
            obtain ⟨b, cs, m1, m2, m3⟩ := k3 (by omega)
            refine ⟨b, cs, m1, ?_, ?_⟩
            · rw [if_neg (by omega), m2]
              simp [Addr.add_lit, hlive.2.2]
            · rw [show l.getD 0 + (cap - l.getD 0) = cap by omega]; exact m3
          · cases h
      · cases h
    · -- a part of a block
      rename_i id off len tight
      split at h
      · rename_i hok
        cases hn : lenV c.s (.all id) with
        | none => simp [hn] at h
        | some n =>
          simp only [hn, Option.bind_some] at h
          obtain ⟨h0, bk, hbk, hr⟩ := hr
          have hlive : bk.live ∧ bk.len = n ∧ bk.sz = a.size := by
            unfold lenV at hn
            unfold okSz at hok
            simp only [hbk] at hn hok
            cases bk <;> simp_all [Blk.live, Blk.len, Blk.sz]
          obtain ⟨base, cap, rfl, k1, k2, k3, k4, k5⟩ := hr hlive.1
          split at h
          · split at h
            · rename_i hc
              simp only [Option.some.injEq] at h
              subst h
              have hrun := slice_of_bounds (P := P) hu he base len cap xl xh _ _ c.w (run_bounds (P := P) true len cap xl xh l none c.w bl bh (by simpa using hc) (by simpa using k2))
              refine ⟨_, hrun, rfl, bk, hbk, fun _ => ⟨_, _, rfl, by omega, by first | omega | (simp only [Option.getD_none]; omega), fun q hf => ?_, fun hf => ?_, fun hcap => ?_⟩⟩
              · cases tight with
                | none => cases hf
                | some q => have := k3 q rfl; simp only [Option.map_some, Option.some.injEq] at hf; omega
              · cases tight with
                | none => have := k4 rfl; omega
                | some q => cases hf
              · obtain ⟨b, cs, m1, m2, m3⟩ := k5 (by omega)
                refine ⟨b, cs, m1, ?_, ?_⟩
                · rw [if_neg (by omega), m2]
                  simp [Addr.add_lit, hlive.2.2, Nat.add_mul]
                · rw [show off + l.getD 0 + (cap - l.getD 0) = off + cap by omega]; exact m3
            · cases h
          · rename_i h'
            split at h
            · rename_i q
              split at h
              · rename_i hc
                simp only [Option.some.injEq] at h
                subst h
                have hcap := k3 q rfl
                have hrun := slice_of_bounds (P := P) hu he base len cap xl xh _ _ c.w (run_bounds (P := P) true len cap xl xh l (some h') c.w bl bh hc.1 (by simp only [Option.getD_some]; omega))
                refine ⟨_, hrun, rfl, bk, hbk, fun _ => ⟨_, _, rfl, by omega, by first | omega | (simp only [Option.getD_some]; omega), (fun q' hf => by cases hf; omega), (fun hf => by cases hf), fun hcap => ?_⟩⟩
                obtain ⟨b, cs, m1, m2, m3⟩ := k5 (by omega)
                refine ⟨b, cs, m1, ?_, ?_⟩
                · rw [if_neg (by omega), m2]
                  simp [Addr.add_lit, hlive.2.2, Nat.add_mul]
                · rw [show off + l.getD 0 + (cap - l.getD 0) = off + cap by omega]; exact m3
              · cases h
            · split at h
              · rename_i hc
                simp only [Option.some.injEq] at h
                subst h
                have hcap := k4 rfl
                have hrun := slice_of_bounds (P := P) hu he base len cap xl xh _ _ c.w (run_bounds (P := P) true len cap xl xh l (some h') c.w bl bh hc.1 (by simp only [Option.getD_some]; omega))
                refine ⟨_, hrun, rfl, bk, hbk, fun _ => ⟨_, _, rfl, by omega, by first | omega | (simp only [Option.getD_some]; omega), (fun q' hf => by cases hf), (fun hf => by omega), fun hcap => ?_⟩⟩
                obtain ⟨b, cs, m1, m2, m3⟩ := k5 (by omega)
                refine ⟨b, cs, m1, ?_, ?_⟩
                · rw [if_neg (by omega), m2]
                  simp [Addr.add_lit, hlive.2.2, Nat.add_mul]
                · rw [show off + l.getD 0 + (cap - l.getD 0) = off + cap by omega]; exact m3
              · cases h
      · cases h
    · cases h
  · -- with a third bound: only that it does not panic
    rename_i a m
    obtain ⟨elem, hu, he, _⟩ := hτ.sl
    cases hs : lenSl c.s v with
    | none => simp [hs] at h
    | some n =>
    simp only [hs, Option.bind_some] at h
    have hns : lenV c.s v = some n ∧ (∀ y, v ≠ .d .str y) := by
      unfold lenSl at hs
      split at hs
      · cases hs
      · rename_i hne
        exact ⟨hs, fun y e => hne y e⟩
    obtain ⟨hn, hne⟩ := hns
    split at h
    · rename_i h'
      split at h
      · rename_i hc
        rcases lenV_rep hi hr hn with ⟨base, cap, rfl, hcap⟩ | ⟨s, e, _⟩
        · obtain ⟨k, m', rfl, e⟩ : ∃ k m', xm = some (.int k ((m' : Nat) : Int)) ∧ some m = some m' := by
            rcases bm with ⟨_, e⟩ | e
            · cases e
            · exact e
          simp only [Option.some.injEq] at e
          subst e
          obtain ⟨k', h'', rfl, e⟩ : ∃ k n, xh = some (.int k ((n : Nat) : Int)) ∧ some h' = some n := by
            rcases bh with ⟨_, e⟩ | e
            · cases e
            · exact e
          simp only [Option.some.injEq] at e
          subst e
          have hb' : (Instr.sliceBounds true n cap xl (some (.int k' (h' : Int))) (some (.int k (m : Int)))).run P c.w = .ok (l.getD 0, h', m) c.w := by
            unfold Instr.sliceBounds
            rcases bl with ⟨rfl, rfl⟩ | ⟨k2, n2, rfl, rfl⟩
            · simp [run_bound (P := P) k m cap _ (by omega), run_bound (P := P) k' h' m _ (by omega)]
            · simp only [Option.getD_some] at hc
              simp [run_bound (P := P) k m cap _ (by omega), run_bound (P := P) k' h' m _ (by omega), run_bound (P := P) k2 n2 h' _ hc.1]
          refine ⟨.slice (if m = l.getD 0 then base else base.map (·.add (l.getD 0 * a.size))) (h' - l.getD 0) (m - l.getD 0), ?_, ?_⟩
          · simp only [Instr.sliceAt, Instr.slice, Sem.run_bind, run_underlying hu, Result.andThen_ok, hb', he.sizeOf, Sem.run_pure]
          · unfold cut3 at h
            split at h
            · rename_i b xs
              split at h
              · rename_i hab
                subst hab
                simp only [Option.some.injEq] at h
                subst h
                obtain ⟨cs, q1, q2⟩ := hr
                simp only [Ty.isAgg, Bool.false_eq_true, if_false] at q1
                subst q1
                have hlen : n = xs.length := by
                  simp only [lenV, Option.some.injEq] at hn
                  exact hn.symm
                subst hlen
                refine ⟨_, by simp only [Ty.isAgg, Bool.false_eq_true, if_false]; rfl, ?_⟩
                have hq := cut_rep (l := l.getD 0) (n := h' - l.getD 0) q2 (by omega)
                have e1 : (xs.take h').drop (l.getD 0) = (xs.drop (l.getD 0)).take (h' - l.getD 0) := List.drop_take
                rw [e1]
                have hcap' := cut_shrink (cap := cap) (m := m) q2 (l := l.getD 0) (n := h' - l.getD 0) (by omega) (by omega) (by omega)
                exact hcap'
              · cases h
            · rename_i id
              split at h
              · split at h
                · rename_i hl0
                  simp only [Option.some.injEq] at h
                  subst h
                  obtain ⟨h0, bk, hbk, hr⟩ := hr
                  refine ⟨rfl, bk, hbk, fun hlv => ?_⟩
                  obtain ⟨base', cap', e1, e2, e3⟩ := hr hlv
                  simp only [Value.slice.injEq] at e1
                  obtain ⟨rfl, rfl, rfl⟩ := e1
                  have q1 := hl0.1
                  have q2 := hl0.2
                  refine ⟨if m = l.getD 0 then base else base.map (·.add (l.getD 0 * a.size)), m - l.getD 0, by rw [q1, q2, Nat.sub_zero], by omega, fun hm => ?_⟩
                  obtain ⟨b, cs, f1, f2, f3⟩ := e3 (by omega)
                  refine ⟨b, cs, f1, ?_, Nat.le_trans (Nat.mul_le_mul_right _ (by omega)) f3⟩
                  rw [if_neg (by omega), f2, q1]
                  simp [Addr.add_lit]
                · cases h
              · simp only [Option.some.injEq] at h
                subst h
                trivial
            · rename_i id off ln tg
              split at h
              · split at h
                · rename_i hl0
                  simp only [Option.some.injEq] at h
                  subst h
                  obtain ⟨h0, bk, hbk, hr⟩ := hr
                  refine ⟨rfl, bk, hbk, fun hlv => ?_⟩
                  obtain ⟨base', cap', e1, e2, e3, e4, e5, e6⟩ := hr hlv
                  simp only [Value.slice.injEq] at e1
                  obtain ⟨rfl, rfl, rfl⟩ := e1
                  have q1 := hl0.1
                  have q2 := hl0.2
                  refine ⟨if m = l.getD 0 then base else base.map (·.add (l.getD 0 * a.size)), m - l.getD 0, by rw [q1, Nat.sub_zero], by omega, by omega, (fun _ hf => by cases hf; omega), (fun hf => by cases hf), fun hm => ?_⟩
                  obtain ⟨b, cs, f1, f2, f3⟩ := e6 (by omega)
                  refine ⟨b, cs, f1, ?_, Nat.le_trans (Nat.mul_le_mul_right _ (by omega)) f3⟩
                  rw [if_neg (by omega), f2, q1]
                  simp [Addr.add_lit]
                · cases h
              · simp only [Option.some.injEq] at h
                subst h
                trivial
            · simp only [Option.some.injEq] at h
              subst h
              trivial
        · exact absurd e (hne s)
      · cases h
    · cases h
  · cases h

end
end Go.Ev

/-
  ADDRESSES, FIELDS, STRUCT VALUES.
-/
namespace Go.Ev

section
variable {P : Program} {T : Tab} {c : Cx}

theorem run_indexAt {t elem : TypeId} {a : Ty} (hu : P.underlying t = some (.slice elem)) (he : TyOk P a elem) (b : Addr) (len cap n : Nat) (k : IntKind) (h : n < len) (w : World) :
    (Instr.indexAt t (.slice (some b) len cap) (.int k (n : Int))).run P w = .ok (.pointer (some (b.add (n * a.size)))) w := by
  unfold Instr.indexAt
  simp only [asIntOf, Sem.run_bind, Sem.run_pure, Result.andThen_ok, run_underlying hu]
  rw [if_pos ⟨by omega, by omega⟩]
  simp [he.sizeOf]

theorem elemPtr_rep (hi : Inv c) {a : Ty} {t : TypeId} (hτ : TyOk P (.sl a) t) {v : AV} {x y : Value} {n : Nat} {k : IntKind} {u : AV} (hr : Rep3 c v x) (hy : y = .int k (n : Int))
    (hok : eltOk c.s a v = true)
    (h : elemPtr c.s v n = some u) : ∃ z, (Instr.indexAt t x y).run P c.w = .ok z c.w ∧ Rep3 c u z := by
  subst hy
  obtain ⟨elem, hu, he, h0⟩ := hτ.sl
  have hlive : ∀ id, okSz c.s id a.size = true → ∃ bk, c.s[id]? = some bk ∧ bk.live ∧ bk.sz = a.size ∧ lenV c.s (.all id) = some bk.len := by
    intro id hok
    unfold okSz at hok
    unfold lenV
    cases hb : c.s[id]? with
    | none => simp [hb] at hok
    | some bk => cases bk <;> simp_all [Blk.live, Blk.sz, Blk.len]
  have hv : (∃ xs : List a.D, v = .d (.sl a) xs) ∨ (∃ id, v = .all id ∧ okSz c.s id a.size = true) ∨ (∃ id off len ti, v = .ref id off len ti ∧ okSz c.s id a.size = true) := by
    unfold eltOk at hok
    split at hok
    · rename_i b xs
      obtain rfl : a = b := by simpa using hok
      exact .inl ⟨xs, rfl⟩
    · exact .inr (.inl ⟨_, rfl, hok⟩)
    · exact .inr (.inr ⟨_, _, _, _, rfl, hok⟩)
    · cases hok
  clear hok
  rcases hv with ⟨xs, rfl⟩ | ⟨id, rfl, hok⟩ | ⟨id, off, len, ti, rfl, hok⟩
  · simp only [elemPtr] at h
    cases hx : xs[n]? with
    | none => simp [hx] at h
    | some z =>
      simp only [hx, Option.map_some, Option.some.injEq] at h
      subst h
      have hlt : n < xs.length := (List.getElem?_eq_some_iff.1 hx).1
      have hz : xs[n] = z := (List.getElem?_eq_some_iff.1 hx).2
      obtain ⟨cs, k1, base, cap, k2, k3, k4⟩ := hr
      simp [Ty.isAgg] at k1
      subst k1
      simp only [List.cons.injEq, and_true] at k2
      subst k2
      obtain ⟨b, o, cs, ty, fr, rfl, m2, m3, m4, m5⟩ := k4 (by intro e; subst e; simp at hlt)
      refine ⟨_, run_indexAt hu he _ _ _ n k hlt c.w, b, o + n * a.size, cs, ty, fr, by simp [Addr.add_lit], m2, m3, ?_, by rw [← hz]; exact m5 n hlt⟩
      have := Nat.mul_le_mul_right a.size (show n + 1 ≤ xs.length by omega)
      rw [Nat.add_mul] at this
      omega
  · obtain ⟨bk, hbk, hl, hsz, hn⟩ := hlive id hok
    simp only [elemPtr, hn, Option.bind_some] at h
    split at h
    · rename_i hlt
      simp only [Option.some.injEq] at h
      subst h
      obtain ⟨_, bk', hbk', hr⟩ := hr
      obtain rfl : bk' = bk := by rw [hbk] at hbk'; simpa using hbk'.symm
      obtain ⟨base, cap, rfl, k2, k3⟩ := hr hl
      obtain ⟨b, cs, m1, rfl, m3⟩ := k3 (by omega)
      refine ⟨_, run_indexAt hu he _ _ _ n k hlt c.w, rfl, bk', hbk, fun _ => ⟨b, cs, m1, ?_, hlt⟩⟩
      simp [Addr.add_lit, hsz]
    · cases h
  · obtain ⟨bk, hbk, hl, hsz, hn⟩ := hlive id hok
    simp only [elemPtr] at h
    split at h
    · rename_i hlt
      simp only [Option.some.injEq] at h
      subst h
      obtain ⟨_, bk', hbk', hr⟩ := hr
      obtain rfl : bk' = bk := by rw [hbk] at hbk'; simpa using hbk'.symm
      obtain ⟨base, cap, rfl, k1, k2, _, _, k3⟩ := hr hl
      obtain ⟨b, cs, m1, rfl, m3⟩ := k3 (by omega)
      refine ⟨_, run_indexAt hu he _ _ _ n k hlt c.w, rfl, bk', hbk, fun _ => ⟨b, cs, m1, ?_, by omega⟩⟩
      simp [Addr.add_lit, hsz, Nat.add_mul]
    · cases h

theorem partPtr_rep {v u : AV} {x : Value} {o : Nat} (hr : Rep3 c v x) (h : partPtr c.s o v = some u) : ∃ b off, x = .pointer (some ⟨b, off, none⟩) ∧ Rep3 c u (.pointer (some ⟨b, off + o, none⟩)) := by
  unfold partPtr at h
  split at h
  · simp only [Option.some.injEq] at h
    subst h
    obtain ⟨b', o', cs, ty, fr, rfl, k2, k3, k4, k5⟩ := hr
    exact ⟨b', _, rfl, b', o', cs, ty, fr, by simp [Nat.add_assoc], k2, k3, k4, k5⟩
  · rename_i i j g
    split at h
    · rename_i hl
      simp only [Option.some.injEq] at h
      subst h
      obtain ⟨_, bk, hbk, hr⟩ := hr
      have hlive : bk.live := by
        unfold liveB at hl
        simp only [hbk] at hl
        cases bk <;> simp_all [Blk.live]
      obtain ⟨b', cs, k1, rfl, k3⟩ := hr hlive
      exact ⟨b', _, rfl, rfl, bk, hbk, fun _ => ⟨b', cs, k1, by simp [Nat.add_assoc], k3⟩⟩
    · cases h
  · cases h

theorem fieldAddr_rep {a b : Ty} {t : TypeId} (hτ : TyOk P a t) {n o : Nat} (hf : a.field n = some (o, b)) {v u : AV} {x : Value} (hr : Rep3 c v x)
    (h : partPtr c.s o v = some u) : ∃ z, (Instr.fieldAt t x n).run P c.w = .ok z c.w ∧ Rep3 c u z := by
  obtain ⟨fs, f, hu, hfn, ho, hb, hle, hpos⟩ := hτ.field hf
  obtain ⟨bl, off, rfl, hz⟩ := partPtr_rep hr h
  refine ⟨_, ?_, hz⟩
  simp only [Instr.fieldAt, Sem.run_bind, run_underlying hu, Result.andThen_ok, hfn, Instr.sureAddr, Sem.run_pure, fieldPlace, hb.sizeOf, Sem.run_ite]
  rw [if_neg (by omega)]
  simp [Addr.add_lit, ho]

/-- a part of a struct value -/
theorem field_rep {a b : Ty} {t : TypeId} (hτ : TyOk P a t) {n o : Nat} (hf : a.field n = some (o, b)) {v u : AV} {x : Value} (hr : Rep3 c v x) (hl : v.cells.length = a.size)
    (h : ofCells b ((v.cells.drop o).take b.size) = some u) (hagg : ∃ cs, x = .agg cs) : ∃ z, (Instr.field t x n).run P c.w = .ok z c.w ∧ Rep3 c u z := by
  obtain ⟨fs, f, hu, hfn, ho, hb, hle, hpos⟩ := hτ.field hf
  obtain ⟨cs, rfl⟩ := hagg
  have hne : v.cells ≠ [] := by intro e; rw [e] at hl; simp at hl; have := hτ.pos; omega
  have h2 : Rep2 c v (.agg cs) := Rep2_of3 hr (fun vs e => by subst e; simp [AV.cells] at hne)
  have hc := cells_rep h2 hne
  simp only [Value.cells] at hc
  have hcs : cs.size = a.size := by rw [← hl, hc.length]; simp
  have hpart := (hc.drop o).take b.size
  have hor := ofCells_rep hpart h
  by_cases ha : b.isAgg = true
  · refine ⟨.agg (seg cs o b.size).toArray, ?_, Rep3_of2 (hor.1 ha).2⟩
    simp only [Instr.field, Sem.run_bind, run_underlying hu, Result.andThen_ok, hfn, asAgg, Sem.run_pure, part, hb.isAgg, ha, if_true, hb.sizeOf, ho]
    congr 2
    apply Array.ext'
    simp [seg, Array.toList_extract, List.extract_eq_take_drop]
  · obtain ⟨y, hy, hv⟩ := hor.2 (by simpa using ha)
    have h1 : b.size = 1 := by cases b <;> simp_all [Ty.isAgg, Ty.size]
    have hget : cs[o]? = some y := by
      rw [h1] at hy
      have := seg_get (c := cs) (o := o) (n := 1) (j := 0) (by omega)
      rw [seg, hy] at this
      simpa using this.symm
    refine ⟨y, ?_, Rep3_of2 hv⟩
    simp [Instr.field, run_underlying hu, hfn, asAgg, part, hb.isAgg, ha, ho, hget]

theorem aggOk_rep {a : Ty} {v : AV} {x : Value} (h : aggOk a v = true) (hr : Rep3 c v x) : ∃ cs, x = .agg cs := by
  unfold aggOk at h
  split at h
  · simp only [Bool.and_eq_true, decide_eq_true_eq] at h
    obtain ⟨rfl, h2⟩ := h
    obtain ⟨cs, h3, _⟩ := hr
    rw [if_pos h2] at h3
    exact ⟨_, h3⟩
  · obtain ⟨vs, rfl, _⟩ := hr
    exact ⟨_, rfl⟩
  · cases h

theorem over_step {α : Type} (cs : List α) (p : Nat) (v : α) (rest : List α) (h : p + 1 + rest.length ≤ cs.length) :
    (cs.set p v).take (p + 1) ++ rest ++ (cs.set p v).drop (p + 1 + rest.length) = cs.take p ++ (v :: rest) ++ cs.drop (p + (rest.length + 1)) := by
  apply List.ext_getElem?
  intro i
  simp only [List.getElem?_append, List.getElem?_take, List.getElem?_drop, List.length_take, List.length_append, List.length_set, List.getElem?_set, List.length_cons, List.getElem?_cons]
  have e1 : min (p + 1) cs.length = p + 1 := by omega
  have e2 : min p cs.length = p := by omega
  simp only [e1, e2]
  repeat' split
  all_goals first
    | rfl
    | omega
    | (congr 1; omega)

theorem fold_over (off : Nat) : ∀ (l : List Value) (k : Nat) (cells : Array Value), off + k + l.length ≤ cells.size →
    ((l.zipIdx k).foldl (fun (cs : Array Value) (x : Value × Nat) => cs.setIfInBounds (off + x.2) x.1) cells).toList = cells.toList.take (off + k) ++ l ++ cells.toList.drop (off + k + l.length)
  | [], k, cells, h => by simp
  | v :: rest, k, cells, h => by
    simp only [List.length_cons] at h
    rw [List.zipIdx_cons, List.foldl_cons, fold_over off rest (k + 1) (cells.setIfInBounds (off + k) v) (by simp; omega)]
    simp only [Array.toList_setIfInBounds]
    have := over_step cells.toList (off + k) v rest (by simp; omega)
    simpa [Nat.add_assoc] using this

theorem fill_rep {a : Ty} {place : Nat → Option (Nat × Nat)} (hp : ∀ n o b, a.field n = some (o, b) → place n = some (o, b.size)) :
    ∀ {ps : List (Nat × AV)} {qs : List (Nat × Value)} {acs acs' : List AV} {ccs : Array Value}, All2 (fun p q => p.1 = q.1 ∧ Rep3 c p.2 q.2) ps qs → All2 (Rep1 c) acs ccs.toList → placeAll a ps acs = some acs' →
      (∀ n o b, a.field n = some (o, b) → 0 < b.size) → ∃ ccs', Instr.fill place ccs qs = some ccs' ∧ All2 (Rep1 c) acs' ccs'.toList ∧ ccs'.size = ccs.size
  | [], [], acs, acs', ccs, _, hr, h, _ => by
    simp only [placeAll, Option.some.injEq] at h
    subst h
    exact ⟨ccs, rfl, hr, rfl⟩
  | (i, v) :: ps, (j, x) :: qs, acs, acs', ccs, hq, hr, h, hpos => by
    obtain ⟨⟨hij, hvx⟩, hq⟩ := hq
    simp only at hij hvx
    subst hij
    simp only [placeAll] at h
    cases hf : a.field i with
    | none => simp [hf] at h
    | some f =>
      obtain ⟨o, b⟩ := f
      simp only [hf, Option.bind_some] at h
      split at h
      · rename_i hc
        have hb := hpos i o b hf
        have hne : v.cells ≠ [] := by intro e; rw [e] at hc; simp at hc; omega
        have h2 : Rep2 c v x := Rep2_of3 hvx (fun vs e => by subst e; simp [AV.cells] at hne)
        have hcv := cells_rep h2 hne
        have hxs : x.cells.size = b.size := by rw [← hc.1, hcv.length]; simp
        have hl := hr.length
        have hl' : acs.length = ccs.size := by simpa using hl
        have hov := fold_over o x.cells.toList 0 ccs (by simp; omega)
        simp only [Nat.add_zero] at hov
        have hnew : All2 (Rep1 c) (acs.take o ++ v.cells ++ acs.drop (o + b.size)) ((x.cells.zipIdx.foldl (fun (cs : Array Value) (y : Value × Nat) => cs.setIfInBounds (o + y.2) y.1) ccs)).toList := by
          have e : (x.cells.zipIdx.foldl (fun (cs : Array Value) (y : Value × Nat) => cs.setIfInBounds (o + y.2) y.1) ccs) = (x.cells.toList.zipIdx 0).foldl (fun (cs : Array Value) (y : Value × Nat) => cs.setIfInBounds (o + y.2) y.1) ccs := by
            rw [← Array.foldl_toList]
            congr 1
            simp [Array.toList_zipIdx]
          rw [e, hov]
          have hlen : x.cells.toList.length = b.size := by simp [hxs]
          rw [hlen]
          exact ((hr.take o).append hcv).append (hr.drop (o + b.size))
        have hsz : (x.cells.zipIdx.foldl (fun (cs : Array Value) (y : Value × Nat) => cs.setIfInBounds (o + y.2) y.1) ccs).size = ccs.size := by
          have := hnew.length
          simp only [List.length_append, List.length_take, List.length_drop, Array.length_toList, hc.1] at this
          omega
        obtain ⟨ccs', k1, k2, k3⟩ := fill_rep hp hq hnew h hpos
        refine ⟨ccs', ?_, k2, k3.trans hsz⟩
        unfold Instr.fill
        simp only [hp i o b hf, hxs]
        rw [if_neg (by simp; omega)]
        exact k1
      · cases h
  | [], _ :: _, _, _, _, hq, _, _, _ => hq.elim
  | _ :: _, [], _, _, _, hq, _, _, _ => hq.elim

theorem places_ok : ∀ {a : Ty} {fs : List Field} {off : Nat}, (tyF P a).2 fs off = true →
    ∃ pl : List (Nat × Nat), fs.mapM (fun f => (P.info? f.type).map fun i => (f.offset, i.size)) = some pl ∧ ∀ n o b, a.field n = some (o, b) → pl[n]? = some (off + o, b.size)
  | .cons h r, fs, off, hf => by
    simp only [tyF] at hf
    split at hf
    · rename_i f rest
      simp only [Bool.and_eq_true, decide_eq_true_eq] at hf
      obtain ⟨⟨⟨h1, h0, hnm⟩, h2⟩, h3⟩ := hf
      obtain ⟨pl, k1, k2⟩ := places_ok h3
      obtain ⟨i, z, m1, m2, _⟩ := TyOk.info (P := P) (a := h) (t := f.type) h2
      refine ⟨(off, h.size) :: pl, by simp [List.mapM_cons, m1, k1, h1, m2], fun n o b hn => ?_⟩
      cases n with
      | zero =>
        simp only [Ty.field, Option.some.injEq, Prod.mk.injEq] at hn
        obtain ⟨rfl, rfl⟩ := hn
        simp
      | succ n =>
        simp only [Ty.field] at hn
        cases hx : r.field n with
        | none => simp [hx] at hn
        | some x =>
          simp only [hx, Option.map_some, Option.some.injEq, Prod.mk.injEq] at hn
          obtain ⟨rfl, rfl⟩ := hn
          have := k2 n x.1 x.2 (by rw [hx])
          simpa [Nat.add_assoc] using this
    · cases hf
  | .nil, fs, off, hf => by
    simp only [tyF, List.isEmpty_iff] at hf
    subst hf
    exact ⟨[], by simp, fun n o b hn => by cases n <;> simp [Ty.field] at hn⟩
  | .bool, _, _, hf => by simp [tyF] at hf
  | .int _, _, _, hf => by simp [tyF] at hf
  | .str, _, _, hf => by simp [tyF] at hf
  | .sl _, _, _, hf => by simp [tyF] at hf

theorem build_rep {a : Ty} {t : TypeId} (hτ : TyOk P a t) (hag : a.isAgg = true) {ps : List (Nat × AV)} {qs : Array (Nat × Value)} {cs : List AV} {u : AV}
    (hq : All2 (fun p q => p.1 = q.1 ∧ Rep3 c p.2 q.2) ps qs.toList) (hp : placeAll a ps (zeroCells a) = some cs) (h : ofCells a cs = some u) :
    ∃ z, (Instr.build t qs).run P c.w = .ok z c.w ∧ Rep3 c u z := by
  cases a with
  | cons x r =>
    obtain ⟨fs, hu, hF, _, _⟩ := part_struct hτ
    obtain ⟨i, z, h1, h2, h3, h4, h5, h6, h7⟩ := hτ.zero
    obtain ⟨pl, k1, k2⟩ := places_ok hF
    obtain ⟨ccs, m1, m2, m3⟩ := fill_rep (c := c) (a := .cons x r) (place := fun i => pl[i]?) (fun n o b hn => by have := k2 n o b hn; simpa using this) hq (zeroIs_cells h5) hp
      (fun n o b hn => (hτ.field hn).choose_spec.choose_spec.2.2.2.2.2)
    have hor := (ofCells_rep m2 h).1 hag
    refine ⟨.agg ccs, ?_, Rep3_of2 (by simpa using hor.2)⟩
    apply run_build
    unfold Program.built
    simp only [h1, hu, h4, k1]
    simpa using m1
  | _ => simp [Ty.isAgg] at hag; try (unfold TyOk at hτ; simp [tyF] at hτ)

end
end Go.Ev

/-
  STEPS THAT CHANGE STORE OR WORLD: each keeps the relation.
-/
namespace Go.Ev

/-- a new row at the heap's end, and nothing else but draws -/
structure Grew (w w' : World) (o : Obj) : Prop where
  heap : w'.heap = w.heap.push o
  os : w'.os = w.os
  tape : w'.tape = w.tape
  output : w'.output = w.output
  plain : ∃ cs e, o = .cells cs e (0, 0)

theorem Grew.size {w w' : World} {o : Obj} (h : Grew w w' o) : w'.heap.size = w.heap.size + 1 := by rw [h.heap]; simp
theorem Grew.old {w w' : World} {o : Obj} (h : Grew w w' o) {b : Nat} (hb : b < w.heap.size) : w'.heap[b]? = w.heap[b]? := by
  rw [h.heap, Array.getElem?_push, if_neg (by omega)]
theorem Grew.new {w w' : World} {o : Obj} (h : Grew w w' o) : w'.heap[w.heap.size]? = some o := by
  rw [h.heap, Array.getElem?_push, if_pos rfl]
theorem Grew.alloc (w : World) (cs : Array Value) (e : TypeId) : Grew w (w.alloc (.cells cs e)) (.cells cs e) := ⟨rfl, rfl, rfl, rfl, cs, e, rfl⟩
theorem Grew.drewAlloc (w : World) (cs : Array Value) (e : TypeId) : Grew w (w.drew.alloc (.cells cs e)) (.cells cs e) := ⟨rfl, rfl, rfl, rfl, cs, e, rfl⟩

theorem Grew.fz {w w' : World} {o : Obj} (h : Grew w w' o) (a : Addr) : w'.frozen? a = w.frozen? a := by
  obtain ⟨cs, e, rfl⟩ := h.plain
  unfold World.frozen?
  by_cases hb : a.block < w.heap.size
  · rw [h.old hb]
  · by_cases he : a.block = w.heap.size
    · rw [he, h.new]
      simp
    · have h1 : w'.heap[a.block]? = none := Array.getElem?_eq_none (by rw [h.size]; omega)
      have h2 : w.heap[a.block]? = none := Array.getElem?_eq_none (by omega)
      rw [h1, h2]

theorem Grew.shape {w w' : World} {o : Obj} (h : Grew w w' o) (b : Nat) (cs : Array Value) (ty : TypeId) (hb : w.heap[b]? = some (.cells cs ty (0, 0))) :
    ∃ cs' : Array Value, w'.heap[b]? = some (.cells cs' ty (0, 0)) ∧ cs'.size = cs.size :=
  ⟨cs, by rw [h.old (Array.getElem?_eq_some_iff.1 hb).1]; exact hb, rfl⟩

section
variable {c : Cx}

/-- a new row that nobody will write -/
theorem allocF (hi : Inv c) {w' : World} {o : Obj} (hg : Grew c.w w' o) : Inv ⟨w', ⟨fun b => c.N b ∨ b = c.w.heap.size, c.N.d⟩, c.r, c.s⟩ ∧ Ext c ⟨w', ⟨fun b => c.N b ∨ b = c.w.heap.size, c.N.d⟩, c.r, c.s⟩ := by
  have hs := hg.size
  have hE : Ext c ⟨w', ⟨fun b => c.N b ∨ b = c.w.heap.size, c.N.d⟩, c.r, c.s⟩ := {
    os := hg.os
    tape := hg.tape
    output := hg.output
    fz := fun a _ => hg.fz a
    size := by show _ ≤ w'.heap.size; omega
    out := fun b hb _ => hg.old hb
    shape := hg.shape
    nm := fun b hb => .inl hb
    nn := fun b hb => hb.elim .inl fun e => .inr (.inl (by omega))
    own := fun b hb => .inl hb
    ids := fun id bk hb => ⟨bk, hb, fun hl => ⟨hl, rfl, rfl, rfl⟩⟩ }
  refine ⟨⟨hi.len, hi.inj, hi.dis, hi.din, fun b hb => ?_, fun b hb => ?_, fun id bk hb => ?_⟩, hE⟩
  · obtain ⟨h1, h2⟩ := hi.own b hb
    exact ⟨by show b < w'.heap.size; omega, fun h => h.elim h2 fun e => by omega⟩
  · show b < w'.heap.size
    rcases hb with hb | rfl
    · have := hi.old b hb; omega
    · omega
  · exact (hi.blk id bk hb).ext hi hE rfl (fun b hb' => hg.old (hi.own b (.inl ⟨id, hb'⟩)).1) fun p b hb' => ⟨hg.old (hi.own b (.inr ⟨id, p, hb'⟩)).1, hb'⟩

/-- a new row of the call's own -/
theorem allocO_ext (hi : Inv c) {w' : World} {o : Obj} (hg : Grew c.w w' o) (bk : Blk) : Ext c ⟨w', c.N, c.r ++ [some c.w.heap.size], c.s ++ [bk]⟩ := by
  have hs := hg.size
  have hr : ∀ (id : Nat), id < c.s.length → (c.r ++ [some c.w.heap.size])[id]? = c.r[id]? := fun id h => List.getElem?_append_left (by rw [hi.len]; exact h)
  have hE : Ext c ⟨w', c.N, c.r ++ [some c.w.heap.size], c.s ++ [bk]⟩ := {
    os := hg.os
    tape := hg.tape
    output := hg.output
    fz := fun a _ => hg.fz a
    size := by show _ ≤ w'.heap.size; omega
    out := fun b hb _ => hg.old hb
    shape := hg.shape
    nm := fun b hb => hb
    nn := fun b hb => .inl hb
    own := fun b hb => by
      rcases hb with ⟨id, hb⟩ | hb
      case inr => exact .inl (.inr hb)
      simp only [List.getElem?_append] at hb
      split at hb
      · exact .inl (.inl ⟨id, hb⟩)
      · have hb2 := (List.getElem?_eq_some_iff.1 hb).2
        have := (List.getElem?_eq_some_iff.1 hb).1
        simp only [List.length_singleton] at this
        have h0 : id - c.r.length = 0 := by omega
        simp [h0] at hb
        exact .inr (by omega)
    ids := fun id b hb => ⟨b, by
      show (c.s ++ [bk])[id]? = some b
      rw [List.getElem?_append_left (List.getElem?_eq_some_iff.1 hb).1]; exact hb, fun hl => ⟨hl, rfl, rfl, hr id (List.getElem?_eq_some_iff.1 hb).1⟩⟩ }
  exact hE

theorem allocO (hi : Inv c) {w' : World} {o : Obj} (hg : Grew c.w w' o) (bk : Blk) (hbk : RepB ⟨w', c.N, c.r ++ [some c.w.heap.size], c.s ++ [bk]⟩ c.s.length bk) :
    Inv ⟨w', c.N, c.r ++ [some c.w.heap.size], c.s ++ [bk]⟩ ∧ Ext c ⟨w', c.N, c.r ++ [some c.w.heap.size], c.s ++ [bk]⟩ := by
  have hs := hg.size
  have hr : ∀ (id : Nat), id < c.s.length → (c.r ++ [some c.w.heap.size])[id]? = c.r[id]? := fun id h => List.getElem?_append_left (by rw [hi.len]; exact h)
  have hE := allocO_ext hi hg bk
  refine ⟨⟨by simp [hi.len], fun i j b h1 h2 => ?_, fun i id p b h1 h2 => ?_, hi.din, fun b hb => ?_, fun b hb => ?_, fun id b hb => ?_⟩, hE⟩
  · simp only [List.getElem?_append] at h1 h2
    split at h1 <;> split at h2
    · exact hi.inj i j b h1 h2
    · have := (hi.own b (.inl ⟨i, h1⟩)).1
      have h3 := (List.getElem?_eq_some_iff.1 h2).1
      simp only [List.length_singleton] at h3
      have h0 : j - c.r.length = 0 := by omega
      simp [h0] at h2; omega
    · have := (hi.own b (.inl ⟨j, h2⟩)).1
      have h3 := (List.getElem?_eq_some_iff.1 h1).1
      simp only [List.length_singleton] at h3
      have h0 : i - c.r.length = 0 := by omega
      simp [h0] at h1; omega
    · have h3 := (List.getElem?_eq_some_iff.1 h1).1
      have h4 := (List.getElem?_eq_some_iff.1 h2).1
      simp only [List.length_singleton] at h3 h4
      omega
  · simp only [List.getElem?_append] at h1
    split at h1
    · exact hi.dis i id p b h1 h2
    · have := (hi.own b (.inr ⟨id, p, h2⟩)).1
      have h3 := (List.getElem?_eq_some_iff.1 h1).1
      simp only [List.length_singleton] at h3
      have h0 : i - c.r.length = 0 := by omega
      simp [h0] at h1
      omega
  · rcases hE.own b hb with h | h
    · obtain ⟨h1, h2⟩ := hi.own b h
      exact ⟨by show b < w'.heap.size; omega, h2⟩
    · refine ⟨?_, fun hn => by have := hi.old b hn; omega⟩
      rcases hb with ⟨id, hb⟩ | hb
      case inr => have := (hi.own b (.inr hb)).1; show b < w'.heap.size; omega
      simp only [List.getElem?_append] at hb
      split at hb
      · have := (hi.own b (.inl ⟨id, hb⟩)).1; omega
      · have h3 := (List.getElem?_eq_some_iff.1 hb).1
        simp only [List.length_singleton] at h3
        have h0 : id - c.r.length = 0 := by omega
        simp [h0] at hb
        show b < w'.heap.size
        omega
  · have := hi.old b hb
    show b < w'.heap.size
    omega
  · have hb' : (c.s ++ [bk])[id]? = some b := hb
    rw [List.getElem?_append] at hb'
    split at hb'
    · rename_i hlt
      exact (hi.blk id b hb').ext hi hE (hr id hlt) (fun b hb' => hg.old (hi.own b (.inl ⟨id, hb'⟩)).1) fun p b hb' => ⟨hg.old (hi.own b (.inr ⟨id, p, hb'⟩)).1, hb'⟩
    · rename_i hge
      have h3 := (List.getElem?_eq_some_iff.1 hb').1
      simp only [List.length_singleton] at h3
      have h0 : id = c.s.length := by omega
      subst h0
      simp at hb'
      subst hb'
      exact hbk

/-- an empty block, over no row -/
theorem pushEmpty (hi : Inv c) (a : Ty) : Inv ⟨c.w, c.N, c.r ++ [none], c.s ++ [.data a []]⟩ ∧ Ext c ⟨c.w, c.N, c.r ++ [none], c.s ++ [.data a []]⟩ := by
  have hr : ∀ (id : Nat), id < c.s.length → (c.r ++ [none])[id]? = c.r[id]? := fun id h => List.getElem?_append_left (by rw [hi.len]; exact h)
  have hown : ∀ (id b : Nat), (c.r ++ [none])[id]? = some (some b) → c.r[id]? = some (some b) := fun id b hb => by
    rw [List.getElem?_append] at hb
    split at hb
    · exact hb
    · have h3 := (List.getElem?_eq_some_iff.1 hb).1
      simp only [List.length_singleton] at h3
      have h0 : id - c.r.length = 0 := by omega
      simp [h0] at hb
  have hE : Ext c ⟨c.w, c.N, c.r ++ [none], c.s ++ [.data a []]⟩ := {
    os := rfl
    tape := rfl
    output := rfl
    fz := fun _ _ => rfl
    size := Nat.le_refl _
    out := fun b hb _ => rfl
    shape := fun b cs ty h => ⟨cs, h, rfl⟩
    nm := fun b hb => hb
    nn := fun b hb => .inl hb
    own := fun b hb => .inl (hb.imp (fun ⟨id, hb⟩ => ⟨id, hown id b hb⟩) id)
    ids := fun id b hb => ⟨b, by
      show (c.s ++ [.data a []])[id]? = some b
      rw [List.getElem?_append_left (List.getElem?_eq_some_iff.1 hb).1]; exact hb, fun hl => ⟨hl, rfl, rfl, hr id (List.getElem?_eq_some_iff.1 hb).1⟩⟩ }
  refine ⟨⟨by simp [hi.len], fun i j b h1 h2 => hi.inj i j b (hown i b h1) (hown j b h2), fun i id p b h1 h2 => hi.dis i id p b (hown i b h1) h2, hi.din, fun b hb => hi.own b (hb.imp (fun ⟨id, hb⟩ => ⟨id, hown id b hb⟩) id), hi.old, fun id b hb => ?_⟩, hE⟩
  have hb' : (c.s ++ [.data a []])[id]? = some b := hb
  rw [List.getElem?_append] at hb'
  split at hb'
  · rename_i hlt
    exact (hi.blk id b hb').ext hi hE (hr id hlt) (fun b hb' => rfl) fun p b hb' => ⟨rfl, hb'⟩
  · rename_i hge
    have h3 := (List.getElem?_eq_some_iff.1 hb').1
    simp only [List.length_singleton] at h3
    have h0 : id - c.s.length = 0 := by omega
    simp [h0] at hb'
    subst hb'
    refine ⟨.inl rfl, fun b' cs hat => ?_⟩
    have := (List.getElem?_eq_some_iff.1 (hown id b' hat.1)).1
    rw [hi.len] at this
    omega

/-- the world with other cells in one row -/
structure Wrote (w w' : World) (b : Nat) (cs' : Array Value) (ty : TypeId) : Prop where
  size : w'.heap.size = w.heap.size
  here : w'.heap[b]? = some (.cells cs' ty (0, 0))
  other : ∀ k, k ≠ b → w'.heap[k]? = w.heap[k]?
  os : w'.os = w.os
  tape : w'.tape = w.tape
  output : w'.output = w.output

theorem Wrote.setRow {w : World} {b : Nat} {cs cs' : Array Value} {ty : TypeId} (h : w.heap[b]? = some (.cells cs ty (0, 0))) : Wrote w (w.setRow b cs') b cs' ty :=
  ⟨setRow_size _ _ _, setRow_heap _ _ _ _ _ _ h, fun k hk => setRow_other _ _ _ _ hk, rfl, rfl, rfl⟩

/-- one of the call's own blocks is written -/
theorem write_ext (hi : Inv c) {w' : World} {id b : Nat} {cs cs' : Array Value} {ty : TypeId} (hr : c.r[id]? = some (some b)) (hb : c.w.heap[b]? = some (.cells cs ty (0, 0))) (hw : Wrote c.w w' b cs' ty) (hsz : cs'.size = cs.size)
    {bk bk' : Blk} (hbk : c.s[id]? = some bk) (hk : bk'.live → bk.live ∧ bk'.len = bk.len ∧ bk'.sz = bk.sz) : Ext c ⟨w', c.N, c.r, c.s.set id bk'⟩ := by
  have hs := hw.size
  have hE : Ext c ⟨w', c.N, c.r, c.s.set id bk'⟩ := {
    os := hw.os
    tape := hw.tape
    output := hw.output
    fz := fun p _ => by
      unfold World.frozen?
      by_cases e : p.block = b
      · rw [e, hw.here, hb]
      · rw [hw.other _ e]
    size := by show _ ≤ w'.heap.size; omega
    out := fun k _ hn => hw.other k fun e => hn (.inl ⟨id, by rw [e]; exact hr⟩)
    shape := fun k cs0 ty0 h => by
      by_cases e : k = b
      · subst e
        rw [hb] at h
        simp at h
        exact ⟨cs', by rw [← h.2]; exact hw.here, by rw [hsz, h.1]⟩
      · exact ⟨cs0, by rw [hw.other k e]; exact h, rfl⟩
    nm := fun _ h => h
    nn := fun _ h => .inl h
    own := fun _ h => .inl h
    ids := fun j bj hj => by
      by_cases e : j = id
      · subst e
        rw [hbk] at hj
        obtain rfl : bk = bj := by simpa using hj
        exact ⟨bk', by simp [List.getElem?_set, (List.getElem?_eq_some_iff.1 hbk).1], fun hl => ⟨(hk hl).1, (hk hl).2.1, (hk hl).2.2, rfl⟩⟩
      · exact ⟨bj, by simp [List.getElem?_set, Ne.symm e]; exact hj, fun hl => ⟨hl, rfl, rfl, rfl⟩⟩ }
  exact hE

theorem write (hi : Inv c) {w' : World} {id b : Nat} {cs cs' : Array Value} {ty : TypeId} (hr : c.r[id]? = some (some b)) (hb : c.w.heap[b]? = some (.cells cs ty (0, 0))) (hw : Wrote c.w w' b cs' ty) (hsz : cs'.size = cs.size)
    {bk bk' : Blk} (hbk : c.s[id]? = some bk) (hk : bk'.live → bk.live ∧ bk'.len = bk.len ∧ bk'.sz = bk.sz) (hrep : RepB ⟨w', c.N, c.r, c.s.set id bk'⟩ id bk') :
    Inv ⟨w', c.N, c.r, c.s.set id bk'⟩ ∧ Ext c ⟨w', c.N, c.r, c.s.set id bk'⟩ := by
  have hs := hw.size
  have hE := write_ext hi hr hb hw hsz hbk hk
  refine ⟨⟨by simp [hi.len], hi.inj, hi.dis, hi.din, fun k hk => ?_, fun k hk => ?_, fun j bj hj => ?_⟩, hE⟩
  · have := hi.own k hk
    exact ⟨by show k < w'.heap.size; omega, this.2⟩
  · have := hi.old k hk
    show k < w'.heap.size
    omega
  · by_cases e : j = id
    · subst e
      simp [List.getElem?_set, (List.getElem?_eq_some_iff.1 hbk).1] at hj
      subst hj
      exact hrep
    · simp [List.getElem?_set, Ne.symm e] at hj
      exact (hi.blk j bj hj).ext hi hE rfl (fun k hk => hw.other k fun e' => e (hi.inj j id k hk (by rw [e']; exact hr))) fun p k hk => ⟨hw.other k fun e' => hi.dis id j p k (by rw [e']; exact hr) hk, hk⟩

/-- a block of the store is given up; what lay under it may go over to a new block, or be left as it is for good -/
theorem retire (hi : Inv c) {id : Nat} (hid : id < c.s.length) : Inv ⟨c.w, c.N, c.r.set id none, c.s.set id .dead⟩ ∧ Ext c ⟨c.w, c.N, c.r.set id none, c.s.set id .dead⟩ := by
  have hr : ∀ (j : Nat), j ≠ id → (c.r.set id none)[j]? = c.r[j]? := fun j h => by simp [List.getElem?_set, Ne.symm h]
  have hown : ∀ (j b : Nat), (c.r.set id none)[j]? = some (some b) → j ≠ id ∧ c.r[j]? = some (some b) := fun j b hb => by
    by_cases e : j = id
    · subst e; simp [List.getElem?_set] at hb
    · exact ⟨e, by rw [← hr j e]; exact hb⟩
  have hE : Ext c ⟨c.w, c.N, c.r.set id none, c.s.set id .dead⟩ := {
    os := rfl
    tape := rfl
    output := rfl
    fz := fun _ _ => rfl
    size := Nat.le_refl _
    out := fun _ _ _ => rfl
    shape := fun b cs ty h => ⟨cs, h, rfl⟩
    nm := fun _ h => h
    nn := fun _ h => .inl h
    own := fun b hb => .inl (hb.imp (fun ⟨j, hb⟩ => ⟨j, (hown j b hb).2⟩) fun q => q)
    ids := fun j bj hj => by
      by_cases e : j = id
      · subst e
        exact ⟨.dead, by simp [List.getElem?_set, hid], fun hl => hl.elim⟩
      · exact ⟨bj, by simp [List.getElem?_set, Ne.symm e]; exact hj, fun hl => ⟨hl, rfl, rfl, hr j e⟩⟩ }
  refine ⟨⟨by simp [hi.len], fun i j b h1 h2 => hi.inj i j b (hown i b h1).2 (hown j b h2).2, fun i id' p b h1 h2 => hi.dis i id' p b (hown i b h1).2 h2, hi.din, fun b hb => hi.own b (hb.imp (fun ⟨j, hb⟩ => ⟨j, (hown j b hb).2⟩) fun q => q), hi.old, fun j bj hj => ?_⟩, hE⟩
  by_cases e : j = id
  · subst e
    simp [List.getElem?_set, hid] at hj
    subst hj
    trivial
  · simp [List.getElem?_set, Ne.symm e] at hj
    exact (hi.blk j bj hj).ext hi hE (hr j e) (fun _ _ => rfl) fun _ _ h => ⟨rfl, h⟩

/-- a block's row goes over to a new block -/
theorem moveO_ext (hi : Inv c) {id b : Nat} (hr : c.r[id]? = some (some b)) (bk : Blk) : Ext c ⟨c.w, c.N, c.r.set id none ++ [some b], c.s.set id .dead ++ [bk]⟩ := by
  have hid : id < c.s.length := by rw [← hi.len]; exact (List.getElem?_eq_some_iff.1 hr).1
  have hlen : (c.r.set id none).length = c.s.length := by simp [hi.len]
  obtain ⟨hi1, hE1⟩ := retire hi hid
  have hown : ∀ (j k : Nat), (c.r.set id none ++ [some b])[j]? = some (some k) → (j < c.s.length ∧ (c.r.set id none)[j]? = some (some k)) ∨ (j = c.s.length ∧ k = b) := fun j k hb => by
    rw [List.getElem?_append] at hb
    split at hb
    · rename_i hlt
      exact .inl ⟨by omega, hb⟩
    · have h3 := (List.getElem?_eq_some_iff.1 hb).1
      simp only [List.length_singleton] at h3
      have h0 : j - (c.r.set id none).length = 0 := by omega
      rw [h0] at hb
      simp at hb
      exact .inr ⟨by omega, hb.symm⟩
  have hnot : ∀ (j : Nat), (c.r.set id none)[j]? ≠ some (some b) := fun j hj => by
    by_cases e : j = id
    · subst e; simp [List.getElem?_set] at hj
    · have : c.r[j]? = some (some b) := by simpa [List.getElem?_set, Ne.symm e] using hj
      exact e (hi.inj j id b this hr)
  have hE : Ext c ⟨c.w, c.N, c.r.set id none ++ [some b], c.s.set id .dead ++ [bk]⟩ := {
    os := rfl
    tape := rfl
    output := rfl
    fz := fun _ _ => rfl
    size := Nat.le_refl _
    out := fun _ _ _ => rfl
    shape := fun b cs ty h => ⟨cs, h, rfl⟩
    nm := fun _ h => h
    nn := fun _ h => .inl h
    own := fun k hk => by
      rcases hk with ⟨j, hb⟩ | hk
      case inr => exact .inl (.inr hk)
      rcases hown j k hb with ⟨_, h⟩ | ⟨_, rfl⟩
      · exact hE1.own k (.inl ⟨j, h⟩)
      · exact .inl (.inl ⟨id, hr⟩)
    ids := fun j bj hj => by
      obtain ⟨bj', h1, h2⟩ := hE1.ids j bj hj
      have hlt : j < (c.s.set id .dead).length := (List.getElem?_eq_some_iff.1 h1).1
      refine ⟨bj', by show (c.s.set id .dead ++ [bk])[j]? = some bj'; rw [List.getElem?_append_left hlt]; exact h1, fun hl => ?_⟩
      obtain ⟨k1, k2, k3, k4⟩ := h2 hl
      refine ⟨k1, k2, k3, ?_⟩
      show (c.r.set id none ++ [some b])[j]? = c.r[j]?
      rw [List.getElem?_append_left (by rw [hlen]; simpa using hlt)]
      exact k4 }
  exact hE

theorem moveO (hi : Inv c) {id b : Nat} (hr : c.r[id]? = some (some b)) (bk : Blk) (hbk : RepB ⟨c.w, c.N, c.r.set id none ++ [some b], c.s.set id .dead ++ [bk]⟩ c.s.length bk) :
    Inv ⟨c.w, c.N, c.r.set id none ++ [some b], c.s.set id .dead ++ [bk]⟩ ∧ Ext c ⟨c.w, c.N, c.r.set id none ++ [some b], c.s.set id .dead ++ [bk]⟩ := by
  have hid : id < c.s.length := by rw [← hi.len]; exact (List.getElem?_eq_some_iff.1 hr).1
  have hlen : (c.r.set id none).length = c.s.length := by simp [hi.len]
  obtain ⟨hi1, hE1⟩ := retire hi hid
  have hown : ∀ (j k : Nat), (c.r.set id none ++ [some b])[j]? = some (some k) → (j < c.s.length ∧ (c.r.set id none)[j]? = some (some k)) ∨ (j = c.s.length ∧ k = b) := fun j k hb => by
    rw [List.getElem?_append] at hb
    split at hb
    · rename_i hlt
      exact .inl ⟨by omega, hb⟩
    · have h3 := (List.getElem?_eq_some_iff.1 hb).1
      simp only [List.length_singleton] at h3
      have h0 : j - (c.r.set id none).length = 0 := by omega
      rw [h0] at hb
      simp at hb
      exact .inr ⟨by omega, hb.symm⟩
  have hnot : ∀ (j : Nat), (c.r.set id none)[j]? ≠ some (some b) := fun j hj => by
    by_cases e : j = id
    · subst e; simp [List.getElem?_set] at hj
    · have : c.r[j]? = some (some b) := by simpa [List.getElem?_set, Ne.symm e] using hj
      exact e (hi.inj j id b this hr)
  have hE := moveO_ext hi hr bk
  refine ⟨⟨by simp [hi.len], fun i j k h1 h2 => ?_, fun i id' p k h1 h2 => ?_, hi.din, fun k hk => ?_, hi.old, fun j bj hj => ?_⟩, hE⟩
  · rcases hown i k h1 with ⟨_, m1⟩ | ⟨m1, rfl⟩ <;> rcases hown j k h2 with ⟨_, m2⟩ | ⟨m2, e⟩
    · exact hi1.inj i j k m1 m2
    · subst e; exact absurd m1 (hnot i)
    · exact absurd m2 (hnot j)
    · omega
  · rcases hown i k h1 with ⟨_, m1⟩ | ⟨_, rfl⟩
    · exact hi1.dis i id' p k m1 h2
    · exact hi.dis id id' p k hr h2
  · rcases hk with ⟨j, hk⟩ | hk
    case inr => exact hi.own k (.inr hk)
    rcases hown j k hk with ⟨_, h⟩ | ⟨_, rfl⟩
    · exact hi1.own k (.inl ⟨j, h⟩)
    · exact hi.own k (.inl ⟨id, hr⟩)
  · have hj' : (c.s.set id .dead ++ [bk])[j]? = some bj := hj
    rw [List.getElem?_append] at hj'
    split at hj'
    · rename_i hlt
      by_cases e : j = id
      · subst e
        simp [List.getElem?_set, hid] at hj'
        subst hj'
        trivial
      · have hjs : c.s[j]? = some bj := by simpa [List.getElem?_set, Ne.symm e] using hj'
        refine (hi.blk j bj hjs).ext hi hE ?_ (fun _ _ => rfl) fun _ _ h => ⟨rfl, h⟩
        show (c.r.set id none ++ [some b])[j]? = c.r[j]?
        rw [List.getElem?_append_left (by rw [hlen]; simpa using hlt)]
        simp [List.getElem?_set, Ne.symm e]
    · have h3 := (List.getElem?_eq_some_iff.1 hj').1
      simp only [List.length_singleton] at h3
      have h0 : j = c.s.length := by simp at *; omega
      subst h0
      simp at hj'
      subst hj'
      exact hbk

/-- a block's row is left as it is for good -/
theorem moveF (hi : Inv c) {id b : Nat} (hr : c.r[id]? = some (some b)) :
    Inv ⟨c.w, ⟨fun k => c.N k ∨ k = b, c.N.d⟩, c.r.set id none, c.s.set id .dead⟩ ∧ Ext c ⟨c.w, ⟨fun k => c.N k ∨ k = b, c.N.d⟩, c.r.set id none, c.s.set id .dead⟩ := by
  have hid : id < c.s.length := by rw [← hi.len]; exact (List.getElem?_eq_some_iff.1 hr).1
  obtain ⟨hi1, hE1⟩ := retire hi hid
  have hb := hi.own b (.inl ⟨id, hr⟩)
  have hnot : ∀ (j : Nat), (c.r.set id none)[j]? ≠ some (some b) := fun j hj => by
    by_cases e : j = id
    · subst e; simp [List.getElem?_set] at hj
    · have : c.r[j]? = some (some b) := by simpa [List.getElem?_set, Ne.symm e] using hj
      exact e (hi.inj j id b this hr)
  have hE : Ext c ⟨c.w, ⟨fun k => c.N k ∨ k = b, c.N.d⟩, c.r.set id none, c.s.set id .dead⟩ := {
    os := rfl
    tape := rfl
    output := rfl
    fz := fun _ _ => rfl
    size := Nat.le_refl _
    out := fun _ _ _ => rfl
    shape := fun b cs ty h => ⟨cs, h, rfl⟩
    nm := fun _ h => .inl h
    nn := fun k h => h.elim .inl fun e => .inr (.inr (by rw [e]; exact .inl ⟨id, hr⟩))
    own := hE1.own
    ids := hE1.ids }
  refine ⟨⟨hi1.len, hi1.inj, hi1.dis, hi1.din, fun k hk => ?_, fun k hk => ?_, fun j bj hj => ?_⟩, hE⟩
  · obtain ⟨h1, h2⟩ := hi1.own k hk
    refine ⟨h1, fun h => h.elim h2 fun e => ?_⟩
    rcases hk with ⟨j, hj⟩ | ⟨id', p, hk⟩
    · exact hnot j (by rw [← e]; exact hj)
    · exact hi.dis id id' p b hr (e ▸ hk)
  · rcases hk with hk | rfl
    · exact hi.old k hk
    · exact hb.1
  · by_cases e : j = id
    · subst e
      simp [List.getElem?_set, hid] at hj
      subst hj
      trivial
    · simp [List.getElem?_set, Ne.symm e] at hj
      exact (hi.blk j bj hj).ext hi hE (by simp [List.getElem?_set, Ne.symm e]) (fun _ _ => rfl) fun _ _ h => ⟨rfl, h⟩

end
end Go.Ev

/-
  NEW ROWS: variables, make, slice literals.
-/
namespace Go.Ev

section
variable {P : Program} {c : Cx}

/-- what a step leaves -/
def Left (P : Program) (c : Cx) (run : Result Value) (v : AV) (s' : Store) : Prop :=
  ∃ x c', run = .ok x c'.w ∧ c'.s = s' ∧ Inv c' ∧ Ext c c' ∧ Rep3 c' v x

/-- elements of a row -/
def RepL (w : World) (N : Nat → Prop) (t : Ty) (xs : List t.D) (cs : Array Value) : Prop :=
  xs.length * t.size ≤ cs.size ∧ ∀ i (h : i < xs.length), RepC w N t xs[i] (seg cs (i * t.size) t.size)

theorem RepL.mono {w w' : World} {N N' : Nat → Prop} (hm : ∀ b, N b → N' b ∧ w'.heap[b]? = w.heap[b]?) {t : Ty} {xs : List t.D} {cs : Array Value} (h : RepL w N t xs cs) : RepL w' N' t xs cs :=
  ⟨h.1, fun i hi => (h.2 i hi).mono hm⟩

/-- a new row of plain elements, len of them in use -/
theorem rep_size0 {w : World} {N : Nat → Prop} : ∀ {t : Ty}, t.size = 0 → ∃ v : t.D, RepC w N t v []
  | .nil, _ => ⟨(), rfl⟩
  | .cons h t, e => by
    simp only [Ty.size] at e
    obtain ⟨a, ha⟩ := rep_size0 (w := w) (N := N) (t := h) (by omega)
    obtain ⟨b, hb⟩ := rep_size0 (w := w) (N := N) (t := t) (by omega)
    exact ⟨(a, b), by simpa [RepC] using ⟨ha, hb⟩⟩
  | .bool, e => by simp [Ty.size] at e
  | .int _, e => by simp [Ty.size] at e
  | .str, e => by simp [Ty.size] at e
  | .sl _, e => by simp [Ty.size] at e

/-- no room behind the elements -/
theorem Sp.full {w : World} {N : Nat → Prop} {t : Ty} {n : Nat} {cs : Array Value} (h : cs.size ≤ n * t.size) : Sp w N t n cs := by
  intro i h1 h2
  have h3 : n * t.size ≤ i * t.size := Nat.mul_le_mul_right _ h1
  have h0 : t.size = 0 := by omega
  rw [h0]
  obtain ⟨v, hv⟩ := rep_size0 (w := w) (N := N) h0
  exact ⟨v, by simpa [seg] using hv⟩

theorem row_rep (hi : Inv c) {w' : World} {e : TypeId} {cs : Array Value} (hg : Grew c.w w' (.cells cs e)) (mu : Bool) {t : Ty} {xs : List t.D} (hx : RepL c.w c.N t xs cs) {cap : Nat} (h1 : xs.length ≤ cap) (h2 : cap * t.size ≤ cs.size) (hsp : Sp c.w c.N t xs.length cs)
    {v : AV} {s' : Store} (hm : mkRow mu c.s t xs = (v, s')) : Left P c (.ok (.slice (some ⟨c.w.heap.size, 0, none⟩) xs.length cap) w') v s' := by
  unfold mkRow at hm
  split at hm
  · simp only [Prod.mk.injEq] at hm
    obtain ⟨rfl, rfl⟩ := hm
    have hN : ∀ b, c.N b → c.N b ∧ w'.heap[b]? = c.w.heap[b]? := fun b hb => ⟨hb, hg.old (hi.old b hb)⟩
    have hat : (⟨w', c.N, c.r ++ [some c.w.heap.size], c.s ++ [.data t xs]⟩ : Cx).at c.s.length c.w.heap.size cs :=
      ⟨by simp [← hi.len], e, hg.new⟩
    obtain ⟨k1, k2⟩ := allocO hi hg (.data t xs) ⟨.inr ⟨_, cs, hat, hx.1, (hx.mono hN).2⟩, fun b' cs' hat' => by
      obtain ⟨rfl, rfl⟩ := at_eq hat hat'
      exact hsp.mono hN⟩
    exact ⟨_, _, rfl, rfl, k1, k2, rfl, .data t xs, by simp, fun _ => ⟨_, cap, rfl, h1, fun _ => ⟨_, cs, hat, rfl, h2⟩⟩⟩
  · simp only [Prod.mk.injEq] at hm
    obtain ⟨rfl, rfl⟩ := hm
    obtain ⟨k1, k2⟩ := allocF hi hg
    refine ⟨_, ⟨w', ⟨fun b => c.N b ∨ b = c.w.heap.size, c.N.d⟩, c.r, c.s⟩, rfl, rfl, k1, k2, [.slice (some ⟨c.w.heap.size, 0, none⟩) xs.length cap], by simp [Ty.isAgg], _, cap, rfl, h1, fun _ => ⟨c.w.heap.size, 0, cs, e, (0, 0), rfl, .inr rfl, hg.new, by simpa using hx.1, fun i h => ?_⟩⟩
    have := (hx.mono (k2.N hi)).2 i h
    simpa using this

/-- a new variable -/
theorem var_rep (hi : Inv c) {w' : World} {e : TypeId} {x : Value} (hg : Grew c.w w' (.cells x.cells e)) (mu : Bool) {t : Ty} {v u : AV} {s' : Store} (hr : All2 (Rep1 c) v.cells x.cells.toList) (hl : v.cells.length = t.size)
    (hm : mkVar mu c.s t v = some (u, s')) : Left P c (.ok (.pointer (some ⟨c.w.heap.size, 0, none⟩)) w') u s' := by
  have hN : ∀ b, c.N b → c.N b ∧ w'.heap[b]? = c.w.heap[b]? := fun b hb => ⟨hb, hg.old (hi.old b hb)⟩
  have hsz : x.cells.size = t.size := by rw [← hl, hr.length]; simp
  have hseg : seg x.cells 0 t.size = x.cells.toList := by simp only [seg, List.drop_zero]; exact List.take_of_length_le (by simp; omega)
  unfold mkVar at hm
  split at hm
  · simp only [Option.some.injEq, Prod.mk.injEq] at hm
    obtain ⟨rfl, rfl⟩ := hm
    have hat : ∀ bk : Blk, (⟨w', c.N, c.r ++ [some c.w.heap.size], c.s ++ [bk]⟩ : Cx).at c.s.length c.w.heap.size x.cells := fun bk =>
      ⟨by simp [← hi.len], e, hg.new⟩
    cases hd : allD t v.cells with
    | some y =>
      have hy := (allD_rep hr hd).mono hN
      obtain ⟨k1, k2⟩ := allocO hi hg (.data t [y]) ⟨.inr ⟨_, _, hat _, by simp [hsz], fun i h => by
        simp only [List.length_singleton] at h
        obtain rfl : i = 0 := by omega
        simp only [Nat.zero_mul, hseg]
        exact hy⟩, fun b' cs' hat' => by
        obtain ⟨rfl, rfl⟩ := at_eq (hat _) hat'
        exact Sp.full (by simp [hsz])⟩
      exact ⟨_, _, rfl, rfl, k1, k2, rfl, .data t [y], by simp, fun _ => ⟨_, _, hat _, by simp, by simp [Blk.len]⟩⟩
    | none =>
      have hd' := hr.mono fun p q hpq => Rep1.ext hi (allocO_ext hi hg (.node t.size [v])) hpq
      obtain ⟨k1, k2⟩ := allocO hi hg (.node t.size [v]) (.inr ⟨_, _, hat _, by simp [hsz], fun i h => by
        simp only [List.length_singleton] at h
        obtain rfl : i = 0 := by omega
        simp only [Nat.zero_mul, hseg]
        exact hd'⟩)
      exact ⟨_, _, rfl, rfl, k1, k2, rfl, .node t.size [v], by simp, fun _ => ⟨_, _, hat _, by simp, by simp [Blk.len]⟩⟩
  · cases hd : allD t v.cells with
    | none => simp [hd] at hm
    | some y =>
      simp only [hd, Option.map_some, Option.some.injEq, Prod.mk.injEq] at hm
      obtain ⟨rfl, rfl⟩ := hm
      obtain ⟨k1, k2⟩ := allocF hi hg
      refine ⟨_, ⟨w', ⟨fun b => c.N b ∨ b = c.w.heap.size, c.N.d⟩, c.r, c.s⟩, rfl, rfl, k1, k2, c.w.heap.size, 0, x.cells, e, (0, 0), by simp, .inr rfl, hg.new, by omega, ?_⟩
      rw [hseg]
      exact (allD_rep hr hd).mono (k2.N hi)

/-- n zero values in a row -/
theorem zero_row {a : Ty} {t : TypeId} (hτ : TyOk P a t) {z : Value} (hz : ∃ i, P.info? t = some i ∧ i.zero = some z) (w : World) (N : Nat → Prop) (n : Nat) {cs : Array Value}
    (hcs : ∀ j, j < n * a.size → cs[j]? = z.cells[j % a.size]?) (hsz : n * a.size ≤ cs.size) : RepL w N a (List.replicate n a.zero) cs := by
  obtain ⟨i, z', h1, h2, h3, h4, h5, h6, h7⟩ := hτ.zero
  obtain ⟨i', k1, k2⟩ := hz
  rw [h1] at k1
  obtain rfl : i = i' := by simpa using k1
  rw [h4] at k2
  obtain rfl : z' = z := by simpa using k2
  have hr := zeroIs_rep (w := w) (N := N) h5
  refine ⟨by simpa using hsz, fun j hj => ?_⟩
  simp only [List.length_replicate] at hj
  rw [List.getElem_replicate]
  have hle : j * a.size + a.size ≤ n * a.size := by
    have := Nat.mul_le_mul_right a.size (show j + 1 ≤ n by omega)
    rw [Nat.add_mul] at this; omega
  have e : seg cs (j * a.size) a.size = z'.cells.toList := by
    apply List.ext_getElem?
    intro k
    by_cases hk : k < a.size
    · rw [seg_get hk, hcs _ (by omega)]
      have : (j * a.size + k) % a.size = k := by
        rw [Nat.mul_comm, Nat.mul_add_mod, Nat.mod_eq_of_lt hk]
      rw [this]
      simp
    · rw [List.getElem?_eq_none (by rw [seg_length (by omega)]; omega), List.getElem?_eq_none (by simp; omega)]
  rw [e]
  exact hr

end
end Go.Ev

/-
  STORES, APPEND, COPY, CLEAR.
-/
namespace Go.Ev

/-- a row whose cells from o on are overwritten -/
def overA (cs : Array Value) (o : Nat) (vs : List Value) : Array Value := (cs.toList.take o ++ vs ++ cs.toList.drop (o + vs.length)).toArray

theorem overA_size {cs : Array Value} {o : Nat} {vs : List Value} (h : o + vs.length ≤ cs.size) : (overA cs o vs).size = cs.size := by
  simp [overA]; omega

theorem seg_over_out {cs : Array Value} {o p n : Nat} {vs : List Value} (h : o + vs.length ≤ cs.size) (hp : p + n ≤ o ∨ o + vs.length ≤ p) : seg (overA cs o vs) p n = seg cs p n := by
  unfold seg overA
  apply List.ext_getElem?
  intro i
  simp only [List.getElem?_append, List.getElem?_take, List.getElem?_drop, List.length_take, List.length_append, Array.length_toList]
  have e1 : min o cs.size = o := by omega
  simp only [e1]
  repeat' split
  all_goals first
    | rfl
    | omega
    | (congr 1; omega)

theorem seg_over_in {cs : Array Value} {o p n : Nat} {vs : List Value} (h1 : p ≤ o) (h2 : o + vs.length ≤ p + n) (h3 : p + n ≤ cs.size) :
    seg (overA cs o vs) p n = (seg cs p n).take (o - p) ++ vs ++ (seg cs p n).drop (o - p + vs.length) := by
  unfold seg overA
  apply List.ext_getElem?
  intro i
  simp only [List.getElem?_append, List.getElem?_take, List.getElem?_drop, List.length_take, List.length_append, List.length_drop, Array.length_toList]
  have e1 : min o cs.size = o := by omega
  have e2 : min (o - p) (min n (cs.size - p)) = o - p := by omega
  simp only [e1, e2]
  repeat' split
  all_goals first
    | rfl
    | omega
    | (congr 1; omega)

section
variable {P : Program} {c : Cx}

theorem run_storeAt {τ : Ty} {t : TypeId} (hτ : TyOk P τ t) {b o : Nat} {y : Value} {cs : Array Value} {ty : TypeId} {w : World} (hb : w.heap[b]? = some (.cells cs ty (0, 0))) (hl : y.cells.size = τ.size) (h1 : ∀ v ∈ y.cells.toList, v.oneCell' = true)
    (hfit : o + τ.size ≤ cs.size) : (Instr.storeAt t (.pointer (some ⟨b, o, none⟩)) y).run P w = .ok () (w.setRow b (overA cs o y.cells.toList)) := by
  have hst := run_storeCells_at P b o ty y.cells.toList 0 cs w hb (by simp; omega) h1
  simp only [Instr.storeAt, Instr.sureAddr, Sem.run_bind, Sem.run_pure, Result.andThen_ok, storeVar, hτ.sizeOf, hl]
  simpa [overA] using hst

theorem cells_one {vs : List AV} {cs : List Value} (h : All2 (Rep1 c) vs cs) (hk : vs.all known = true) : ∀ x ∈ cs, x.oneCell' = true := by
  induction vs generalizing cs with
  | nil => cases cs with
    | nil => simp
    | cons => exact h.elim
  | cons v vs ih => cases cs with
    | nil => exact h.elim
    | cons y cs =>
      simp only [List.all_cons, Bool.and_eq_true] at hk
      intro x hx
      rcases List.mem_cons.1 hx with rfl | hx
      · exact one_of1 h.1 (fun e => by subst e; simp [known] at hk)
      · exact ih h.2 hk.2 x hx

theorem nodeCell_cells {sz : Nat} {cs : List AV} {vs : List Value} (h : All2 (Rep1 c) cs vs) (hk : cs.all known = true) (hl : cs.length = sz) : (nodeCell sz cs).cells = cs := by
  unfold nodeCell
  split
  · rename_i h1
    match cs, vs, h with
    | [v], [x], h =>
      simp only [List.all_cons, List.all_nil, Bool.and_true] at hk
      cases v with
      | any => simp [known] at hk
      | d t y =>
        have := h.1.1
        cases t <;> simp [Ty.isAgg] at this <;> rfl
      | agg cs => exact h.1.elim
      | tup vs => exact h.1.elim
      | fn f cap => exact h.1.elim
      | _ => rfl
    | [], _, _ => simp at hl; omega
    | _ :: _ :: _, _, _ => simp at hl; omega
  · rfl

/-- a store into a node block -/
theorem Sp.weaken {w : World} {N : Nat → Prop} {t : Ty} {n m : Nat} {cs : Array Value} (h : Sp w N t n cs) (hm : n ≤ m) : Sp w N t m cs := fun i h1 h2 => h i (Nat.le_trans hm h1) h2

theorem Sp.over {w : World} {N : Nat → Prop} {t : Ty} {n o : Nat} {cs : Array Value} {vs : List Value} (h : Sp w N t n cs) (h1 : o + vs.length ≤ n * t.size) (h2 : n * t.size ≤ cs.size) : Sp w N t n (overA cs o vs) := fun i hi hf => by
  have hsz := overA_size (cs := cs) (o := o) (vs := vs) (by omega)
  rw [hsz] at hf
  have := Nat.mul_le_mul_right t.size hi
  rw [seg_over_out (by omega) (.inr (by omega))]
  exact h i hi hf

theorem storeNode_rep (hi : Inv c) {τ : Ty} {t : TypeId} (hτ : TyOk P τ t) {id i f sz b : Nat} {xs : List AV} {cs : Array Value} {y : Value} {v : AV} {s' : Store} {bk : Blk} (hbk : c.s[id]? = some bk) (hlive : bk.live) (hlen : bk.len = xs.length) (hsz : bk.sz = sz)
    (hat : c.at id b cs) (hfit : xs.length * sz ≤ cs.size) (hx : ∀ i (h : i < xs.length), All2 (Rep1 c) xs[i].cells (seg cs (i * sz) sz)) (hv : Rep3 c v y) (h : storeNode c.s id i f sz xs τ v = some s') :
    ∃ c', (Instr.storeAt t (.pointer (some ⟨b, i * sz + f, none⟩)) y).run P c.w = .ok () c'.w ∧ c'.s = s' ∧ Inv c' ∧ Ext c c' := by
  obtain ⟨hr, ty, hb⟩ := hat
  unfold storeNode at h
  cases hxi : xs[i]? with
  | none => simp [hxi] at h
  | some x =>
    simp only [hxi, Option.bind_some] at h
    split at h
    · rename_i hc
      obtain ⟨hc1, hc2, hc3⟩ := hc
      simp only [Option.some.injEq] at h
      subst h
      have hlt : i < xs.length := (List.getElem?_eq_some_iff.1 hxi).1
      have hxe : xs[i] = x := (List.getElem?_eq_some_iff.1 hxi).2
      have hx0 := hx i hlt
      rw [hxe] at hx0
      have hle : i * sz + sz ≤ xs.length * sz := by
        have := Nat.mul_le_mul_right sz (show i + 1 ≤ xs.length by omega)
        rw [Nat.add_mul] at this; omega
      have hxl : x.cells.length = sz := by rw [hx0.length, seg_length (by omega)]
      have hne : v.cells ≠ [] := by intro e; rw [e] at hc1; simp at hc1; have := hτ.pos; omega
      have h2 : Rep2 c v y := Rep2_of3 hv (fun vs e => by subst e; simp [AV.cells] at hne)
      have hcv := cells_rep h2 hne
      simp only [List.all_append, Bool.and_eq_true] at hc3
      have hone := cells_one hcv hc3.2
      have hyl : y.cells.size = τ.size := by rw [← hc1, hcv.length]; simp
      have hyl' : y.cells.toList.length = τ.size := by simp [hyl]
      have hrun := run_storeAt (P := P) hτ (o := i * sz + f) hb hyl hone (by omega)
      have hw : Wrote c.w (c.w.setRow b (overA cs (i * sz + f) y.cells.toList)) b (overA cs (i * sz + f) y.cells.toList) ty := Wrote.setRow hb
      have hsize := overA_size (cs := cs) (o := i * sz + f) (vs := y.cells.toList) (by rw [hyl']; omega)
      -- the new element
      have hnew : All2 (Rep1 c) (x.cells.take f ++ v.cells ++ x.cells.drop (f + τ.size)) (seg (overA cs (i * sz + f) y.cells.toList) (i * sz) sz) := by
        rw [seg_over_in (by omega) (by rw [hyl']; omega) (by omega), hyl']
        rw [show i * sz + f - i * sz = f by omega]
        exact ((hx0.take f).append hcv).append (hx0.drop _)
      have hkn : (x.cells.take f ++ v.cells ++ x.cells.drop (f + τ.size)).all known = true := by
        simp only [List.all_append, Bool.and_eq_true]
        refine ⟨⟨?_, hc3.2⟩, ?_⟩
        · exact List.all_eq_true.2 fun z hz => List.all_eq_true.1 hc3.1 z (List.mem_of_mem_take hz)
        · exact List.all_eq_true.2 fun z hz => List.all_eq_true.1 hc3.1 z (List.mem_of_mem_drop hz)
      have hnc := nodeCell_cells (sz := sz) hnew hkn (by simp only [List.length_append, List.length_take, List.length_drop]; omega)
      have hk : (Blk.node sz (xs.set i (nodeCell sz (x.cells.take f ++ v.cells ++ x.cells.drop (f + τ.size))))).live → bk.live ∧ (Blk.node sz (xs.set i (nodeCell sz (x.cells.take f ++ v.cells ++ x.cells.drop (f + τ.size))))).len = bk.len ∧
          (Blk.node sz (xs.set i (nodeCell sz (x.cells.take f ++ v.cells ++ x.cells.drop (f + τ.size))))).sz = bk.sz := fun _ => ⟨hlive, by rw [hlen]; simp [Blk.len], by rw [hsz]; rfl⟩
      have hE := write_ext hi hr hb hw hsize hbk hk
      have hrep : RepB ⟨c.w.setRow b (overA cs (i * sz + f) y.cells.toList), c.N, c.r, c.s.set id (.node sz (xs.set i (nodeCell sz (x.cells.take f ++ v.cells ++ x.cells.drop (f + τ.size)))))⟩ id
          (.node sz (xs.set i (nodeCell sz (x.cells.take f ++ v.cells ++ x.cells.drop (f + τ.size))))) := by
        refine .inr ⟨b, _, ⟨hr, ty, hw.here⟩, by rw [hsize]; simpa using hfit, fun j hj => ?_⟩
        simp only [List.length_set] at hj
        rw [List.getElem_set]
        split
        · rename_i e
          subst e
          rw [hnc]
          exact hnew.mono fun p q hpq => Rep1.ext hi hE hpq
        · rename_i hne
          have hjl : j * sz + sz ≤ xs.length * sz := by
            have := Nat.mul_le_mul_right sz (show j + 1 ≤ xs.length by omega)
            rw [Nat.add_mul] at this; omega
          have hdis : j * sz + sz ≤ i * sz ∨ i * sz + sz ≤ j * sz := by
            rcases Nat.lt_or_ge j i with h' | h'
            · have := Nat.mul_le_mul_right sz (show j + 1 ≤ i by omega)
              rw [Nat.add_mul] at this; omega
            · have := Nat.mul_le_mul_right sz (show i + 1 ≤ j by omega)
              rw [Nat.add_mul] at this; omega
          rw [seg_over_out (by rw [hyl']; omega) (by rw [hyl']; omega)]
          exact (hx j hj).mono fun p q hpq => Rep1.ext hi hE hpq
      obtain ⟨k1, k2⟩ := write hi hr hb hw hsize hbk hk hrep
      exact ⟨_, hrun, rfl, k1, k2⟩
    · cases h

/-- distinct elements of a row do not meet -/
theorem apart_mul {i j n : Nat} (h : i ≠ j) : i * n + n ≤ j * n ∨ j * n + n ≤ i * n := by
  rcases Nat.lt_or_ge i j with h' | h'
  · have := Nat.mul_le_mul_right n (show i + 1 ≤ j by omega)
    rw [Nat.add_mul] at this; omega
  · have := Nat.mul_le_mul_right n (show j + 1 ≤ i by omega)
    rw [Nat.add_mul] at this; omega

theorem le_mul {i m n : Nat} (h : i < m) : i * n + n ≤ m * n := by
  have := Nat.mul_le_mul_right n (show i + 1 ≤ m by omega)
  rw [Nat.add_mul] at this; omega

theorem storeV_rep (hi : Inv c) {τ : Ty} {t : TypeId} (hτ : TyOk P τ t) {p v : AV} {x y : Value} {s' : Store} (hp : Rep3 c p x) (hv : Rep3 c v y) (h : storeV c.s τ p v = some s') :
    ∃ c', (Instr.storeAt t x y).run P c.w = .ok () c'.w ∧ c'.s = s' ∧ Inv c' ∧ Ext c c' := by
  unfold storeV at h
  split at h
  · rename_i id i f
    obtain ⟨_, bk, hbk, hp⟩ := hp
    have hB := hi.blk id bk hbk
    split at h
    · rename_i a xs hs
      rw [hs] at hbk
      obtain rfl : _ = bk := by simpa using hbk
      obtain ⟨b, cs, k1, rfl, k3⟩ := hp trivial
      simp only [Blk.len, Blk.sz] at k3 ⊢
      have hsp := hB.2 b cs k1
      rcases hB with ⟨rfl | ⟨b', cs', m1, m2, m3⟩, _⟩
      · simp at k3
      · obtain ⟨rfl, rfl⟩ := at_eq k1 m1
        cases hd : allD τ v.cells with
        | none =>
          simp only [hd] at h
          refine storeNode_rep (bk := .data a xs) hi hτ hs trivial (by simp [Blk.len]) rfl k1 (by simpa using m2) (fun j hj => ?_) hv h
          simp only [List.length_map] at hj
          rw [List.getElem_map]
          exact flat_rep (m3 j hj)
        | some y' =>
          simp only [hd] at h
          cases hxi : xs[i]? with
          | none => simp [hxi] at h
          | some z =>
            cases hset : Ty.set τ y' a z f with
            | none => simp [hxi, hset] at h
            | some z' =>
              simp only [hxi, hset, Option.bind_some, Option.map_some, Option.some.injEq] at h
              subst h
              have hne : v.cells ≠ [] := by
                intro e
                rw [e] at hd
                have := (allD_rep (c := c) (vs := []) (cs := []) trivial hd).length
                have := hτ.pos
                simp at *; omega
              have h2 : Rep2 c v y := Rep2_of3 hv (fun vs e => by subst e; simp [AV.cells] at hne)
              have hcv := cells_rep h2 hne
              have hy := allD_rep hcv hd
              have hyl : y.cells.size = τ.size := by have := hy.length; simpa using this
              have hyl' : y.cells.toList.length = τ.size := by simp [hyl]
              have hlt : i < xs.length := k3
              have hxe : xs[i] = z := (List.getElem?_eq_some_iff.1 hxi).2
              have hle := le_mul (n := a.size) hlt
              have hz := m3 i hlt
              rw [hxe] at hz
              obtain ⟨g1, g2⟩ := set_ok τ y' hy hz hset
              obtain ⟨hr, ty, hb⟩ := k1
              have hrun := run_storeAt (P := P) hτ (o := i * a.size + f) hb hyl hy.one (by omega)
              have hw : Wrote c.w (c.w.setRow b (overA cs (i * a.size + f) y.cells.toList)) b (overA cs (i * a.size + f) y.cells.toList) ty := Wrote.setRow hb
              have hsize := overA_size (cs := cs) (o := i * a.size + f) (vs := y.cells.toList) (by rw [hyl']; omega)
              have hk : (Blk.data a (xs.set i z')).live → (Blk.data a xs).live ∧ (Blk.data a (xs.set i z')).len = (Blk.data a xs).len ∧ (Blk.data a (xs.set i z')).sz = (Blk.data a xs).sz := fun _ => ⟨trivial, by simp [Blk.len], rfl⟩
              have hE := write_ext hi hr hb hw hsize hs hk
              obtain ⟨q1, q2⟩ := write hi hr hb hw hsize hs hk ⟨.inr ⟨b, _, ⟨hr, ty, hw.here⟩, by rw [hsize]; simpa using m2, fun j hj => by
                simp only [List.length_set] at hj
                rw [List.getElem_set]
                split
                · rename_i e
                  subst e
                  rw [seg_over_in (by omega) (by rw [hyl']; omega) (by omega), hyl', show i * a.size + f - i * a.size = f by omega]
                  exact g2.mono (hE.N hi)
                · rename_i hne
                  have hjl := le_mul (n := a.size) hj
                  have hdis := apart_mul (n := a.size) (show j ≠ i from fun e => hne e.symm)
                  rw [seg_over_out (by rw [hyl']; omega) (by rw [hyl']; omega)]
                  exact (m3 j hj).mono (hE.N hi)⟩, spOne (c := ⟨c.w.setRow b (overA cs (i * a.size + f) y.cells.toList), c.N, c.r, c.s.set id (.data a (xs.set i z'))⟩) ⟨hr, ty, hw.here⟩ (by rw [List.length_set]; exact (hsp.over (by rw [hyl']; omega) m2).mono (hE.N hi))⟩
              exact ⟨_, hrun, rfl, q1, q2⟩
    · rename_i sz xs hs
      rw [hs] at hbk
      obtain rfl : _ = bk := by simpa using hbk
      obtain ⟨b, cs, k1, rfl, k3⟩ := hp trivial
      simp only [Blk.len, Blk.sz] at k3 ⊢
      rcases hB with rfl | ⟨b', cs', m1, m2, m3⟩
      · simp at k3
      · obtain ⟨rfl, rfl⟩ := at_eq k1 m1
        exact storeNode_rep (bk := .node sz xs) hi hτ hs trivial rfl rfl k1 m2 m3 hv h
    · cases h
  · cases h

/-- the elements of a slice: where they lie -/
theorem elems_rep (hi : Inv c) {a : Ty} {v : AV} {x : Value} {ys : List a.D} (ha : 0 < a.size) (hr : Rep3 c v x) (h : elems c.s a v = some ys) :
    ∃ base cap, x = .slice base ys.length cap ∧ ys.length ≤ cap ∧ (ys ≠ [] → ∃ b o cs ty fr, base = some ⟨b, o, none⟩ ∧ c.w.heap[b]? = some (.cells cs ty fr) ∧ o + ys.length * a.size ≤ cs.size ∧
      ∀ i (h : i < ys.length), RepC c.w c.N a ys[i] (seg cs (o + i * a.size) a.size)) := by
  -- a part of a block
  have part : ∀ (id : Nat) (base : Option Addr) (cap off len : Nat) (bk : Blk), c.s[id]? = some bk → bk.live → off + len ≤ bk.len → len ≤ cap → (cap ≠ 0 → ∃ b cs, c.at id b cs ∧ base = some ⟨b, off * bk.sz, none⟩ ∧ (off + cap) * bk.sz ≤ cs.size) →
      (∃ xs, bk = .data a xs ∧ ys = (xs.drop off).take len) ∨ (∃ sz xs, bk = .node sz xs ∧ mapO (fun x => allD a x.cells) ((xs.drop off).take len) = some ys) →
      x = .slice base len cap → ∃ base cap, x = .slice base ys.length cap ∧ ys.length ≤ cap ∧ (ys ≠ [] → ∃ b o cs ty fr, base = some ⟨b, o, none⟩ ∧ c.w.heap[b]? = some (.cells cs ty fr) ∧ o + ys.length * a.size ≤ cs.size ∧
        ∀ i (h : i < ys.length), RepC c.w c.N a ys[i] (seg cs (o + i * a.size) a.size)) := by
    intro id base cap off len bk hbk hl h1 h2 h3 h4 h5
    have hB := hi.blk id bk hbk
    rcases h4 with ⟨xs, rfl, rfl⟩ | ⟨sz, xs, rfl, hm⟩
    · simp only [Blk.len, Blk.sz] at h1 h3
      have hlen : ((xs.drop off).take len).length = len := by simp; omega
      refine ⟨base, cap, by rw [hlen]; exact h5, by omega, fun hne => ?_⟩
      have hpos : 0 < len := by rw [← hlen]; exact List.length_pos_iff.2 hne
      obtain ⟨b, cs, k1, k2, k3⟩ := h3 (by omega)
      rcases hB with rfl | ⟨b', cs', m1, m2, m3⟩
      · simp at h1; omega
      · obtain ⟨rfl, rfl⟩ := at_eq k1 m1
        refine ⟨b, off * a.size, cs, k1.2.choose, (0, 0), k2, k1.2.choose_spec, ?_, fun i hi' => ?_⟩
        · rw [hlen, ← Nat.add_mul]
          exact Nat.le_trans (Nat.mul_le_mul_right _ h1) m2
        · have := m3 (off + i) (by omega)
          rw [Nat.add_mul] at this
          simpa using this
    · simp only [Blk.len, Blk.sz] at h1 h3
      have hm' := mapO_some hm
      have hlen : ((xs.drop off).take len).length = len := by simp; omega
      rw [hlen] at hm'
      refine ⟨base, cap, by rw [hm'.1]; exact h5, by omega, fun hne => ?_⟩
      have hpos : 0 < len := by rw [← hm'.1]; exact List.length_pos_iff.2 hne
      obtain ⟨b, cs, k1, k2, k3⟩ := h3 (by omega)
      rcases hB with rfl | ⟨b', cs', m1, m2, m3⟩
      · simp at h1; omega
      · obtain ⟨rfl, rfl⟩ := at_eq k1 m1
        have hel : ∀ i (hi' : i < ys.length), RepC c.w c.N a ys[i] (seg cs ((off + i) * sz) sz) := fun i hi' => by
          have hx : off + i < xs.length := by omega
          obtain ⟨z, z1, z2⟩ := hm'.2 i xs[off + i] (by simp [List.getElem?_take, show i < len by omega, hx])
          have hz : ys[i] = z := by simpa [hi'] using z1
          rw [hz]
          exact allD_rep (m3 (off + i) hx) z2
        have hsz0 : sz = a.size := by
          have h5 := (hel 0 (by omega)).length
          have := le_mul (n := sz) (show off + 0 < xs.length by omega)
          rw [seg_length (by omega)] at h5
          exact h5
        subst hsz0
        refine ⟨b, off * a.size, cs, k1.2.choose, (0, 0), k2, k1.2.choose_spec, ?_, fun i hi' => ?_⟩
        · rw [hm'.1, ← Nat.add_mul]
          exact Nat.le_trans (Nat.mul_le_mul_right _ h1) m2
        · have := hel i hi'
          rw [Nat.add_mul] at this
          exact this
  unfold elems at h
  split at h
  · obtain ⟨cs, h1, h2⟩ := hr
    obtain ⟨e, rfl⟩ := castD_some h
    subst e
    simp [Ty.isAgg] at h1
    subst h1
    obtain ⟨base, cap, h3, h4, h5⟩ := h2
    simp only [List.cons.injEq, and_true] at h3
    subst h3
    refine ⟨base, cap, rfl, h4, fun hne => ?_⟩
    obtain ⟨b, o, cs, ty, fr, k1, k2, k3, k4, k5⟩ := h5 hne
    exact ⟨b, o, cs, ty, fr, k1, k3, k4, k5⟩
  · split at h
    · simp only [Option.some.injEq] at h
      subst h
      obtain ⟨base, rfl⟩ := hr
      exact ⟨base, 0, rfl, Nat.le_refl _, fun hne => absurd rfl hne⟩
    · cases h
  · rename_i id
    obtain ⟨_, bk, hbk, hr⟩ := hr
    split at h
    · rename_i b xs hs
      rw [hs] at hbk
      obtain rfl : _ = bk := by simpa using hbk
      obtain ⟨base, cap, rfl, h2, h3⟩ := hr trivial
      obtain ⟨e, rfl⟩ := castD_some h
      obtain rfl : b = a := by simpa using e
      exact part id base cap 0 xs.length _ hs trivial (by simp [Blk.len]) h2 (fun hc => by simpa using h3 hc) (.inl ⟨xs, rfl, by simp⟩) rfl
    · rename_i sz xs hs
      rw [hs] at hbk
      obtain rfl : _ = bk := by simpa using hbk
      obtain ⟨base, cap, rfl, h2, h3⟩ := hr trivial
      exact part id base cap 0 xs.length _ hs trivial (by simp [Blk.len]) h2 (fun hc => by simpa using h3 hc) (.inr ⟨sz, xs, rfl, by simpa using h⟩) rfl
    · cases h
  · rename_i id off len tight
    obtain ⟨_, bk, hbk, hr⟩ := hr
    split at h
    · rename_i b xs hs
      rw [hs] at hbk
      obtain rfl : _ = bk := by simpa using hbk
      obtain ⟨base, cap, rfl, h1, h2, _, _, h3⟩ := hr trivial
      cases hcast : castD (a := .sl b) (.sl a) xs with
      | none => simp [hcast] at h
      | some zs =>
        obtain ⟨e, hzs⟩ := castD_some hcast
        obtain rfl : b = a := by simpa using e
        simp only at hzs
        subst hzs
        simp only [hcast, Option.map_some, Option.some.injEq] at h
        subst h
        exact part id base cap off len _ hs trivial h1 h2 h3 (.inl ⟨_, rfl, rfl⟩) rfl
    · rename_i sz xs hs
      rw [hs] at hbk
      obtain rfl : _ = bk := by simpa using hbk
      obtain ⟨base, cap, rfl, h1, h2, _, _, h3⟩ := hr trivial
      exact part id base cap off len _ hs trivial h1 h2 h3 (.inr ⟨sz, xs, rfl, h⟩) rfl
    · cases h
  · cases h

end
end Go.Ev

/-
  APPEND, COPY, CLEAR.
-/
namespace Go.Ev

section
variable {P : Program} {c : Cx}

/-- a source of n elements: their cells, one behind the other -/
def Src (w : World) (base : Option Addr) (n size : Nat) (news : List Value) : Prop :=
  news.length = n * size ∧ (0 < news.length → ∃ b o cs ty fr, base = some ⟨b, o, none⟩ ∧ w.heap[b]? = some (.cells cs ty fr) ∧ o + n * size ≤ cs.size ∧ news = seg cs o (n * size))

theorem Src.run {w : World} {base : Option Addr} {n size : Nat} {news : List Value} (h : Src w base n size news) (len cap : Nat) : (Builtin.firstCells size n (.slice base len cap)).run P w = .ok news.toArray w := by
  obtain ⟨h1, h2⟩ := h
  by_cases h0 : 0 < news.length
  · obtain ⟨b, o, cs, ty, fr, rfl, k2, k3, k4⟩ := h2 h0
    refine run_firstCells_some (P := P) w size n ⟨b, o, none⟩ len cap news h1 fun j v hj => ?_
    rw [Addr.add_lit]
    rw [k4] at hj
    have hlt : j < n * size := by
      have := (List.getElem?_eq_some_iff.1 hj).1
      rwa [seg_length k3] at this
    rw [seg_get hlt] at hj
    simpa [World.cell?, k2] using hj
  · have hn : news = [] := List.eq_nil_of_length_eq_zero (by omega)
    subst hn
    simp at h1
    cases base with
    | none => simp [Builtin.firstCells]
    | some a => simp [Builtin.firstCells, ← h1, loadCells, loadCellsFrom]

theorem Src.drew {w w' : World} (hw : w'.heap = w.heap) {base : Option Addr} {n size : Nat} {news : List Value} (h : Src w base n size news) : Src w' base n size news :=
  ⟨h.1, fun h0 => by obtain ⟨b, o, cs, ty, fr, k1, k2, k3, k4⟩ := h.2 h0; exact ⟨b, o, cs, ty, fr, k1, by rw [hw]; exact k2, k3, k4⟩⟩

/-- the elements as cells -/
def cellsOf (w : World) (N : Nat → Prop) (t : Ty) (xs : List t.D) (news : List Value) : Prop :=
  news.length = xs.length * t.size ∧ ∀ i (h : i < xs.length), RepC w N t xs[i] ((news.drop (i * t.size)).take t.size)

theorem elems_src (hi : Inv c) {a : Ty} {v : AV} {x : Value} {ys : List a.D} (ha : 0 < a.size) (hr : Rep3 c v x) (h : elems c.s a v = some ys) :
    ∃ base cap news, x = .slice base ys.length cap ∧ ys.length ≤ cap ∧ Src c.w base ys.length a.size news ∧ cellsOf c.w c.N a ys news := by
  obtain ⟨base, cap, h1, h2, h3⟩ := elems_rep hi ha hr h
  by_cases hne : ys = []
  · subst hne
    exact ⟨base, cap, [], h1, h2, ⟨by simp, fun h0 => by simp at h0⟩, by simp, fun i hi => by simp at hi⟩
  · obtain ⟨b, o, cs, ty, fr, k1, k2, k3, k4⟩ := h3 hne
    refine ⟨base, cap, seg cs o (ys.length * a.size), h1, h2, ⟨seg_length k3, fun _ => ⟨b, o, cs, ty, fr, k1, k2, k3, rfl⟩⟩, seg_length k3, fun i hi' => ?_⟩
    have hle := le_mul (n := a.size) hi'
    rw [seg_seg (by omega)]
    exact k4 i hi'

theorem cellsOf.one {w : World} {N : Nat → Prop} {t : Ty} {xs : List t.D} {news : List Value} (h : cellsOf w N t xs news) : ∀ x ∈ news, x.oneCell' = true := by
  intro x hx
  obtain ⟨j, hj⟩ := List.mem_iff_getElem?.1 hx
  have hlt : j < news.length := (List.getElem?_eq_some_iff.1 hj).1
  rw [h.1] at hlt
  have hpos : 0 < t.size := by
    rcases Nat.eq_zero_or_pos t.size with e | e
    · rw [e] at hlt; simp at hlt
    · exact e
  have hq : j / t.size < xs.length := (Nat.div_lt_iff_lt_mul hpos).2 hlt
  refine (h.2 _ hq).one x ?_
  refine List.mem_iff_getElem?.2 ⟨j % t.size, ?_⟩
  rw [List.getElem?_take, if_pos (Nat.mod_lt _ hpos), List.getElem?_drop]
  rw [show j / t.size * t.size + j % t.size = j by rw [Nat.mul_comm]; exact Nat.div_add_mod _ _]
  exact hj

/-- what is appended: n elements, their cells; a slice's, or zero values -/
def Tail (P : Program) (ts : Array TypeId) (args : Array Value) (i : TypeInfo) (z : Value) (n : Nat) (news : List Value) (w : World) : Prop :=
  news.length = n * i.size ∧ ((∃ u e' xb xc, ts[1]? = some u ∧ P.underlying u = some (.slice e') ∧ args[1]? = some (.slice xb n xc) ∧ Src w xb n i.size news) ∨
    (∃ u k k', ts[1]? = some u ∧ P.underlying u = some (.int k) ∧ args[1]? = some (.int k' (n : Int)) ∧ n ≤ 1099511627776 ∧ news = (Builtin.zeroCells z.cells n).toList))

theorem Tail.ofSrc {ts : Array TypeId} {args : Array Value} {i : TypeInfo} {z : Value} {n : Nat} {news : List Value} {w : World} {u e' : TypeId} {xb : Option Addr} {xc : Nat}
    (h1 : ts[1]? = some u) (h2 : P.underlying u = some (.slice e')) (h3 : args[1]? = some (.slice xb n xc)) (h : Src w xb n i.size news) : Tail P ts args i z n news w := ⟨h.1, .inl ⟨u, e', xb, xc, h1, h2, h3, h⟩⟩

theorem zeroCells_none {z : Value} {i : TypeInfo} {n : Nat} (hzs : z.cells.size = i.size) (h : n * i.size = 0) : Builtin.zeroCells z.cells n = #[] :=
  Array.eq_empty_of_size_eq_zero (by rw [size_zeroCells, hzs, h])

/-- append where the row has no room: a new row -/
theorem run_append_out {ts : Array TypeId} {ty t e : TypeId} {args : Array Value} {i : TypeInfo} {z : Value} (ht0 : ts[0]? = some t) (ht : P.underlying t = some (.slice e))
    (hi : P.info? e = some i) (hz : i.zero = some z) {base : Option Addr} {sLen sCap n : Nat} (h0 : args[0]? = some (.slice base sLen sCap)) {olds news : List Value} {w : World}
    (hold : Src w base sLen i.size olds) (hnew : Tail P ts args i z n news w) (hg : sCap < sLen + n) (hlim : sLen + n ≤ 1099511627776) (hby : i.bytes ≤ 128) (hzs : z.cells.size = i.size) :
    ∃ cap' w', (Builtin.append_ ts ty args).run P w = .ok (.slice (some ⟨w.heap.size, 0, none⟩) (sLen + n) cap') w' ∧ sLen + n ≤ cap' ∧
      ∃ rest : List Value, Grew w w' (.cells (olds ++ news ++ rest).toArray e) ∧ (olds ++ news ++ rest).length = cap' * i.size ∧ ∃ k, rest = (Builtin.zeroCells z.cells k).toList := by
  have hn : ¬ (sLen + n ≤ sCap) := by omega
  have h63' : ¬ (9223372036854775807 < ((sLen : Int) + (n : Int))) := by omega
  have hfit := growslice_fits (need := sLen + n) (old := sCap) (bytes := i.bytes) hg (by
    have := Nat.mul_le_mul hlim hby; omega)
  have h48' : ¬ (281474976710656 < Builtin.nextslicecap (sLen + n) sCap * i.bytes) := by omega
  have hfo := (hold.drew (w' := w.drew) rfl).run (P := P) sLen sCap
  have hge := grownCap_ge w (sLen + n) sCap e
  refine ⟨grownCap w (sLen + n) sCap e, w.drew.alloc (.cells ((olds ++ news ++ (Builtin.zeroCells z.cells (grownCap w (sLen + n) sCap e - (sLen + n))).toList).toArray) e), ?_, hge, (Builtin.zeroCells z.cells (grownCap w (sLen + n) sCap e - (sLen + n))).toList, Grew.drewAlloc _ _ _, ?_, _, rfl⟩
  · rcases hnew.2 with ⟨u, e', xb, xc, ht1, hu, h1, hsrc⟩ | ⟨u, k, k', ht1, hu, h1, hb, hne⟩
    · have hf := (hsrc.drew (w' := w.drew) rfl).run (P := P) n xc
      simp [Builtin.append_, ht0, ht1, h0, h1, run_underlying ht, run_underlying hu, sizeOf, typeInfo, zeroValue, hi, hz, Builtin.lenOf, hn, h63', h48', Question.forced, hf, hfo, newRow, grownCap]
      congr 2
      apply Array.ext'
      simp [List.append_assoc]
    · have hw : IntKind.i64.wrap (n : Int) = (n : Int) := by rw [IntKind.wrap_i64]; omega
      have hneg : ¬ ((n : Int) < 0) := by omega
      have hbig : ¬ (281474976710656 < (n : Int) * (i.bytes : Int)) := by
        have h := Nat.mul_le_mul hb hby
        have h' : ((n * i.bytes : Nat) : Int) ≤ 1099511627776 * 128 := by omega
        rw [Int.natCast_mul] at h'
        omega
      subst hne
      have h8 := zeroCells_none (n := n) hzs
      by_cases h9 : n * i.size = 0
      · simp [Builtin.append_, asInt, asIntOf, ht0, ht1, h0, h1, run_underlying ht, run_underlying hu, sizeOf, typeInfo, zeroValue, hi, hz, hw, hneg, hbig, hn, h63', h48', Question.forced, hfo, newRow, grownCap, h8 h9]
        congr 2
        apply Array.ext'
        simp [List.append_assoc]
      · simp [Builtin.append_, asInt, asIntOf, ht0, ht1, h0, h1, run_underlying ht, run_underlying hu, sizeOf, typeInfo, zeroValue, hi, hz, hw, hneg, hbig, hn, h63', h48', Question.forced, hfo, newRow, grownCap]
        try rw [if_neg (by simpa using h9)]
        congr 3
        apply Array.ext'
        simp [List.append_assoc]
  · simp only [List.length_append, hold.1, hnew.1, Array.length_toList, size_zeroCells, hzs, ← Nat.add_mul]
    congr 1
    omega

/-- append where the row has room -/
theorem run_append_in {ts : Array TypeId} {ty t e : TypeId} {args : Array Value} {i : TypeInfo} {z : Value} (ht0 : ts[0]? = some t) (ht : P.underlying t = some (.slice e))
    (hi : P.info? e = some i) (hz : i.zero = some z) (hby : i.bytes ≤ 128) (hzs : z.cells.size = i.size) {b o : Nat} {sLen sCap n : Nat} (h0 : args[0]? = some (.slice (some ⟨b, o, none⟩) sLen sCap)) {news : List Value} {w : World}
    (hnew : Tail P ts args i z n news w) (hg : sLen + n ≤ sCap) {cur : Array Value} {tb : TypeId} (hb : w.heap[b]? = some (.cells cur tb (0, 0))) (hfit : o + (sLen + n) * i.size ≤ cur.size) (hone : ∀ x ∈ news, x.oneCell' = true) :
    (Builtin.append_ ts ty args).run P w = .ok (.slice (some ⟨b, o, none⟩) (sLen + n) sCap) (w.setRow b (overA cur (o + sLen * i.size) news)) := by
  have hst := run_storeCells_at P b (o + sLen * i.size) tb news 0 cur w hb (by rw [hnew.1]; simp only [Nat.add_mul] at hfit; omega) hone
  simp only [Nat.add_zero] at hst
  rcases hnew.2 with ⟨u, e', xb, xc, ht1, hu, h1, hsrc⟩ | ⟨u, k, k', ht1, hu, h1, hbn, hne⟩
  · have hf := hsrc.run (P := P) n xc
    simp [Builtin.append_, ht0, ht1, h0, h1, run_underlying ht, run_underlying hu, sizeOf, typeInfo, hi, Builtin.lenOf, hg, hf, Addr.add_lit, hst, overA]
  · have hw : IntKind.i64.wrap (n : Int) = (n : Int) := by rw [IntKind.wrap_i64]; omega
    have hneg : ¬ ((n : Int) < 0) := by omega
    have hbig : ¬ (281474976710656 < (n : Int) * (i.bytes : Int)) := by
      have h := Nat.mul_le_mul hbn hby
      have h' : ((n * i.bytes : Nat) : Int) ≤ 1099511627776 * 128 := by omega
      rw [Int.natCast_mul] at h'
      omega
    subst hne
    have h8 := zeroCells_none (n := n) hzs
    by_cases h9 : n * i.size = 0
    · rw [h8 h9] at hst ⊢
      simp [Builtin.append_, asInt, asIntOf, ht0, ht1, h0, h1, run_underlying ht, run_underlying hu, sizeOf, typeInfo, zeroValue, hi, hz, hw, hneg, hbig, hg, Addr.add_lit, hst, overA]
      intro h; exact absurd h9 h
    · simp [Builtin.append_, asInt, asIntOf, ht0, ht1, h0, h1, run_underlying ht, run_underlying hu, sizeOf, typeInfo, zeroValue, hi, hz, hw, hneg, hbig, hg, Addr.add_lit, hst, overA]
      intro h; exact absurd h h9

/-- append of nothing to nothing -/
theorem run_append_none {ts : Array TypeId} {ty t e : TypeId} {args : Array Value} {i : TypeInfo} {z : Value} (ht0 : ts[0]? = some t) (ht : P.underlying t = some (.slice e))
    (hi : P.info? e = some i) {base : Option Addr} {sLen sCap : Nat} (h0 : args[0]? = some (.slice base sLen sCap)) {news : List Value} {w : World} (hnew : Tail P ts args i z 0 news w) (hg : sLen ≤ sCap) :
    (Builtin.append_ ts ty args).run P w = .ok (.slice base sLen sCap) w := by
  rcases hnew.2 with ⟨u, e', xb, xc, ht1, hu, h1, hsrc⟩ | ⟨u, k, k', ht1, hu, h1, hbn, hne⟩
  · have hf := (show Src w xb 0 i.size [] from ⟨by simp, fun h => by simp at h⟩).run (P := P) 0 xc
    cases base with
    | none => simp [Builtin.append_, ht0, ht1, h0, h1, run_underlying ht, run_underlying hu, sizeOf, typeInfo, hi, Builtin.lenOf, hg, hf]
    | some a => simp [Builtin.append_, ht0, ht1, h0, h1, run_underlying ht, run_underlying hu, sizeOf, typeInfo, hi, Builtin.lenOf, hg, hf, storeCells]
  · have hw : IntKind.i64.wrap (0 : Int) = (0 : Int) := by rw [IntKind.wrap_i64]; omega
    cases base with
    | none => simp [Builtin.append_, ht0, ht1, h0, h1, asInt, asIntOf, run_underlying ht, run_underlying hu, sizeOf, typeInfo, hi, hw, hg]
    | some a => simp [Builtin.append_, ht0, ht1, h0, h1, asInt, asIntOf, run_underlying ht, run_underlying hu, sizeOf, typeInfo, hi, hw, hg, storeCells]

/-- rows out of cells -/
theorem RepL_append {w : World} {N : Nat → Prop} {a : Ty} {xs ys : List a.D} {olds news rest : List Value} (hx : cellsOf w N a xs olds) (hy : cellsOf w N a ys news) : RepL w N a (xs ++ ys) (olds ++ news ++ rest).toArray := by
  refine ⟨by simp [hx.1, hy.1, Nat.add_mul], fun i hi => ?_⟩
  simp only [List.length_append] at hi
  unfold seg
  rw [List.getElem_append]
  split
  · rename_i hlt
    have hle := le_mul (n := a.size) hlt
    have := hx.2 i hlt
    have e : (((olds ++ news ++ rest).toArray.toList.drop (i * a.size)).take a.size) = (olds.drop (i * a.size)).take a.size := by
      apply List.ext_getElem?
      intro k
      simp only [List.getElem?_take, List.getElem?_drop, List.getElem?_append, List.length_append, hx.1]
      repeat' split
      all_goals first
        | rfl
        | omega
    rw [e]; exact this
  · rename_i hge
    have hlt : i - xs.length < ys.length := by omega
    have hle := le_mul (n := a.size) hlt
    have hmul : i * a.size = xs.length * a.size + (i - xs.length) * a.size := by rw [← Nat.add_mul]; congr 1; omega
    have := hy.2 (i - xs.length) hlt
    have e : (((olds ++ news ++ rest).toArray.toList.drop (i * a.size)).take a.size) = (news.drop ((i - xs.length) * a.size)).take a.size := by
      apply List.ext_getElem?
      intro k
      simp only [List.getElem?_take, List.getElem?_drop, List.getElem?_append, List.length_append, hx.1, hy.1]
      repeat' split
      all_goals first
        | rfl
        | omega
        | (congr 1; omega)
    rw [e]; exact this

theorem cellsOf.nil (w : World) (N : Nat → Prop) (a : Ty) : cellsOf w N a [] [] := ⟨by simp, fun i h => by simp at h⟩

/-- a part of a row, as cells -/
theorem cellsOf_seg {w : World} {N : Nat → Prop} {a : Ty} {xs : List a.D} {cs : Array Value} (h : RepL w N a xs cs) {off len : Nat} (hl : off + len ≤ xs.length) : cellsOf w N a ((xs.drop off).take len) (seg cs (off * a.size) (len * a.size)) := by
  have hlen : ((xs.drop off).take len).length = len := by simp; omega
  have hfit : off * a.size + len * a.size ≤ cs.size := by
    rw [← Nat.add_mul]; exact Nat.le_trans (Nat.mul_le_mul_right _ hl) h.1
  refine ⟨by rw [seg_length hfit, hlen], fun i hi => ?_⟩
  rw [hlen] at hi
  have hle := le_mul (n := a.size) hi
  rw [seg_seg (by omega), ← Nat.add_mul]
  have := h.2 (off + i) (by omega)
  simpa using this

/-- n zero values as cells -/
theorem zeros_cells {a : Ty} {t : TypeId} (hτ : TyOk P a t) {z : Value} (hz : ∃ i, P.info? t = some i ∧ i.zero = some z) (w : World) (N : Nat → Prop) (n : Nat) (hs : z.cells.size = a.size) : cellsOf w N a (List.replicate n a.zero) (Builtin.zeroCells z.cells n).toList := by
  have hsz : (Builtin.zeroCells z.cells n).size = n * a.size := by rw [size_zeroCells, hs]
  have h := zero_row hτ hz w N n (cs := Builtin.zeroCells z.cells n) (fun j hj => by
    simp only [Builtin.zeroCells]
    rw [Array.getElem?_map, Array.getElem?_range, if_pos (by rw [hs]; exact hj)]
    simp only [Option.map_some]
    have hp : 0 < z.cells.size := by
      rw [hs]
      rcases Nat.eq_zero_or_pos a.size with e | e
      · rw [e] at hj; simp at hj
      · exact e
    have hlt : j % z.cells.size < z.cells.size := Nat.mod_lt _ hp
    rw [getElem!_pos z.cells _ hlt, ← hs, Array.getElem?_eq_getElem hlt]) (by rw [hsz]; exact Nat.le_refl _)
  refine ⟨by simp [hsz], fun i hi => ?_⟩
  have := h.2 i hi
  exact this

theorem Sp_of {w : World} {N : Nat → Prop} {a : Ty} {xs zs : List a.D} {cs : Array Value} (h : RepL w N a (xs ++ zs) cs) (hs : cs.size ≤ (xs.length + zs.length) * a.size) : Sp w N a xs.length cs := by
  intro i h1 h2
  by_cases h0 : a.size = 0
  · rw [h0]
    obtain ⟨v, hv⟩ := rep_size0 (w := w) (N := N) h0
    exact ⟨v, by simpa [seg] using hv⟩
  · have hlt : i < xs.length + zs.length := by
      rcases Nat.lt_or_ge i (xs.length + zs.length) with q | q
      · exact q
      · have := Nat.mul_le_mul_right a.size q
        omega
    exact ⟨_, h.2 i (by simpa using hlt)⟩

theorem Sp.join {w : World} {N : Nat → Prop} {a : Ty} {xs ys : List a.D} {cs : Array Value} (h : RepL w N a (xs ++ ys) cs) (hs : Sp w N a (xs ++ ys).length cs) : Sp w N a xs.length cs := fun i h1 h2 => by
  rcases Nat.lt_or_ge i (xs ++ ys).length with q | q
  · exact ⟨_, h.2 i q⟩
  · exact hs i q h2

theorem cellsOf_app {w : World} {N : Nat → Prop} {a : Ty} {xs ys : List a.D} {olds news : List Value} (hx : cellsOf w N a xs olds) (hy : cellsOf w N a ys news) : cellsOf w N a (xs ++ ys) (olds ++ news) := by
  have h := RepL_append (rest := []) hx hy
  have h2 := cellsOf_seg h (off := 0) (len := (xs ++ ys).length) (by omega)
  simp only [List.drop_zero, List.take_length, Nat.zero_mul, List.append_nil] at h2
  have e : seg (olds ++ news).toArray 0 ((xs ++ ys).length * a.size) = olds ++ news := by
    unfold seg
    simp only [List.drop_zero]
    exact List.take_of_length_le (by simp [hx.1, hy.1, Nat.add_mul])
  rwa [e] at h2

end
end Go.Ev

/-
  APPEND: the evaluator's against the machine's.
-/
namespace Go.Ev

section
variable {P : Program} {c : Cx}

theorem Left.trans {c1 : Cx} {run : Result Value} {v : AV} {s' : Store} (hE : Ext c c1) (h : Left P c1 run v s') : Left P c run v s' := by
  obtain ⟨x, c', h1, h2, h3, h4, h5⟩ := h
  exact ⟨x, c', h1, h2, h3, hE.trans h4, h5⟩

/-- nothing, over no row -/
theorem empty_rep (hi : Inv c) (mu : Bool) (a : Ty) (base : Option Addr) {v : AV} {s' : Store} (hm : mkRow mu c.s a [] = (v, s')) : Left P c (.ok (.slice base 0 0) c.w) v s' := by
  unfold mkRow at hm
  split at hm
  · simp only [Prod.mk.injEq] at hm
    obtain ⟨rfl, rfl⟩ := hm
    obtain ⟨k1, k2⟩ := pushEmpty hi a
    exact ⟨_, ⟨c.w, c.N, c.r ++ [none], c.s ++ [.data a []]⟩, rfl, rfl, k1, k2, rfl, .data a [], by simp, fun _ => ⟨base, 0, rfl, Nat.le_refl _, fun h => absurd rfl h⟩⟩
  · simp only [Prod.mk.injEq] at hm
    obtain ⟨rfl, rfl⟩ := hm
    exact ⟨_, c, rfl, rfl, hi, Ext.refl c, [.slice base 0 0], by simp [Ty.isAgg], base, 0, rfl, Nat.le_refl _, fun h => absurd rfl h⟩

theorem set_self {α : Type} {s : List α} {i : Nat} {x : α} (h : s[i]? = some x) : s.set i x = s := by
  apply List.ext_getElem?
  intro j
  rw [List.getElem?_set]
  by_cases e : i = j
  · subst e
    obtain ⟨h1, h2⟩ := List.getElem?_eq_some_iff.1 h
    simp [h1, h2]
  · simp [e]

theorem over_length {α : Type} (xs ys : List α) (n : Nat) (h : n + ys.length ≤ xs.length) : (over xs n ys).length = xs.length := by
  simp [over]; omega

theorem over_get {α : Type} (xs ys : List α) (n i : Nat) (h : n + ys.length ≤ xs.length) : (over xs n ys)[i]? = if i < n then xs[i]? else if i < n + ys.length then ys[i - n]? else xs[i]? := by
  unfold over
  simp only [List.getElem?_append, List.getElem?_take, List.getElem?_drop, List.length_take, List.length_append]
  have e : min n xs.length = n := by omega
  simp only [e]
  repeat' split
  all_goals first
    | rfl
    | omega
    | (congr 1; omega)

/-- elements overwritten in a row -/
theorem RepL_over {w : World} {N : Nat → Prop} {a : Ty} {xs ys : List a.D} {cs : Array Value} {news : List Value} {n : Nat} (hx : RepL w N a xs cs) (hy : cellsOf w N a ys news) (hn : n + ys.length ≤ xs.length) :
    RepL w N a (over xs n ys) (overA cs (n * a.size) news) := by
  have hle : n * a.size + ys.length * a.size ≤ xs.length * a.size := by rw [← Nat.add_mul]; exact Nat.mul_le_mul_right _ hn
  have hfit : n * a.size + news.length ≤ cs.size := by rw [hy.1]; exact Nat.le_trans hle hx.1
  refine ⟨by rw [over_length _ _ _ hn, overA_size hfit]; exact hx.1, fun i hi => ?_⟩
  have hil : i < xs.length := by rwa [over_length _ _ _ hn] at hi
  have hli := le_mul (n := a.size) hil
  have hsz := hx.1
  have hget := over_get xs ys n i hn
  rw [List.getElem?_eq_getElem hi] at hget
  split at hget
  · rename_i h1
    rw [List.getElem?_eq_getElem hil] at hget
    simp only [Option.some.injEq] at hget
    rw [hget, seg_over_out hfit (.inl (by have := le_mul (n := a.size) h1; omega))]
    exact hx.2 i hil
  · split at hget
    · rename_i h1 h2
      have h3 : i - n < ys.length := by omega
      rw [List.getElem?_eq_getElem h3] at hget
      simp only [Option.some.injEq] at hget
      have hm : i * a.size = n * a.size + (i - n) * a.size := by rw [← Nat.add_mul]; congr 1; omega
      have hl3 := le_mul (n := a.size) h3
      rw [hget]
      have := hy.2 (i - n) h3
      have e : seg (overA cs (n * a.size) news) (i * a.size) a.size = (news.drop ((i - n) * a.size)).take a.size := by
        unfold seg overA
        apply List.ext_getElem?
        intro k
        simp only [List.getElem?_take, List.getElem?_drop, List.getElem?_append, List.length_take, List.length_append, Array.length_toList, hy.1]
        have e1 : min (n * a.size) cs.size = n * a.size := by omega
        simp only [e1]
        repeat' split
        all_goals first
          | rfl
          | omega
          | (congr 1; omega)
      rw [e]; exact this
    · rename_i h1 h2
      rw [List.getElem?_eq_getElem hil] at hget
      simp only [Option.some.injEq] at hget
      have h4 : n * a.size + ys.length * a.size ≤ i * a.size := by rw [← Nat.add_mul]; exact Nat.mul_le_mul_right _ (by omega)
      rw [hget, seg_over_out hfit (.inr (by rw [hy.1]; omega))]
      exact hx.2 i hil

theorem RepB.toL {id : Nat} {a : Ty} {xs : List a.D} (hB : RepB c id (.data a xs)) {b : Nat} {cs : Array Value} (hat : c.at id b cs) (hfit : xs.length * a.size ≤ cs.size) : RepL c.w c.N a xs cs := by
  rcases hB.1 with rfl | ⟨b', cs', m1, m2, m3⟩
  · exact ⟨hfit, fun i hi => by simp at hi⟩
  · obtain ⟨rfl, rfl⟩ := at_eq hat m1
    exact ⟨m2, m3⟩

theorem appendT_rep (hi : Inv c) {a : Ty} {t ty : TypeId} (hτ : TyOk P (.sl a) t) {ts : Array TypeId} {args : Array Value} (ht0 : ts[0]? = some t) {p : Value} (h0 : args[0]? = some p)
    {base : AV} {ys : List a.D} (hb : Rep3 c base p) (htl : ∀ (e : TypeId) (i : TypeInfo) (z : Value), TyOk P a e → P.info? e = some i → i.zero = some z → i.size = a.size → z.cells.size = a.size → ∃ news, Tail P ts args i z ys.length news c.w ∧ cellsOf c.w c.N a ys news)
    {mu : Bool} {v : AV} {s' : Store} (h : appendV mu c.s a base ys = some (v, s')) :
    Left P c ((Builtin.append_ ts ty args).run P c.w) v s' := by
  obtain ⟨e, hu, he, ha⟩ := hτ.sl
  obtain ⟨i, z, hinf, hsz, hby, hz, hz5, hz6, hz7⟩ := he.zero
  obtain ⟨news, hsrc', hcell⟩ := htl e i z he hinf hz hsz hz6
  have hone := hcell.one
  -- a new row
  have out : ∀ (c1 : Cx) (olds : List Value) (xs : List a.D) (bs : Option Addr) (cap : Nat), c1.w = c.w → c1.N = c.N → Inv c1 → args[0]? = some (.slice bs xs.length cap) → Src c.w bs xs.length i.size olds → cellsOf c.w c.N a xs olds →
      cap < xs.length + ys.length → xs.length + ys.length ≤ bigRow → mkRow mu c1.s a (xs ++ ys) = (v, s') → Left P c1 ((Builtin.append_ ts ty args).run P c.w) v s' := by
    intro c1 olds xs bs cap hw1 hN1 hi1 h0' hold hco hg hlim hm
    obtain ⟨cap', w', hrun, hcap, rest, hgrew, hlen, kz, hrest⟩ := run_append_out (P := P) (ty := ty) ht0 hu hinf hz h0' hold hsrc' hg hlim hby (by rw [hz6, hsz])
    rw [hrun]
    have hrow := row_rep (P := P) (c := c1) hi1 (w' := w') (e := e) (cs := (olds ++ news ++ rest).toArray) (by rw [hw1]; exact hgrew) mu (xs := xs ++ ys) (cap := cap')
      (by rw [hw1, hN1]; exact RepL_append hco hcell) (by simp; exact hcap) (by simp only [List.size_toArray]; rw [hlen, hsz]; exact Nat.le_refl _) (by
        rw [hw1, hN1]
        have hz3 := zeros_cells he ⟨i, hinf, hz⟩ c.w c.N kz hz6
        rw [← hrest] at hz3
        have h4 := RepL_append (rest := []) (cellsOf_app hco hcell) hz3
        rw [List.append_nil] at h4
        refine Sp_of h4 ?_
        have h5 := (cellsOf_app hco hcell).1
        have h6 := hz3.1
        simp only [List.size_toArray]
        rw [List.length_append, h5, h6, ← Nat.add_mul]
        exact Nat.le_refl _) hm
    rw [List.length_append, hw1] at hrow
    exact hrow
  unfold appendV at h
  split at h
  · -- onto nothing, without room
    rename_i b
    split at h
    · rename_i hab
      subst hab
      split at h
      · rename_i hlim
        simp only [Option.some.injEq] at h
        obtain ⟨bs, rfl⟩ := hb
        by_cases hn : ys = []
        · subst hn
          have hrun := run_append_none (P := P) (ty := ty) ht0 hu hinf h0 (w := c.w) hsrc' (Nat.le_refl 0)
          rw [hrun]
          exact empty_rep hi mu b bs h
        · have hpos : 0 < ys.length := List.length_pos_iff.2 hn
          exact out c [] [] bs 0 rfl rfl hi (by simpa using h0) ⟨by simp, fun h => by simp at h⟩ (cellsOf.nil _ _ _) (by simpa using hpos) (by simpa using hlim) (by simpa using h)
      · cases h
    · cases h
  · -- onto a whole block of the call's own
    rename_i id
    obtain ⟨_, bk, hbk, hr⟩ := hb
    split at h
    · rename_i b xs hs
      rw [hs] at hbk
      obtain rfl : _ = bk := by simpa using hbk
      cases hcast : castD (a := .sl b) (.sl a) xs with
      | none => simp [hcast] at h
      | some zs =>
        obtain ⟨eq, hzs⟩ := castD_some hcast
        obtain rfl : b = a := by simpa using eq
        simp only at hzs
        simp only [hcast, Option.bind_some, hzs] at h
        split at h
        · rename_i hlim
          obtain ⟨bs, cap, rfl, hlc, hcap⟩ := hr trivial
          simp only [Blk.len, Blk.sz] at hlc hcap h0
          have hid : id < c.s.length := (List.getElem?_eq_some_iff.1 hs).1
          have hB := hi.blk id _ hs
          -- what is left of it
          obtain ⟨ri, rE⟩ := retire hi hid
          have hres : ∀ (w' : World) (N' : Nat → Prop) (b' : Nat) (cs' : Array Value) (cap' : Nat) (c1 : Cx), True := fun _ _ _ _ _ _ => trivial
          by_cases hroom : xs.length + ys.length ≤ cap
          · by_cases hc0 : cap = 0
            · -- nothing onto nothing
              have hx0 : xs = [] := List.eq_nil_of_length_eq_zero (by omega)
              have hy0 : ys = [] := List.eq_nil_of_length_eq_zero (by omega)
              subst hx0; subst hy0
              have hrun := run_append_none (P := P) (ty := ty) ht0 hu hinf h0 (w := c.w) hsrc' hlc
              rw [hrun]
              subst hc0
              have hm : mkRow mu (c.s.set id .dead) b [] = (v, s') := by
                unfold mkRow
                split at h <;> simp_all [putBlk]
              exact Left.trans (P := P) rE (empty_rep (P := P) (c := ⟨c.w, c.N, c.r.set id none, c.s.set id .dead⟩) ri mu b bs hm)
            · -- in place
              obtain ⟨bb, cs, hat, rfl, hfit⟩ := hcap hc0
              obtain ⟨hr1, tb, hb1⟩ := hat
              have hmul : (xs.length + ys.length) * b.size ≤ cap * b.size := Nat.mul_le_mul_right _ hroom
              rw [Nat.add_mul] at hmul
              have hL := RepB.toL hB ⟨hr1, tb, hb1⟩ (by omega)
              have hrun := run_append_in (P := P) (ty := ty) ht0 hu hinf hz hby (by rw [hz6, hsz]) h0 hsrc' hroom hb1 (by rw [hsz, Nat.add_mul]; omega) hone
              rw [hrun]
              simp only [Nat.zero_add, hsz]
              have hnl : news.length = ys.length * b.size := hcell.1
              have hw : Wrote c.w (c.w.setRow bb (overA cs (xs.length * b.size) news)) bb (overA cs (xs.length * b.size) news) tb := Wrote.setRow hb1
              have hsize := overA_size (cs := cs) (o := xs.length * b.size) (vs := news) (by rw [hnl]; omega)
              have hE1 := write_ext hi hr1 hb1 hw hsize hs (bk' := .dead) (fun hl => hl.elim)
              have hset : c.s.set id (.data b xs) = c.s := set_self hs
              have hk : (Blk.data b xs).live → (Blk.data b xs).live ∧ (Blk.data b xs).len = (Blk.data b xs).len ∧ (Blk.data b xs).sz = (Blk.data b xs).sz := fun _ => ⟨trivial, rfl, rfl⟩
              have hE2 := write_ext hi hr1 hb1 hw hsize hs hk
              -- the elements, old and new
              have hnewL : ∀ (N' : Nat → Prop), (∀ k, c.N k → N' k) → RepL (c.w.setRow bb (overA cs (xs.length * b.size) news)) N' b (xs ++ ys) (overA cs (xs.length * b.size) news) := by
                intro N' hN'
                have hNN : ∀ k, c.N k → N' k ∧ (c.w.setRow bb (overA cs (xs.length * b.size) news)).heap[k]? = c.w.heap[k]? := fun k hk => ⟨hN' k hk, (hE2.N hi k hk).2⟩
                refine ⟨by rw [hsize, List.length_append, Nat.add_mul]; omega, fun j hj => ?_⟩
                rw [List.getElem_append]
                split
                · rename_i hlt
                  have hlj := le_mul (n := b.size) hlt
                  rw [seg_over_out (by rw [hnl]; omega) (.inl hlj)]
                  exact (hL.2 j hlt).mono hNN
                · rename_i hge
                  simp only [List.length_append] at hj
                  have hlt : j - xs.length < ys.length := by omega
                  have hlj := le_mul (n := b.size) hlt
                  have hm2 : j * b.size = xs.length * b.size + (j - xs.length) * b.size := by rw [← Nat.add_mul]; congr 1; omega
                  have e : seg (overA cs (xs.length * b.size) news) (j * b.size) b.size = (news.drop ((j - xs.length) * b.size)).take b.size := by
                    unfold seg overA
                    apply List.ext_getElem?
                    intro k
                    simp only [List.getElem?_take, List.getElem?_drop, List.getElem?_append, List.length_take, List.length_append, Array.length_toList, hnl]
                    have e1 : min (xs.length * b.size) cs.size = xs.length * b.size := by omega
                    simp only [e1]
                    repeat' split
                    all_goals first
                      | rfl
                      | omega
                      | (congr 1; omega)
                  rw [e]
                  exact (hcell.2 _ hlt).mono hNN
              have hspN : ∀ (N' : Nat → Prop), (∀ k, c.N k → N' k) → Sp (c.w.setRow bb (overA cs (xs.length * b.size) news)) N' b (xs ++ ys).length (overA cs (xs.length * b.size) news) := by
                intro N' hN'
                have hNN : ∀ k, c.N k → N' k ∧ (c.w.setRow bb (overA cs (xs.length * b.size) news)).heap[k]? = c.w.heap[k]? := fun k hk => ⟨hN' k hk, (hE2.N hi k hk).2⟩
                refine Sp.mono hNN (Sp.over ((hB.2 bb cs ⟨hr1, tb, hb1⟩).weaken (by simp)) ?_ ?_)
                · rw [hnl, List.length_append, Nat.add_mul]; omega
                · rw [List.length_append, Nat.add_mul]; omega
              obtain ⟨wi, wE⟩ := write hi hr1 hb1 hw hsize hs hk ⟨.inr ⟨bb, _, ⟨hr1, tb, hw.here⟩, by rw [hsize]; exact hL.1, fun j hj => by
                have hlj := le_mul (n := b.size) hj
                rw [seg_over_out (by rw [hnl]; omega) (.inl hlj)]
                exact (hL.2 j hj).mono (hE2.N hi)⟩, spOne (c := ⟨c.w.setRow bb (overA cs (xs.length * b.size) news), c.N, c.r, c.s.set id (.data b xs)⟩) ⟨hr1, tb, hw.here⟩ (Sp.join (hnewL c.N fun _ h => h) (hspN c.N fun _ h => h))⟩
              rw [hset] at wi wE
              split at h
              · -- a new block over the old row
                simp only [Option.some.injEq, Prod.mk.injEq] at h
                obtain ⟨rfl, rfl⟩ := h
                have hat2 : ∀ bk : Blk, (⟨c.w.setRow bb (overA cs (xs.length * b.size) news), c.N, c.r.set id none ++ [some bb], c.s.set id .dead ++ [bk]⟩ : Cx).at c.s.length bb (overA cs (xs.length * b.size) news) := fun bk =>
                  ⟨by simp [← hi.len], tb, hw.here⟩
                obtain ⟨mi, mE⟩ := moveO (c := ⟨c.w.setRow bb (overA cs (xs.length * b.size) news), c.N, c.r, c.s⟩) wi hr1 (.data b (xs ++ ys)) ⟨.inr ⟨bb, _, hat2 _, (hnewL c.N fun _ h => h).1, (hnewL c.N fun _ h => h).2⟩, spOne (hat2 _) (hspN c.N fun _ h => h)⟩
                refine ⟨_, _, rfl, by simp [putBlk], mi, wE.trans mE, rfl, .data b (xs ++ ys), by simp [putBlk], fun _ => ⟨_, cap, by simp [Blk.len], by simpa [Blk.len] using hroom, fun _ => ⟨bb, _, by simpa [putBlk] using hat2 _, rfl, by rw [hsize]; exact hfit⟩⟩⟩
              · -- for good
                simp only [Option.some.injEq, Prod.mk.injEq] at h
                obtain ⟨rfl, rfl⟩ := h
                obtain ⟨mi, mE⟩ := moveF (c := ⟨c.w.setRow bb (overA cs (xs.length * b.size) news), c.N, c.r, c.s⟩) wi hr1
                refine ⟨_, ⟨c.w.setRow bb (overA cs (xs.length * b.size) news), ⟨fun k => c.N k ∨ k = bb, c.N.d⟩, c.r.set id none, c.s.set id .dead⟩, rfl, rfl, mi, wE.trans mE, [.slice (some ⟨bb, 0, none⟩) (xs.length + ys.length) cap], by simp [Ty.isAgg], _, cap, by simp, by simpa using hroom, fun _ =>
                  ⟨bb, 0, overA cs (xs.length * b.size) news, tb, (0, 0), rfl, .inr rfl, hw.here, ?_, fun j hj => ?_⟩⟩
                · have := (hnewL (fun k => c.N k ∨ k = bb) fun _ h => .inl h).1
                  simpa using this
                · have := (hnewL (fun k => c.N k ∨ k = bb) fun _ h => .inl h).2 j hj
                  simpa using this
          · -- a new row
            have hm : mkRow mu (c.s.set id .dead) b (xs ++ ys) = (v, s') := by
              unfold mkRow
              split at h <;> simp_all [putBlk]
            have hold : ∃ olds, Src c.w bs xs.length i.size olds ∧ cellsOf c.w c.N b xs olds := by
              by_cases hx0 : xs = []
              · subst hx0; exact ⟨[], ⟨by simp, fun h => by simp at h⟩, cellsOf.nil _ _ _⟩
              · have hpos := List.length_pos_iff.2 hx0
                obtain ⟨bb, cs, hat, rfl, hfit⟩ := hcap (by omega)
                have hmul : xs.length * b.size ≤ cap * b.size := Nat.mul_le_mul_right _ hlc
                have hL := RepB.toL hB hat (by omega)
                have hcs := cellsOf_seg hL (off := 0) (len := xs.length) (by omega)
                simp only [List.drop_zero, List.take_length, Nat.zero_mul] at hcs
                exact ⟨_, ⟨by rw [hsz]; exact hcs.1, fun _ => ⟨bb, 0, cs, hat.2.choose, (0, 0), rfl, hat.2.choose_spec, by rw [hsz]; omega, by rw [hsz]⟩⟩, hcs⟩
            obtain ⟨olds, ho1, ho2⟩ := hold
            exact Left.trans (P := P) rE (out ⟨c.w, c.N, c.r.set id none, c.s.set id .dead⟩ olds xs bs cap rfl rfl ri h0 ho1 ho2 (by omega) hlim hm)
        · cases h
    · cases h
  · -- onto a part of a block
    rename_i id off len tight
    obtain ⟨_, bk, hbk, hr⟩ := hb
    split at h
    · rename_i b xs hs
      rw [hs] at hbk
      obtain rfl : _ = bk := by simpa using hbk
      cases hcast : castD (a := .sl b) (.sl a) xs with
      | none => simp [hcast] at h
      | some zs =>
        obtain ⟨eq, hzs⟩ := castD_some hcast
        obtain rfl : b = a := by simpa using eq
        simp only at hzs
        simp only [hcast, Option.bind_some, hzs] at h
        obtain ⟨bs, cap, rfl, hl1, hl2, hl3, hl4, hcap⟩ := hr trivial
        simp only [Blk.len, Blk.sz] at hl1 hl4 hcap
        have hid : id < c.s.length := (List.getElem?_eq_some_iff.1 hs).1
        have hB := hi.blk id _ hs
        have inplace : ∀ (tg : Option Nat), len + ys.length ≤ cap → off + len + ys.length ≤ xs.length → (∀ k, tg = some k → cap = k) → (tg = none → xs.length ≤ off + cap) →
            v = .ref id off (len + ys.length) tg → s' = putBlk c.s id (.data b (over xs (off + len) ys)) → Left P c ((Builtin.append_ ts ty args).run P c.w) v s' := by
          intro tg hroom hfit2 hq1 hq2 hv hs'
          subst hv
          subst hs'
          by_cases hc0 : cap = 0
          · have hy0 : ys = [] := List.eq_nil_of_length_eq_zero (by omega)
            subst hy0
            have hlen0 : len = 0 := by omega
            subst hlen0
            have hrun := run_append_none (P := P) (ty := ty) ht0 hu hinf h0 (w := c.w) hsrc' hl2
            rw [hrun]
            have hset : c.s.set id (.data b (over xs (off + 0) [])) = c.s := set_self (by simpa [over] using hs)
            refine ⟨_, c, rfl, by simp only [putBlk]; exact hset.symm, hi, Ext.refl c, rfl, .data b xs, hs, fun _ => ⟨bs, cap, by simp, by simpa [Blk.len] using hl1, by simp, hq1, (fun e => by simpa [Blk.len] using hq2 e), fun hne => absurd hc0 hne⟩⟩
          · obtain ⟨bb, cs, hat, rfl, hfit⟩ := hcap hc0
            obtain ⟨hr1, tb, hb1⟩ := hat
            rw [Nat.add_mul] at hfit
            have hmul : (len + ys.length) * b.size ≤ cap * b.size := Nat.mul_le_mul_right _ hroom
            rw [Nat.add_mul] at hmul
            have hL : RepL c.w c.N b xs cs := by
              rcases hB.1 with rfl | ⟨b', cs', m1, m2, m3⟩
              · exact ⟨by simp, fun i hi => by simp at hi⟩
              · obtain ⟨rfl, rfl⟩ := at_eq ⟨hr1, tb, hb1⟩ m1
                exact ⟨m2, m3⟩
            have hrun := run_append_in (P := P) (ty := ty) ht0 hu hinf hz hby (by rw [hz6, hsz]) h0 hsrc' hroom hb1 (by rw [hsz, Nat.add_mul]; omega) hone
            rw [hrun]
            have hnl : news.length = ys.length * b.size := hcell.1
            rw [show off * b.size + len * i.size = (off + len) * b.size by rw [hsz, Nat.add_mul]]
            have hw : Wrote c.w (c.w.setRow bb (overA cs ((off + len) * b.size) news)) bb (overA cs ((off + len) * b.size) news) tb := Wrote.setRow hb1
            have hsize := overA_size (cs := cs) (o := (off + len) * b.size) (vs := news) (by rw [hnl, Nat.add_mul]; omega)
            have hk : (Blk.data b (over xs (off + len) ys)).live → (Blk.data b xs).live ∧ (Blk.data b (over xs (off + len) ys)).len = (Blk.data b xs).len ∧ (Blk.data b (over xs (off + len) ys)).sz = (Blk.data b xs).sz := fun _ => ⟨trivial, by simp only [Blk.len]; exact over_length _ _ _ hfit2, rfl⟩
            have hE2 := write_ext hi hr1 hb1 hw hsize hs hk
            have hL2 := RepL_over hL hcell hfit2
            obtain ⟨wi, wE⟩ := write hi hr1 hb1 hw hsize hs hk ⟨.inr ⟨bb, _, ⟨hr1, tb, hw.here⟩, hL2.1, fun j hj => (hL2.2 j hj).mono (hE2.N hi)⟩, spOne (c := ⟨c.w.setRow bb (overA cs ((off + len) * b.size) news), c.N, c.r, c.s.set id (.data b (over xs (off + len) ys))⟩) ⟨hr1, tb, hw.here⟩ (by
              rw [over_length _ _ _ hfit2]
              refine Sp.mono (hE2.N hi) (Sp.over (hB.2 bb cs ⟨hr1, tb, hb1⟩) ?_ hL.1)
              have h9 := Nat.mul_le_mul_right b.size hfit2
              rw [Nat.add_mul] at h9
              rw [hnl]; exact h9)⟩
            refine ⟨_, _, rfl, rfl, wi, wE, rfl, .data b (over xs (off + len) ys), by simp [putBlk, hid], fun _ => ⟨_, cap, rfl, ?_, hroom, hq1, (fun e => ?_), fun _ => ⟨bb, _, ⟨hr1, tb, hw.here⟩, rfl, ?_⟩⟩⟩
            · simp only [Blk.len]; rw [over_length _ _ _ hfit2]; omega
            · simp only [Blk.len]; rw [over_length _ _ _ hfit2]; exact hq2 e
            · rw [hsize, Nat.add_mul]; exact hfit
        cases tight with
        | none =>
          have hcap2 := hl4 rfl
          simp only at h
          split at h
          · rename_i hfit2
            simp only [Option.some.injEq, Prod.mk.injEq] at h
            exact inplace none (by omega) hfit2 (fun k e => by cases e) (fun _ => hcap2) h.1.symm h.2.symm
          · cases h
        | some q =>
          have hcq := hl3 q rfl
          simp only at h
          split at h
          · rename_i hroom
            split at h
            · rename_i hfit2
              simp only [Option.some.injEq, Prod.mk.injEq] at h
              exact inplace (some q) (by omega) hfit2 (fun k e => by cases e; exact hcq) (fun e => by cases e) h.1.symm h.2.symm
            · cases h
          · rename_i hroom
            split at h
            · rename_i hlim
              simp only [Option.some.injEq] at h
              have hlen : ((xs.drop off).take len).length = len := by simp; omega
              have hold : ∃ olds, Src c.w bs ((xs.drop off).take len).length i.size olds ∧ cellsOf c.w c.N b ((xs.drop off).take len) olds := by
                by_cases hx0 : len = 0
                · subst hx0; exact ⟨[], ⟨by simp, fun h => by simp at h⟩, by simpa using cellsOf.nil _ _ _⟩
                · obtain ⟨bb, cs, hat, rfl, hfit⟩ := hcap (by omega)
                  have hxl : 0 < xs.length := by omega
                  rcases hB.1 with rfl | ⟨b', cs', m1, m2, m3⟩
                  · simp at hxl
                  · obtain ⟨rfl, rfl⟩ := at_eq hat m1
                    have hcs := cellsOf_seg (show RepL c.w c.N b xs cs from ⟨m2, m3⟩) hl1
                    have hmul : (off + len) * b.size ≤ xs.length * b.size := Nat.mul_le_mul_right _ hl1
                    rw [Nat.add_mul] at hmul
                    exact ⟨_, ⟨by rw [hsz]; exact hcs.1, fun _ => ⟨bb, off * b.size, cs, hat.2.choose, (0, 0), rfl, hat.2.choose_spec, by rw [hsz, hlen]; omega, by rw [hsz, hlen]⟩⟩, hcs⟩
              obtain ⟨olds, ho1, ho2⟩ := hold
              exact out c olds ((xs.drop off).take len) bs cap rfl rfl hi (by rw [hlen]; exact h0) ho1 ho2 (by rw [hlen]; omega) (by rw [hlen]; exact hlim) h
            · cases h
    · cases h
  · cases h


theorem appendV_rep (hi : Inv c) {a a2 : Ty} {t u ty : TypeId} (hτ : TyOk P (.sl a) t) (hτu : TyOk P (.sl a2) u) {ts : Array TypeId} {args : Array Value} (ht0 : ts[0]? = some t) (ht1 : ts[1]? = some u) {p q : Value} (h0 : args[0]? = some p) (h1 : args[1]? = some q)
    {base y : AV} {ys : List a.D} (hb : Rep3 c base p) (hy : Rep3 c y q) (hys : elems c.s a y = some ys) {mu : Bool} {v : AV} {s' : Store} (h : appendV mu c.s a base ys = some (v, s')) :
    Left P c ((Builtin.append_ ts ty args).run P c.w) v s' := by
  obtain ⟨e, hu, he, ha⟩ := hτ.sl
  obtain ⟨e', hu', _, _⟩ := hτu.sl
  obtain ⟨xb, xc, news, rfl, hxc, hsrc, hcell⟩ := elems_src hi ha hy hys
  exact appendT_rep hi hτ ht0 h0 hb (fun e i z _ _ _ hs _ => ⟨news, Tail.ofSrc ht1 hu' h1 (by rw [hs]; exact hsrc), hcell⟩) h

theorem appendZ_rep (hi : Inv c) {a : Ty} {k : IntKind} {t u ty : TypeId} (hτ : TyOk P (.sl a) t) (hτu : TyOk P (.int k) u) {ts : Array TypeId} {args : Array Value} (ht0 : ts[0]? = some t) (ht1 : ts[1]? = some u) {p : Value} {k' : IntKind} {n : Nat} (h0 : args[0]? = some p) (h1 : args[1]? = some (.int k' (n : Int)))
    {base : AV} (hb : Rep3 c base p) (hn : n ≤ bigRow) {mu : Bool} {v : AV} {s' : Store} (h : appendV mu c.s a base (List.replicate n a.zero) = some (v, s')) :
    Left P c ((Builtin.append_ ts ty args).run P c.w) v s' := by
  obtain hu := hτu.int
  refine appendT_rep hi hτ ht0 h0 hb (fun e i z he hinf hz hs hs2 => ⟨_, ⟨?_, .inr ⟨u, k, k', ht1, hu, by simpa using h1, by simpa [bigRow] using hn, by rw [List.length_replicate]⟩⟩, zeros_cells he ⟨i, hinf, hz⟩ c.w c.N n hs2⟩) h
  simp [size_zeroCells, hs, hs2]

end
end Go.Ev

/-
  COPY AND CLEAR: elements overwritten in place.
-/
namespace Go.Ev

section
variable {P : Program} {c : Cx}

theorem over_core (hi : Inv c) {id : Nat} {a : Ty} {xs : List a.D} (hs : c.s[id]? = some (.data a xs)) {bb : Nat} {cs : Array Value} {tb : TypeId} (hr1 : c.r[id]? = some (some bb)) (hb1 : c.w.heap[bb]? = some (.cells cs tb (0, 0)))
    {off : Nat} {ys : List a.D} {news : List Value} (hfit : off + ys.length ≤ xs.length) (hcs : xs.length * a.size ≤ cs.size) (hcell : cellsOf c.w c.N a ys news) :
    ∃ c', (storeCells ⟨bb, off * a.size, none⟩ news).run P c.w = .ok () c'.w ∧ c'.s = putBlk c.s id (.data a (over xs off ys)) ∧ Inv c' ∧ Ext c c' := by
  have hB := hi.blk id _ hs
  have hL := RepB.toL hB ⟨hr1, tb, hb1⟩ hcs
  have hmul : (off + ys.length) * a.size ≤ xs.length * a.size := Nat.mul_le_mul_right _ hfit
  rw [Nat.add_mul] at hmul
  have hnl : news.length = ys.length * a.size := hcell.1
  have hst := run_storeCells_at P bb (off * a.size) tb news 0 cs c.w hb1 (by rw [hnl]; omega) hcell.one
  simp only [Nat.add_zero] at hst
  have hw : Wrote c.w (c.w.setRow bb (overA cs (off * a.size) news)) bb (overA cs (off * a.size) news) tb := Wrote.setRow hb1
  have hsize := overA_size (cs := cs) (o := off * a.size) (vs := news) (by rw [hnl]; omega)
  have hk : (Blk.data a (over xs off ys)).live → (Blk.data a xs).live ∧ (Blk.data a (over xs off ys)).len = (Blk.data a xs).len ∧ (Blk.data a (over xs off ys)).sz = (Blk.data a xs).sz := fun _ => ⟨trivial, by simp only [Blk.len]; exact over_length _ _ _ hfit, rfl⟩
  have hE2 := write_ext hi hr1 hb1 hw hsize hs hk
  have hL2 := RepL_over hL hcell hfit
  obtain ⟨wi, wE⟩ := write hi hr1 hb1 hw hsize hs hk ⟨.inr ⟨bb, _, ⟨hr1, tb, hw.here⟩, hL2.1, fun j hj => (hL2.2 j hj).mono (hE2.N hi)⟩, spOne (c := ⟨c.w.setRow bb (overA cs (off * a.size) news), c.N, c.r, c.s.set id (.data a (over xs off ys))⟩) ⟨hr1, tb, hw.here⟩ (by
    rw [over_length _ _ _ hfit]
    refine Sp.mono (hE2.N hi) (Sp.over (hB.2 bb cs ⟨hr1, tb, hb1⟩) ?_ hcs)
    rw [hnl]; exact hmul)⟩
  exact ⟨_, hst, rfl, wi, wE⟩

/-- elements overwritten from the beginning of a slice on -/
theorem overV_rep (hi : Inv c) {a : Ty} {x : AV} {q : Value} {ys : List a.D} {n : Nat} {s' : Store} {news : List Value} (hx : Rep3 c x q) (hn : lenSl c.s x = some n) (hyn : ys.length ≤ n) (hcell : cellsOf c.w c.N a ys news)
    (h : overV c.s a x ys = some s') : ∃ base cap c', q = .slice base n cap ∧ n ≤ cap ∧ (base = none → n = 0) ∧ (base = none → c'.w = c.w) ∧ (∀ ad, base = some ad → (storeCells ad news).run P c.w = .ok () c'.w) ∧ c'.s = s' ∧ Inv c' ∧ Ext c c' := by
  have none_case : ∀ {id : Nat} {off : Nat} {xs : List a.D}, c.s[id]? = some (.data a xs) → ys = [] → (∀ ad, (storeCells ad news).run P c.w = .ok () c.w) ∧ putBlk c.s id (.data a (over xs off ys)) = c.s := fun hs hy => by
    subst hy
    have : news = [] := List.eq_nil_of_length_eq_zero (by simpa using hcell.1)
    subst this
    refine ⟨fun ad => by simp [storeCells], ?_⟩
    unfold putBlk
    exact set_self (by simpa [over] using hs)
  unfold overV at h
  split at h
  · rename_i id
    split at h
    · rename_i b xs hs
      cases hcast : castD (a := .sl b) (.sl a) xs with
      | none => simp [hcast] at h
      | some zs =>
        obtain ⟨eq, hzs⟩ := castD_some hcast
        obtain rfl : b = a := by simpa using eq
        simp only at hzs
        subst hzs
        simp only [hcast, Option.map_some, Option.some.injEq] at h
        subst h
        obtain ⟨_, bk, hbk, hr⟩ := hx
        rw [hs] at hbk
        obtain rfl : _ = bk := by simpa using hbk
        obtain ⟨bs, cap, rfl, hlc, hcap⟩ := hr trivial
        simp only [Blk.len, Blk.sz] at hlc hcap
        simp only [lenSl, lenV, hs, Option.some.injEq] at hn
        subst hn
        by_cases hc0 : cap = 0
        · have hx0 : zs.length = 0 := by omega
          obtain ⟨k1, k2⟩ := none_case (off := 0) hs (List.eq_nil_of_length_eq_zero (by omega))
          exact ⟨bs, cap, c, rfl, hlc, fun _ => hx0, fun _ => rfl, fun ad _ => k1 ad, k2.symm, hi, Ext.refl c⟩
        · obtain ⟨bb, cs, hat, rfl, hfit⟩ := hcap hc0
          obtain ⟨hr1, tb, hb1⟩ := hat
          have hm := Nat.mul_le_mul_right b.size hlc
          obtain ⟨c', k1, k2, k3, k4⟩ := over_core (P := P) hi hs hr1 hb1 (off := 0) (by omega) (by omega) hcell
          simp only [Nat.zero_mul] at k1
          exact ⟨_, cap, c', rfl, hlc, (fun e => by cases e), (fun e => by cases e), (fun ad e => by cases e; exact k1), k2, k3, k4⟩
    · cases h
  · rename_i id off len tight
    split at h
    · rename_i b xs hs
      cases hcast : castD (a := .sl b) (.sl a) xs with
      | none => simp [hcast] at h
      | some zs =>
        obtain ⟨eq, hzs⟩ := castD_some hcast
        obtain rfl : b = a := by simpa using eq
        simp only at hzs
        subst hzs
        simp only [hcast, Option.map_some, Option.some.injEq] at h
        subst h
        obtain ⟨_, bk, hbk, hr⟩ := hx
        rw [hs] at hbk
        obtain rfl : _ = bk := by simpa using hbk
        obtain ⟨bs, cap, rfl, hl1, hl2, hl3, hl4, hcap⟩ := hr trivial
        simp only [Blk.len, Blk.sz] at hl1 hl4 hcap
        simp only [lenSl, lenV, hs, Option.some.injEq] at hn
        subst hn
        by_cases hc0 : cap = 0
        · have hx0 : len = 0 := by omega
          obtain ⟨k1, k2⟩ := none_case (off := off) hs (List.eq_nil_of_length_eq_zero (by omega))
          exact ⟨bs, cap, c, rfl, hl2, fun _ => hx0, fun _ => rfl, fun ad _ => k1 ad, k2.symm, hi, Ext.refl c⟩
        · obtain ⟨bb, cs, hat, rfl, hfit⟩ := hcap hc0
          by_cases hy : ys = []
          · obtain ⟨k1, k2⟩ := none_case (off := off) hs hy
            exact ⟨_, cap, c, rfl, hl2, (fun e => by cases e), (fun e => by cases e), (fun ad _ => k1 ad), k2.symm, hi, Ext.refl c⟩
          · have hpos := List.length_pos_iff.2 hy
            have hB := hi.blk id _ hs
            rcases hB with rfl | ⟨b', cs', m1, m2, m3⟩
            · simp at hl1; omega
            · obtain ⟨rfl, rfl⟩ := at_eq hat m1
              obtain ⟨hr1, tb, hb1⟩ := hat
              obtain ⟨c', k1, k2, k3, k4⟩ := over_core (P := P) hi hs hr1 hb1 (off := off) (by omega) m2 hcell
              exact ⟨_, cap, c', rfl, hl2, (fun e => by cases e), (fun e => by cases e), (fun ad e => by cases e; exact k1), k2, k3, k4⟩
    · cases h
  · cases h

theorem clear_rep (hi : Inv c) {a : Ty} {t ty : TypeId} (hτ : TyOk P (.sl a) t) {ts : Array TypeId} {args : Array Value} (ht0 : ts[0]? = some t) {p : Value} (h0 : args[0]? = some p) {x : AV} (hx : Rep3 c x p) {n : Nat} (hn : lenSl c.s x = some n)
    {s' : Store} (h : overV c.s a x (List.replicate n a.zero) = some s') : Left P c ((Builtin.clear_ ts ty args).run P c.w) (.tup []) s' := by
  obtain ⟨e, hu, he, ha⟩ := hτ.sl
  obtain ⟨i, z, hinf, hsz, hby, hz, hz5, hz6, hz7⟩ := he.zero
  have hcell := zeros_cells he ⟨i, hinf, hz⟩ c.w c.N n hz6
  obtain ⟨base, cap, c', rfl, k1, k2, k3, k4, k5, k6, k7⟩ := overV_rep (P := P) hi hx hn (by simp) hcell h
  have hrun : (Builtin.clear_ ts ty args).run P c.w = .ok (.tuple #[]) c'.w := by
    cases base with
    | none =>
      rw [k3 rfl]
      simp [Builtin.clear_, ht0, h0, run_underlying hu]
    | some ad =>
      have hst := k4 ad rfl
      cases n with
      | zero =>
        have hw : c'.w = c.w := by
          have : (Builtin.zeroCells z.cells 0).toList = [] := List.eq_nil_of_length_eq_zero (by rw [Array.length_toList, size_zeroCells]; simp)
          rw [this] at hst
          simp [storeCells] at hst
          exact hst.symm
        rw [hw]
        simp [Builtin.clear_, ht0, h0, run_underlying hu]
      | succ n =>
        simp [Builtin.clear_, ht0, h0, run_underlying hu, zeroValue, typeInfo, hinf, hz, hst]
  rw [hrun]
  exact ⟨_, c', rfl, k5, k6, k7, [], rfl, trivial⟩

theorem copy_rep (hi : Inv c) {a a2 : Ty} {t u ty : TypeId} (hτ : TyOk P (.sl a) t) (hτu : TyOk P (.sl a2) u) {ts : Array TypeId} {args : Array Value} (ht0 : ts[0]? = some t) {p q : Value} (h0 : args[0]? = some p) (h1 : args[1]? = some q)
    {x y : AV} {ys : List a.D} (hx : Rep3 c x p) (hy : Rep3 c y q) (hys : elems c.s a y = some ys) {n : Nat} (hn : lenSl c.s x = some n) {s' : Store} (h : overV c.s a x (ys.take n) = some s') :
    Left P c ((Builtin.copy_ ts ty args).run P c.w) (.d (.int .i64) ((min ys.length n : Nat) : Int)) s' := by
  obtain ⟨e, hu, he, ha⟩ := hτ.sl
  obtain ⟨i, z, hinf, hsz, hby, hz, hz5, hz6, hz7⟩ := he.zero
  obtain ⟨xb, xc, news, rfl, hxc, hsrc, hcell⟩ := elems_src hi ha hy hys
  have hlt : (ys.take n).length = min ys.length n := by simp [Nat.min_comm]
  have hle : min ys.length n * a.size ≤ news.length := by rw [hcell.1]; exact Nat.mul_le_mul_right _ (Nat.min_le_left _ _)
  have hcell' : cellsOf c.w c.N a (ys.take n) (news.take (min ys.length n * a.size)) := by
    refine ⟨by rw [hlt, List.length_take]; omega, fun j hj => ?_⟩
    have hj' : j < min ys.length n := by rwa [hlt] at hj
    have := hcell.2 j (by omega)
    have hlj := le_mul (n := a.size) hj'
    rw [List.getElem_take]
    have e : ((news.take (min ys.length n * a.size)).drop (j * a.size)).take a.size = (news.drop (j * a.size)).take a.size := by
      apply List.ext_getElem?
      intro k
      simp only [List.getElem?_take, List.getElem?_drop]
      repeat' split
      all_goals first
        | rfl
        | omega
    rw [e]; exact this
  have hsrc' : Src c.w xb (min ys.length n) i.size (news.take (min ys.length n * a.size)) := by
    rw [hsz]
    refine ⟨by rw [List.length_take]; omega, fun hp => ?_⟩
    rw [List.length_take] at hp
    obtain ⟨b, o, cs, ty', fr, q1, q2, q3, q4⟩ := hsrc.2 (by omega)
    have hm : min ys.length n * a.size ≤ ys.length * a.size := Nat.mul_le_mul_right _ (Nat.min_le_left _ _)
    refine ⟨b, o, cs, ty', fr, q1, q2, by omega, ?_⟩
    rw [q4]
    unfold seg
    rw [List.take_take]
    congr 1
    omega
  obtain ⟨base, cap, c', rfl, k1, k2, k3, k4, k5, k6, k7⟩ := overV_rep (P := P) hi hx hn (by rw [hlt]; exact Nat.min_le_right _ _) hcell' h
  have hf := hsrc'.run (P := P) ys.length xc
  have hrun : (Builtin.copy_ ts ty args).run P c.w = .ok (.int .i64 ((min ys.length n : Nat) : Int)) c'.w := by
    cases base with
    | none =>
      rw [k3 rfl]
      simp [Builtin.copy_, ht0, h0, h1, run_underlying hu, Builtin.lenOf, sizeOf, typeInfo, hinf, hf, goInt]
    | some ad =>
      have hst := k4 ad rfl
      simp [Builtin.copy_, ht0, h0, h1, run_underlying hu, Builtin.lenOf, sizeOf, typeInfo, hinf, hf, hst, goInt]
  rw [hrun]
  exact ⟨_, c', rfl, k5, k6, k7, rep_int c' _ _⟩

end
end Go.Ev

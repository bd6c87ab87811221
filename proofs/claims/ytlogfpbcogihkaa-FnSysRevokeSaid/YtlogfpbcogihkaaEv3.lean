/-
  The evaluator in a second form; contracts, shapes and loops; from a row's input to plain data.
-/
import Derived.Test.YtlogfpbcogihkaaEv2
import Derived.WalkKit
import Derived.ProofKit
import Derived.OpenShut
import Derived.JoinedCond
import Derived.Carry
import Derived.Lib.Overlaps
set_option linter.unusedVariables false
set_option linter.unusedSimpArgs false
/-
  THE SAME EVALUATOR, written so that what stays open in it stands outermost: a decision, and behind it all the rest.
-/
namespace Go.Ev

/-! ### decisions -/

def chk {γ : Type} (c : Prop) [Decidable c] (K : Option γ) : Option γ := if c then K else none
def nnK {γ : Type} (n : Int) (K : Nat → Option γ) : Option γ := if 0 ≤ n then K n.toNat else none
def getK {γ α : Type} (xs : List α) (i : Nat) (K : α → Option γ) : Option γ := match xs[i]? with | some x => K x | none => none
def getBK {γ : Type} (xs : ByteArray) (i : Nat) (K : UInt8 → Option γ) : Option γ := match xs[i]? with | some x => K x | none => none

theorem chk_pos {γ : Type} {c : Prop} [Decidable c] (h : c) (K : Option γ) : chk c K = K := if_pos h
theorem nnK_nat {γ : Type} (n : Nat) (K : Nat → Option γ) : nnK (n : Int) K = K n := by simp [nnK]
theorem nnK_pos {γ : Type} {n : Int} (h : 0 ≤ n) (K : Nat → Option γ) : nnK n K = K n.toNat := if_pos h
theorem getK_some {γ α : Type} {xs : List α} {i : Nat} {x : α} (h : xs[i]? = some x) (K : α → Option γ) : getK xs i K = K x := by simp [getK, h]
theorem getK_lt {γ α : Type} {xs : List α} {i : Nat} (h : i < xs.length) (K : α → Option γ) : getK xs i K = K xs[i] := getK_some (List.getElem?_eq_getElem h) K

/-! ### operations -/

/-- a choice between two plain values is a plain value -/
def pickV (t : Bool) : AV → AV → Option AV
  | .d a x, .d b y => if h : b = a then some (.d a (bif t then x else (h ▸ y))) else none
  | _, _ => none

def elemPtrK {γ : Type} (s : Store) (v : AV) (n : Nat) (k : AV → Option γ) : Option γ :=
  match v with
  | .d (.sl t) xs => getK xs n fun x => k (.cptr t x 0)
  | .all id => ((lenV s (.all id)).bind fun m => chk (n < m) (k (.ptr id n 0)))
  | .ref id off len _ => chk (n < len) (k (.ptr id (off + n) 0))
  | _ => none

def loadK {γ : Type} (s : Store) (t : Ty) (v : AV) (k : AV → Option γ) : Option γ :=
  match v with
  | .cptr a v f => ((Ty.get t a v f).bind fun x => k (.d t x))
  | .ptr id i f => (match s[id]? with
    | some (.data a xs) => getK xs i fun x => ((Ty.get t a x f).bind fun x => k (.d t x))
    | some (.node _ xs) => (((xs[i]?).bind fun x => ofCells t ((x.cells.drop f).take t.size)).bind fun x => k x)
    | _ => none)
  | _ => none

def storeK {γ : Type} (s : Store) (t : Ty) (p v : AV) (k : Store → Option γ) : Option γ :=
  match p with
  | .ptr id i f => (match s[id]? with
    | some (.data a xs) => (match allD t v.cells with
      | some y => getK xs i fun x => ((Ty.set t y a x f).bind fun z => k (putBlk s id (.data a (xs.set i z))))
      | none => ((storeNode s id i f a.size (xs.map fun x => .d a x) t v).bind fun s' => k s'))
    | some (.node sz xs) => ((storeNode s id i f sz xs t v).bind fun s' => k s')
    | _ => none)
  | _ => none

def asNK {γ : Type} (v : AV) (k : Nat → Option γ) : Option γ :=
  match asI v with
  | some x => nnK x.2 k
  | none => none

def bndK {γ : Type} (v : Option AV) (k : Option Nat → Option γ) : Option γ :=
  match v with
  | none => k none
  | some x => asNK x fun n => k (some n)

def cutSK {γ : Type} (a : Ty) (s : Store) (v : AV) (l h : Option Nat) (k : AV → Option γ) : Option γ :=
  match v with
  | .d (.sl b) xs => if a = b then (match l, h with
    | none, none => k (.d (.sl b) xs)
    | some l, none => chk (l ≤ xs.length) (k (.d (.sl b) (xs.drop l)))
    | none, some h => chk (h ≤ xs.length) (k (.d (.sl b) (xs.take h)))
    | some l, some h => chk (l ≤ h ∧ h ≤ xs.length) (k (.d (.sl b) ((xs.take h).drop l)))) else none
  | .e0 t => if l.getD 0 = 0 ∧ h.getD 0 = 0 then k (.e0 t) else none
  | .all id => if okSz s id a.size then (match lenV s (.all id) with
      | some n => (match l, h with
        | none, none => k (.ref id 0 n none)
        | some l, none => chk (l ≤ n) (k (.ref id l (n - l) none))
        | none, some h => chk (h ≤ n) (k (.ref id 0 h none))
        | some l, some h => chk (l ≤ h ∧ h ≤ n) (k (.ref id l (h - l) none)))
      | none => none) else none
  | .ref id off len tight => if okSz s id a.size then (match lenV s (.all id) with
      | some n => (match h with
        | none => chk (l.getD 0 ≤ len) (k (.ref id (off + l.getD 0) (len - l.getD 0) (tight.map fun c => c - l.getD 0)))
        | some h' => (match tight with
          | some c => chk (l.getD 0 ≤ h' ∧ h' ≤ c ∧ off + h' ≤ n) (k (.ref id (off + l.getD 0) (h' - l.getD 0) (some (c - l.getD 0))))
          | none => chk (l.getD 0 ≤ h' ∧ off + h' ≤ n) (k (.ref id (off + l.getD 0) (h' - l.getD 0) none))))
      | none => none) else none
  | _ => none

def appendK {γ : Type} (mu : Bool) (s : Store) (t : Ty) (base : AV) (ys : List t.D) (k : AV → Store → Option γ) : Option γ :=
  match base with
  | .e0 a => if a = t then chk (ys.length ≤ bigRow) (k (mkRow mu s t ys).1 (mkRow mu s t ys).2) else none
  | .all id => (match s[id]? with
    | some (.data a xs) => (match castD (a := .sl a) (.sl t) xs with
      | some zs => chk (zs.length + ys.length ≤ bigRow)
        (if mu then k (.all (putBlk s id .dead).length) (putBlk s id .dead ++ [.data t (zs ++ ys)]) else k (.d (.sl t) (zs ++ ys)) (putBlk s id .dead))
      | none => none)
    | _ => none)
  | .ref id off len tight => (match s[id]? with
    | some (.data a xs) => (match castD (a := .sl a) (.sl t) xs with
      | some zs => (match tight with
        | some c => bif decide (len + ys.length ≤ c) then chk (off + len + ys.length ≤ zs.length) (k (.ref id off (len + ys.length) (some c)) (putBlk s id (.data t (over zs (off + len) ys))))
          else chk (len + ys.length ≤ bigRow) (k (mkRow mu s t ((zs.drop off).take len ++ ys)).1 (mkRow mu s t ((zs.drop off).take len ++ ys)).2)
        | none => chk (off + len + ys.length ≤ zs.length) (k (.ref id off (len + ys.length) none) (putBlk s id (.data t (over zs (off + len) ys)))))
      | none => none)
    | _ => none)
  | _ => none

def binK {γ : Type} (T : Tab) (op : BinOp) (t : TypeId) (x y : AV) (k : AV → Option γ) : Option γ :=
  match op, x, y with
  | .quo, .d (.int a) x, .d (.int b) y => if a = b then chk ((y : Int) ≠ 0) (k (.d (.int a) (a.wrap ((x : Int).tdiv y)))) else none
  | .rem, .d (.int a) x, .d (.int b) y => if a = b then chk ((y : Int) ≠ 0) (k (.d (.int a) ((x : Int).tmod y))) else none
  | .shl, .d (.int a) x, .d (.int _) y => chk (0 ≤ (y : Int)) (k (.d (.int a) (a.wrap ((x : Int) * 2 ^ (min (y : Int).toNat a.bits)))))
  | .shr, .d (.int a) x, .d (.int _) y => chk (0 ≤ (y : Int)) (k (.d (.int a) ((x : Int).fdiv (2 ^ (min (y : Int).toNat a.bits)))))
  | .add, .d .str x, .d .str y => chk (((ByteArray.size x + ByteArray.size y : Nat) : Int) ≤ 9223372036854775807) (k (.d .str (x ++ y)))
  | op, x, y => ((binOpV T op t x y).bind fun v => k v)

def cutB {γ : Type} (n h : Option Nat) (l m : Nat) (K : Nat → Nat → Option γ) : Option γ :=
  match n, h with
  | some n, some h' => chk (l ≤ h' ∧ h' ≤ m ∧ m ≤ n) (K n h')
  | _, _ => none

def cut3K {γ : Type} (mu : Bool) (a : Ty) (s : Store) (v : AV) (l h : Option Nat) (m : Nat) (k : AV → Option γ) : Option γ :=
  match v with
  | .d (.sl b) xs => cutB (some (List.length xs)) h (l.getD 0) m fun _ h' => if a = b then k (.d (.sl b) ((xs.take h').drop (l.getD 0))) else none
  | .all id => cutB (lenSl s (.all id)) h (l.getD 0) m fun n h' => if mu then chk (l.getD 0 = 0 ∧ h' = n) (k (.all id)) else k .any
  | .ref id off ln tg => cutB (lenSl s (.ref id off ln tg)) h (l.getD 0) m fun n h' => if mu then chk (l.getD 0 = 0 ∧ m = h') (k (.ref id off h' (some h'))) else k .any
  | v => cutB (lenSl s v) h (l.getD 0) m fun _ _ => k .any

def indexK {γ : Type} (t : Option Ty) (x i : AV) (k : AV → Option γ) : Option γ :=
  match t, x with
  | some .str, .d .str b => asNK i fun n => getBK b n fun c => k (.d (.int .u8) ((c : UInt8).toNat : Int))
  | _, _ => none

/-- operations that may leave something open -/
def opVK (T : Tab) (H : Hint) (o : Oper) (e : Env) (s : Store) {γ : Type} (k : AV → Store → Option γ) : Option γ :=
  match o.op with
  | .pick c a b => (match asB (opnd T o.type e c) with
    | some t => (match pickV t (opnd T o.type e a) (opnd T o.type e b) with
      | some v => k v s
      | none => bif t then k (opnd T o.type e a) s else k (opnd T o.type e b) s)
    | none => none)
  | .load t a => ((T.ty t).bind fun τ => loadK s τ (opnd T 0 e a) fun v => k v s)
  | .store t a x => ((T.ty t).bind fun τ => storeK s τ (opnd T 0 e a) (opnd T t e x) fun s' => k (.tup []) s')
  | .binOp op t x y _ => binK T op t (opnd T t e x) (opnd T t e y) fun v => k v s
  | .makeSlice t l c => (match T.ty t with
    | some (.sl a) => if sameOpnd l c then asNK (opnd T 0 e l) fun n => chk (n ≤ bigRow) (k (mkRow (muOf H o.dst) s a (List.replicate n a.zero)).1 (mkRow (muOf H o.dst) s a (List.replicate n a.zero)).2) else none
    | _ => none)
  | .slice t x lo hi none => (match T.ty t with
    | some (.sl a) => bndK (lo.map (opnd T 0 e)) fun l => bndK (hi.map (opnd T 0 e)) fun h => cutSK a s (opnd T 0 e x) l h fun v => k v s
    | some .str => (match opnd T 0 e x with
      | .d .str b => bndK (lo.map (opnd T 0 e)) fun l => bndK (hi.map (opnd T 0 e)) fun h => chk (l.getD 0 ≤ h.getD (ByteArray.size b) ∧ h.getD (ByteArray.size b) ≤ ByteArray.size b) (k (.d .str (ByteArray.extract b (l.getD 0) (h.getD (ByteArray.size b)))) s)
      | _ => none)
    | _ => none)
  | .slice t x lo hi (some mx) => (match T.ty t with
    | some (.sl a) => bndK (lo.map (opnd T 0 e)) fun l => bndK (hi.map (opnd T 0 e)) fun h => asNK (opnd T 0 e mx) fun m => cut3K (muOf H o.dst) a s (opnd T 0 e x) l h m fun v => k v s
    | _ => ((opV T H o e s).bind fun x => k x.1 x.2))
  | .indexAddr t x i => (match T.ty t with
    | some (.sl a) => if eltOk s a (opnd T t e x) then asNK (opnd T 0 e i) fun n => elemPtrK s (opnd T t e x) n fun v => k v s else none
    | _ => none)
  | .index t x i => indexK (T.ty t) (opnd T t e x) (opnd T 0 e i) fun v => k v s
  | .call c => (match c.callee with
    | .builtin .append => if c.args.size = c.argTypes.size then (match c.argTypes.toList, (c.args.toList.zip c.argTypes.toList).map fun p => opnd T p.2 e p.1 with
      | t :: u :: _, [x, y] => (match T.ty t, T.ty u with
        | some (.sl a), some (.sl _) => ((elems s a y).bind fun ys => appendK (muOf H o.dst) s a x ys k)
        | some (.sl a), some (.int _) => asNK y fun n => chk (n ≤ bigRow) (appendK (muOf H o.dst) s a x (List.replicate n a.zero) k)
        | _, _ => none)
      | _, _ => none) else none
    | _ => ((opV T H o e s).bind fun x => k x.1 x.2))
  | _ => ((opV T H o e s).bind fun x => k x.1 x.2)

def opKK (T : Tab) (H : Hint) (M : FuncId → Mode) (O : Oracle) {γ : Type} (o : Oper) (e : Env) (s : Store) (k : AV → Store → Option γ) : Option γ :=
  match o.op with
  | .call c => (match c.callee with
    | .value f => (match opnd T 0 e f with
      | .fn g cap => if c.args.size = c.argTypes.size then callV T M O (muOf H o.dst) o.type g c.argTypes.toList ((c.args.toList.zip c.argTypes.toList).map fun p => opnd T p.2 e p.1) cap s k else none
      | _ => none)
    | _ => opVK T H o e s k)
  | _ => opVK T H o e s k

end Go.Ev

/-
  THE TWO FORMS COME TO THE SAME.
-/
namespace Go.Ev

section
variable {γ : Type} {T : Tab} {H : Hint} {M : FuncId → Mode} {O : Oracle}

theorem match_bind {α β : Type} (x : Option α) (f : α → Option β) : (match x with | some y => f y | none => none) = x.bind f := by cases x <;> rfl

theorem getK_bind {α : Type} (xs : List α) (i : Nat) (K : α → Option γ) : getK xs i K = xs[i]?.bind K := match_bind _ _

theorem elemPtrK_eq (s : Store) (v : AV) (n : Nat) (k : AV → Option γ) : elemPtrK s v n k = (elemPtr s v n).bind k := by
  unfold elemPtrK elemPtr
  cases v with
  | d t x =>
    cases t <;> try rfl
    simp only [getK_bind]
    cases (x : List _)[n]? <;> rfl
  | all id =>
    simp only
    cases lenV s (.all id) with
    | none => rfl
    | some m =>
      simp only [chk, Option.bind_some]
      split <;> rfl
  | ref id o l t => simp only [chk]; split <;> rfl
  | _ => rfl

theorem loadK_eq (s : Store) (t : Ty) (v : AV) (k : AV → Option γ) : loadK s t v k = (loadV s t v).bind k := by
  unfold loadK loadV
  cases v with
  | cptr a v f => simp only; cases Ty.get t a v f <;> rfl
  | ptr id i f =>
    simp only
    cases s[id]? with
    | none => rfl
    | some b =>
      cases b with
      | dead => rfl
      | data a xs =>
        simp only [getK_bind]
        cases xs[i]? with
        | none => rfl
        | some x => simp only [Option.bind_some]; cases Ty.get t a x f <;> rfl
      | node sz xs => rfl
  | _ => rfl

theorem storeK_eq (s : Store) (t : Ty) (p v : AV) (k : Store → Option γ) : storeK s t p v k = (storeV s t p v).bind k := by
  unfold storeK storeV
  cases p with
  | ptr id i f =>
    simp only
    cases s[id]? with
    | none => rfl
    | some b =>
      cases b with
      | dead => rfl
      | data a xs =>
        simp only
        cases allD t v.cells with
        | none => rfl
        | some y =>
          simp only [getK_bind]
          cases xs[i]? with
          | none => rfl
          | some x => simp only [Option.bind_some]; cases Ty.set t y a x f <;> rfl
      | node sz xs => rfl
  | _ => rfl

theorem asNK_eq (v : AV) (k : Nat → Option γ) : asNK v k = (asN v).bind k := by
  unfold asNK asN
  cases asI v with
  | none => rfl
  | some x =>
    simp only [nnK, Option.bind_some]
    split <;> rfl

theorem bndK_eq (v : Option AV) (k : Option Nat → Option γ) : bndK v k = (bndV v).bind k := by
  unfold bndK bndV
  cases v with
  | none => rfl
  | some x =>
    simp only [asNK_eq]
    cases asN x <;> rfl

theorem cutSK_eq (a : Ty) (s : Store) (v : AV) (l h : Option Nat) (k : AV → Option γ) : cutSK a s v l h k = (cutS a s v l h).bind k := by
  unfold cutSK cutS
  cases v with
  | d t x =>
    cases t <;> try rfl
    simp only
    split
    · cases l <;> cases h <;> simp only [chk] <;> first | rfl | (split <;> rfl)
    · rfl
  | e0 t => simp only; split <;> rfl
  | all id =>
    simp only
    split
    · cases lenV s (.all id) with
      | none => rfl
      | some n =>
        cases l <;> cases h <;> simp only [chk, Option.bind_some, Option.getD_some, Option.getD_none, Nat.sub_zero, Nat.le_refl, Nat.zero_le, and_true, true_and, if_true] <;> first | rfl | (split <;> rfl)
    · rfl
  | ref id o ln tg =>
    simp only
    split
    · cases lenV s (.all id) with
      | none => rfl
      | some n =>
        cases h with
        | none => simp only [chk, Option.bind_some]; split <;> rfl
        | some h' =>
          simp only [Option.bind_some]
          cases tg with
          | none => simp only [chk]; split <;> rfl
          | some q => simp only [chk]; split <;> rfl
    · rfl
  | _ => rfl

theorem cutB_eq (n h : Option Nat) (l m : Nat) (K : Nat → Nat → Option γ) (c : Nat → Nat → Option AV) (k : AV → Option γ) (hK : ∀ n h', K n h' = (c n h').bind k) :
    cutB n h l m K = (n.bind fun n => (match h with
      | some h' => if l ≤ h' ∧ h' ≤ m ∧ m ≤ n then c n h' else none
      | none => none)).bind k := by
  unfold cutB
  cases n with
  | none => rfl
  | some n =>
    cases h with
    | none => rfl
    | some h' =>
      simp only [chk, hK, Option.bind_some]
      split <;> rfl

theorem cut3K_eq (mu : Bool) (a : Ty) (s : Store) (v : AV) (l h : Option Nat) (m : Nat) (k : AV → Option γ) : cut3K mu a s v l h m k =
    ((lenSl s v).bind fun n => (match h with
      | some h' => if l.getD 0 ≤ h' ∧ h' ≤ m ∧ m ≤ n then cut3 mu a n v (l.getD 0) h' m else none
      | none => none)).bind k := by
  cases v with
  | d t xs =>
    cases t with
    | sl b => exact cutB_eq _ _ _ _ _ (fun n h' => cut3 mu a n (.d (.sl b) xs) (l.getD 0) h' m) k fun n h' => by simp only [cut3]; split <;> rfl
    | bool => exact cutB_eq (lenSl s (.d .bool xs)) h (l.getD 0) m (fun _ _ => k .any) (fun n h' => cut3 mu a n (.d .bool xs) (l.getD 0) h' m) k fun n h' => rfl
    | int i => exact cutB_eq (lenSl s (.d (.int i) xs)) h (l.getD 0) m (fun _ _ => k .any) (fun n h' => cut3 mu a n (.d (.int i) xs) (l.getD 0) h' m) k fun n h' => rfl
    | str => exact cutB_eq (lenSl s (.d .str xs)) h (l.getD 0) m (fun _ _ => k .any) (fun n h' => cut3 mu a n (.d .str xs) (l.getD 0) h' m) k fun n h' => rfl
    | nil => exact cutB_eq (lenSl s (.d .nil xs)) h (l.getD 0) m (fun _ _ => k .any) (fun n h' => cut3 mu a n (.d .nil xs) (l.getD 0) h' m) k fun n h' => rfl
    | cons x y => exact cutB_eq (lenSl s (.d (.cons x y) xs)) h (l.getD 0) m (fun _ _ => k .any) (fun n h' => cut3 mu a n (.d (.cons x y) xs) (l.getD 0) h' m) k fun n h' => rfl
  | all id =>
    refine cutB_eq _ _ _ _ _ (fun n h' => cut3 mu a n (.all id) (l.getD 0) h' m) k fun n h' => ?_
    simp only [cut3, chk]
    cases mu with
    | true => simp only [if_true]; split <;> rfl
    | false => rfl
  | any => exact cutB_eq (lenSl s .any) h (l.getD 0) m (fun _ _ => k .any) (fun n h' => cut3 mu a n .any (l.getD 0) h' m) k fun n h' => rfl
  | e0 t => exact cutB_eq (lenSl s (.e0 t)) h (l.getD 0) m (fun _ _ => k .any) (fun n h' => cut3 mu a n (.e0 t) (l.getD 0) h' m) k fun n h' => rfl
  | agg cs => exact cutB_eq (lenSl s (.agg cs)) h (l.getD 0) m (fun _ _ => k .any) (fun n h' => cut3 mu a n (.agg cs) (l.getD 0) h' m) k fun n h' => rfl
  | ref i o ln t =>
    refine cutB_eq _ _ _ _ _ (fun n h' => cut3 mu a n (.ref i o ln t) (l.getD 0) h' m) k fun n h' => ?_
    simp only [cut3, chk]
    cases mu with
    | true => simp only [if_true]; split <;> rfl
    | false => rfl
  | ptr i j f => exact cutB_eq (lenSl s (.ptr i j f)) h (l.getD 0) m (fun _ _ => k .any) (fun n h' => cut3 mu a n (.ptr i j f) (l.getD 0) h' m) k fun n h' => rfl
  | cptr t v f => exact cutB_eq (lenSl s (.cptr t v f)) h (l.getD 0) m (fun _ _ => k .any) (fun n h' => cut3 mu a n (.cptr t v f) (l.getD 0) h' m) k fun n h' => rfl
  | tup vs => exact cutB_eq (lenSl s (.tup vs)) h (l.getD 0) m (fun _ _ => k .any) (fun n h' => cut3 mu a n (.tup vs) (l.getD 0) h' m) k fun n h' => rfl
  | fn f cs => exact cutB_eq (lenSl s (.fn f cs)) h (l.getD 0) m (fun _ _ => k .any) (fun n h' => cut3 mu a n (.fn f cs) (l.getD 0) h' m) k fun n h' => rfl

theorem appendK_eq (mu : Bool) (s : Store) (t : Ty) (base : AV) (ys : List t.D) (k : AV → Store → Option γ) : appendK mu s t base ys k = (appendV mu s t base ys).bind fun x => k x.1 x.2 := by
  unfold appendK appendV
  cases base with
  | e0 a =>
    simp only
    split
    · simp only [chk]; split <;> rfl
    · rfl
  | all id =>
    simp only
    cases s[id]? with
    | none => rfl
    | some b =>
      cases b <;> try rfl
      rename_i a xs
      simp only
      cases castD (a := .sl a) (.sl t) xs with
      | none => rfl
      | some zs =>
        simp only [chk, Option.bind_some]
        split
        · split <;> rfl
        · rfl
  | ref id o l tg =>
    simp only
    cases s[id]? with
    | none => rfl
    | some b =>
      cases b <;> try rfl
      rename_i a xs
      simp only
      cases castD (a := .sl a) (.sl t) xs with
      | none => rfl
      | some zs =>
        simp only [Option.bind_some]
        cases tg with
        | none => simp only [chk]; split <;> rfl
        | some q =>
          simp only [chk]
          by_cases e : o + 0 + l + ys.length ≤ 0 + q + o
          · have e' : l + ys.length ≤ q := by omega
            simp only [e', decide_true, cond_true, if_true]
            split <;> rfl
          · have e' : ¬ l + ys.length ≤ q := by omega
            simp only [e', decide_false, cond_false, if_false]
            split <;> rfl
  | _ => rfl

theorem binK_eq (op : BinOp) (t : TypeId) (x y : AV) (k : AV → Option γ) : binK T op t x y k = (binOpV T op t x y).bind k := by
  unfold binK
  split
  · rename_i a x b y
    simp only [binOpV, bin, chk]
    split
    · by_cases h : y = 0 <;> simp [h]
    · rfl
  · rename_i a x b y
    simp only [binOpV, bin, chk]
    split
    · by_cases h : y = 0 <;> simp [h]
    · rfl
  · rename_i a x b y
    simp only [binOpV, chk]
    by_cases h : (y : Int) < 0
    · have : ¬ 0 ≤ (y : Int) := Int.not_le.mpr h
      rw [if_neg this, if_pos h]; rfl
    · have : 0 ≤ (y : Int) := Int.not_lt.mp h
      rw [if_pos this, if_neg h]; rfl
  · rename_i a x b y
    simp only [binOpV, chk]
    by_cases h : (y : Int) < 0
    · have : ¬ 0 ≤ (y : Int) := Int.not_le.mpr h
      rw [if_neg this, if_pos h]; rfl
    · have : 0 ≤ (y : Int) := Int.not_lt.mp h
      rw [if_pos this, if_neg h]; rfl
  · rename_i x y
    simp only [binOpV, binS, chk]
    by_cases h : ((ByteArray.size x + ByteArray.size y : Nat) : Int) > 9223372036854775807
    · have : ¬ ((ByteArray.size x + ByteArray.size y : Nat) : Int) ≤ 9223372036854775807 := by omega
      rw [if_neg this, if_pos h]; rfl
    · have : ((ByteArray.size x + ByteArray.size y : Nat) : Int) ≤ 9223372036854775807 := by omega
      rw [if_pos this, if_neg h]; rfl
  · rfl

theorem pickV_eq {t : Bool} {a b v : AV} (h : pickV t a b = some v) : v = bif t then a else b := by
  unfold pickV at h
  split at h
  · split at h
    · rename_i e
      subst e
      simp only [Option.some.injEq] at h
      subst h
      cases t <;> rfl
    · cases h
  · cases h

theorem opVK_eq (o : Oper) (e : Env) (s : Store) (k : AV → Store → Option γ) : opVK T H o e s k = (opV T H o e s).bind fun x => k x.1 x.2 := by
  obtain ⟨dst, op, type, pos, after, guard⟩ := o
  have gen : ∀ {α : Type} (x : Option α) (f : α → AV × Store), ((x.map f).bind fun x => k x.1 x.2) = x.bind fun y => k (f y).1 (f y).2 := fun x f => by cases x <;> rfl
  cases op <;> dsimp only [opVK]
  case pick c a b =>
    dsimp only [opV]
    cases asB (opnd T type e c) with
    | none => rfl
    | some t =>
      simp only [Option.bind_some]
      cases h : pickV t (opnd T type e a) (opnd T type e b) with
      | none => cases t <;> rfl
      | some v =>
        have := pickV_eq h
        subst this
        cases t <;> rfl
  case load t a =>
    dsimp only [opV]
    cases T.ty t with
    | none => rfl
    | some τ => simp only [loadK_eq, Option.bind_some, gen]
  case store t a x =>
    dsimp only [opV]
    cases T.ty t with
    | none => rfl
    | some τ => simp only [storeK_eq, Option.bind_some, gen]
  case binOp op t x y _ =>
    dsimp only [opV]
    simp only [binK_eq, gen]
  case makeSlice t l c =>
    dsimp only [opV]
    cases T.ty t with
    | none => rfl
    | some τ =>
      cases τ <;> try rfl
      simp only
      split
      · simp only [asNK_eq, chk]
        cases asN (opnd T 0 e l) with
        | none => rfl
        | some n => simp only [Option.bind_some]; split <;> rfl
      · rfl
  case slice t x lo hi mx =>
    cases mx with
    | some m =>
      dsimp only [opV]
      cases T.ty t with
      | none => rfl
      | some τ =>
        cases τ with
        | sl a =>
          simp only [Option.map_some, Option.bind_some, cutV, bndK_eq, asNK_eq, cut3K_eq, gen]
          cases bndV (lo.map (opnd T 0 e)) with
          | none => rfl
          | some l =>
            cases bndV (hi.map (opnd T 0 e)) with
            | none => rfl
            | some h =>
              simp only [Option.bind_some, bndV]
              cases asN (opnd T 0 e m) <;> rfl
        | _ => rfl
    | none =>
      dsimp only [opV]
      cases T.ty t with
      | none => rfl
      | some τ =>
        cases τ with
        | sl a =>
          simp only [Option.map_none, Option.bind_some, cutV, bndK_eq, cutSK_eq, gen]
          cases bndV (lo.map (opnd T 0 e)) with
          | none => rfl
          | some l =>
            cases bndV (hi.map (opnd T 0 e)) with
            | none => rfl
            | some h => simp only [Option.bind_some, bndV]
        | str =>
          simp only [Option.map_none, Option.bind_some, cutV, bndK_eq, gen]
          cases opnd T 0 e x with
          | d τ b =>
            cases τ with
            | str =>
              simp only
              cases bndV (lo.map (opnd T 0 e)) with
              | none => rfl
              | some l =>
                cases bndV (hi.map (opnd T 0 e)) with
                | none => rfl
                | some h =>
                  simp only [Option.bind_some, bndV, chk]
                  split <;> rfl
            | _ => cases bndV (lo.map (opnd T 0 e)) <;> cases bndV (hi.map (opnd T 0 e)) <;> rfl
          | _ => cases bndV (lo.map (opnd T 0 e)) <;> cases bndV (hi.map (opnd T 0 e)) <;> rfl
        | _ =>
          simp only [cutV, Option.map_none, Option.bind_some]
          generalize bndV (lo.map (opnd T 0 e)) = A
          generalize bndV (hi.map (opnd T 0 e)) = B
          cases A <;> cases B <;> rfl
  case indexAddr t x i =>
    dsimp only [opV]
    cases T.ty t with
    | none => rfl
    | some τ =>
      cases τ <;> try rfl
      simp only [asNK_eq, elemPtrK_eq]
      split
      · cases asN (opnd T 0 e i) with
        | none => rfl
        | some n => simp_all
      · cases asN (opnd T 0 e i) with
        | none => rfl
        | some n => simp_all
  case index t x i =>
    dsimp only [opV, indexK]
    cases T.ty t with
    | none => rfl
    | some τ =>
      cases τ <;> try rfl
      cases opnd T t e x <;> try rfl
      rename_i τ b
      cases τ <;> try rfl
      simp only [asNK_eq, getBK]
      cases asN (opnd T 0 e i) with
      | none => rfl
      | some n =>
        simp only [Option.bind_some]
        cases (b : ByteArray)[n]? <;> rfl
  case call c =>
    obtain ⟨callee, args, ats⟩ := c
    cases callee with
    | builtin b =>
      cases b <;> try rfl
      dsimp only [opV]
      split
      · unfold builtinV
        generalize (List.map (fun p => opnd T p.2 e p.1) (args.toList.zip ats.toList)) = as
        generalize ats.toList = ts
        match ts, as with
        | t :: u :: r, [x, y] =>
          simp only
          cases T.ty t with
          | none => rfl
          | some A =>
            cases T.ty u with
            | none => cases A <;> rfl
            | some U =>
              cases A <;> (try rfl) <;> cases U <;> (try rfl)
              · simp only [asNK_eq]
                cases asN y with
                | none => rfl
                | some n =>
                  simp only [Option.bind_some, chk, appendK_eq]
                  by_cases hn : n ≤ bigRow
                  · simp [hn]
                  · simp [hn]
              simp only
              cases elems s _ y with
              | none => rfl
              | some ys => simp only [appendK_eq, Option.bind_some]
        | [], as => cases as <;> rfl
        | [_], as => cases as <;> rfl
        | _ :: _ :: _, [] => rfl
        | _ :: _ :: _, [_] => rfl
        | _ :: _ :: _, _ :: _ :: _ :: _ => rfl
      · rfl
    | value f => rfl
    | invoke r n => rfl
  all_goals rfl

theorem opKK_eq (o : Oper) (e : Env) (s : Store) (k : AV → Store → Option γ) : opKK T H M O o e s k = opK T H M O o e s k := by
  unfold opKK opK
  simp only [opVK_eq]
  cases o.op <;> rfl

end
end Go.Ev

/-
  REGIONS, CODE AND FUNCTIONS in the second form.
-/
namespace Go.Ev

noncomputable def opNK (T : Tab) (H : Hint) (M : FuncId → Mode) (O : Oracle) {γ : Type} (o : Oper) (e : Env) (s : Store) (k : AV → Store → Option γ) : Option γ :=
  match nilArg T o e with
  | some (neg, em) => bif em then both (k (.d .bool (!neg)) s) (k (.d .bool neg) s) else k (.d .bool neg) s
  | none => opKK T H M O o e s k

theorem opNK_eq {T : Tab} {H : Hint} {M : FuncId → Mode} {O : Oracle} {γ : Type} (o : Oper) (e : Env) (s : Store) (k : AV → Store → Option γ) : opNK T H M O o e s k = opN T H M O o e s k := by
  unfold opNK opN
  cases nilArg T o e with
  | none => exact opKK_eq o e s k
  | some p => rfl

noncomputable def runOpsK (T : Tab) (H : Hint) (M : FuncId → Mode) (O : Oracle) {γ : Type} (ops : Array Oper) : List Oper → St → (St → Option γ) → Option γ
  | [], st, k => k st
  | o :: r, st, k => (wantV ops o st.env).bind fun w =>
    bif w.1 then opNK T H M O o w.2.1 st.s fun v s => runOpsK T H M O ops r ⟨putV w.2.1 o.dst v, s⟩ k
    else runOpsK T H M O ops r ⟨putV w.2.2 o.dst (.tup []), st.s⟩ k

def drawStepK (T : Tab) (H : Hint) (M : FuncId → Mode) (O : Oracle) {γ : Type} (ops : Array Oper) (i : Nat) (t : Turn) (listed : Array Bool) (st : St) (K : Array Bool → St → Option γ) : Option γ :=
  match ops[i]? with
  | none => none
  | some o =>
    if turnOk T H M ops listed st.env i o t then
      (wantV ops o st.env).bind fun w =>
        bif w.1 then opKK T H M O o w.2.1 (turnStore t st.s) fun v s => if overOk T o w.2.1 t st.s v s then K (listed.setIfInBounds i true) ⟨putV w.2.1 o.dst v, turnBack t st.s s⟩ else none
        else K (listed.setIfInBounds i true) ⟨putV w.2.2 o.dst (.tup []), st.s⟩
    else none

def runDrawK (T : Tab) (H : Hint) (M : FuncId → Mode) (O : Oracle) {γ : Type} (ops : Array Oper) : List (Nat × Turn) → Array Bool → St → (St → Option γ) → Option γ
  | [], listed, st, k => if Region.ready .any ops listed = [] then k st else none
  | (i, t) :: r, listed, st, k => (match t with
    | .late => lateStep T H M ops i listed st fun l s => runDrawK T H M O ops r l s k
    | .adopt j => adoptStep T H ops i j r listed st fun l s => runDrawK T H M O ops r l s k
    | t => drawStepK T H M O ops i t listed st fun l s => runDrawK T H M O ops r l s k)

noncomputable def evCK (T : Tab) (H : Hint) (M : FuncId → Mode) (O : Oracle) (L : Loops) {γ : Type} : Code → St → (Ex → St → Option γ) → Option γ
  | .skip, st, k => k .normal st
  | .region id ops dr, st, k =>
    if dr then (if stepsOf (hintOrder H id) ≤ ops.size ∧ Region.noSelect ops = true then runDrawK T H M O ops (hintOrder H id) (Array.replicate ops.size false) st fun st' => k .normal (frzSt (frzAt H id) ⟨forget H.keepR st'.env, st'.s⟩) else none)
    else runOpsK T H M O ops ops.toList st fun st' => k .normal (frzSt (frzAt H id) ⟨forget H.keepR st'.env, st'.s⟩)
  | .seq a b, st, k => evCK T H M O L a st fun e st' => (match e with | .normal => evCK T H M O L b st' k | e => k e st')
  | .cond c a b, st, k => (asB (opnd T 0 st.env c)).bind fun t =>
    bif t then evCK T H M O L a ⟨dropC H c st.env, st.s⟩ k else evCK T H M O L b ⟨dropC H c st.env, st.s⟩ k
  | .block id b, st, k =>
    let k' : Ex → St → Option γ := fun e st' => (match e with | .exit j => if j = id then k .normal st' else k (.exit j) st' | e => k e st')
    (match b with
    | .loop _ => L.run id (norm H id st) k'
    | b => evCK T H M O L b st k')
  | .exit id, st, k => k (.exit id) ⟨forget (keepAt H.keepX H.keep id) st.env, st.s⟩
  | .ret, st, k => k .ret ⟨forget H.res st.env, st.s⟩
  | _, _, _ => none

noncomputable def roundK (T : Tab) (H : Hint) (M : FuncId → Mode) (O : Oracle) (L : Loops) (id : Nat) (b : Code) {γ : Type} (st : St) (k : Ex → St → Option γ) : Option γ :=
  evCK T H M O L b st fun e s' => (match e with | .normal => k .normal (norm H id s') | e => k e (leave H id s'))

noncomputable def evBodyK (P : Program) (C : Cfg) (O : Oracle) (L : Loops) {γ : Type} (f : FuncId) (args : List AV) (s : Store) (k : AV → Store → Option γ) : Option γ :=
  match P.funcs[f]? with
  | some fn => (match fn.body with
    | some c => if args.length ≤ fn.ntmps ∧ ((C.hint f).gc = false ∨ s.length = (C.hint f).base) then
        evCK C.T (C.hint f) C.mode O L c ⟨argEnv 0 args, s⟩ fun e st => (match e with
          | .exit _ => none
          | _ => (resultsV C.T st fn.results.toList).bind fun v =>
            if (C.hint f).gc then (let w := outV (C.hint f) v st.s; k (finish s.length w.1 w.2).1 (finish s.length w.1 w.2).2) else k v st.s)
      else none
    | none => none)
  | none => none

section
variable {P : Program} {T : Tab} {H : Hint} {M : FuncId → Mode} {O : Oracle} {L : Loops}

theorem runOpsK_eq {γ : Type} (ops : Array Oper) : ∀ (l : List Oper) (st : St) (k : St → Option γ), runOpsK T H M O ops l st k = runOps T H M O ops l st k
  | [], _, _ => rfl
  | o :: r, st, k => by simp only [runOpsK, runOps, opNK_eq, runOpsK_eq ops r]

theorem runDrawK_eq {γ : Type} (ops : Array Oper) : ∀ (l : List (Nat × Turn)) (b : Array Bool) (st : St) (k : St → Option γ), runDrawK T H M O ops l b st k = runDraw T H M O ops l b st k
  | [], _, _, _ => rfl
  | (i, t) :: r, b, st, k => by
    have hs : ∀ (t : Turn) (b : Array Bool) (st : St) (K : Array Bool → St → Option γ), drawStepK T H M O ops i t b st K = drawStep T H M O ops i t b st K := fun t b st K => by
      unfold drawStepK drawStep
      cases ops[i]? with
      | none => rfl
      | some o => simp only [opKK_eq]
    cases t <;> simp only [runDrawK, runDraw, hs, runDrawK_eq ops r]

theorem evCK_eq {γ : Type} : ∀ (c : Code) (st : St) (k : Ex → St → Option γ), evCK T H M O L c st k = evC T H M O L c st k
  | .skip, _, _ => rfl
  | .region id ops dr, st, k => by simp only [evCK, evC, runOpsK_eq, runDrawK_eq]
  | .seq a b, st, k => by
    simp only [evCK, evC, evCK_eq a]
    congr 1
    funext e st'
    cases e <;> simp only [evCK_eq b]
  | .cond c a b, st, k => by simp only [evCK, evC, evCK_eq a, evCK_eq b]
  | .block id b, st, k => by
    have := evCK_eq b st (γ := γ)
    cases b with
    | loop b => rfl
    | seq x y => exact this _
    | cond q x y => exact this _
    | region i o d => exact this _
    | block j x => exact this _
    | _ => rfl
  | .exit _, _, _ => rfl
  | .ret, _, _ => rfl
  | .rangeFunc _ _ _ _, _, _ => rfl
  | .loop _, _, _ => rfl
  | .scope _, _, _ => rfl
  | .label _, _, _ => rfl
  | .goto _, _, _ => rfl
  | .refuse _, _, _ => rfl

theorem roundK_eq {γ : Type} (id : Nat) (b : Code) (st : St) (k : Ex → St → Option γ) : roundK T H M O L id b st k = round T H M O L id b st k := by
  simp only [roundK, round, evCK_eq]
  congr 1

theorem evBodyK_eq {C : Cfg} {γ : Type} (f : FuncId) (args : List AV) (s : Store) (k : AV → Store → Option γ) : evBodyK P C O L f args s k = evBody P C O L f args s k := by
  unfold evBodyK evBody
  cases P.funcs[f]? with
  | none => rfl
  | some fn =>
    simp only
    cases fn.body with
    | none => rfl
    | some c =>
      simp only [evCK_eq]
      split
      · congr 1
      · rfl

end
end Go.Ev

/-
  CONTRACTS: what is known of a function, as a function of plain data; oracles made of contracts; tables of types; loops.
-/
namespace Go.Ev

/-! ### contracts -/

structure Con where
  run : {γ : Type} → List AV → Store → (AV → Store → Option γ) → Option γ

/-- a contract is kept -/
def ConOk (P : Program) (f : FuncId) (c : Con) : Prop :=
  ∀ args s, (∀ (γ : Type) (k : AV → Store → Option γ), c.run args s k = none) ∨ ∃ v s', SemCall P f args s v s' ∧ ∀ (γ : Type) (k : AV → Store → Option γ), c.run args s k = k v s'

def Oracle.none : Oracle := ⟨fun _ _ _ _ => Option.none⟩

def Oracle.add (O : Oracle) (f : FuncId) (c : Con) : Oracle :=
  ⟨fun g args s k => if g = f then c.run args s k else O.run g args s k⟩

theorem Oracle.none_ok {P : Program} : OracleOk P Oracle.none := fun _ _ _ => .inl fun _ _ => rfl

theorem Oracle.add_ok {P : Program} {O : Oracle} {f : FuncId} {c : Con} (hO : OracleOk P O) (hc : ConOk P f c) : OracleOk P (O.add f c) := by
  intro g args s
  by_cases h : g = f
  · subst h
    rcases hc args s with h | ⟨v, s', h1, h2⟩
    · exact .inl fun γ k => by simp only [Oracle.add, if_true]; exact h γ k
    · exact .inr ⟨v, s', h1, fun γ k => by simp only [Oracle.add, if_true]; exact h2 γ k⟩
  · rcases hO g args s with h' | ⟨v, s', h1, h2⟩
    · exact .inl fun γ k => by simp only [Oracle.add, h, if_false]; exact h' γ k
    · exact .inr ⟨v, s', h1, fun γ k => by simp only [Oracle.add, h, if_false]; exact h2 γ k⟩

/-- plain arguments as one value -/
def packA : (t : Ty) → List AV → Option t.D
  | .nil, [] => some ()
  | .cons h t, .d a v :: r => (castD (a := a) h v).bind fun x => (packA t r).bind fun y => some (x, y)
  | _, _ => Option.none

def unpackA : (t : Ty) → t.D → List AV
  | .cons h t, v => .d h v.1 :: unpackA t v.2
  | _, _ => []

def preK {γ : Type} (b : Bool) (K : Option γ) : Option γ := bif b then K else Option.none

/-- plain data in, one plain value out -/
def Con.data (ts r : Ty) (pre : ts.D → Bool) (F : ts.D → r.D) : Con :=
  ⟨fun args s k => match s with
    | [] => (packA ts args).bind fun x => preK (pre x) (k (.d r (F x)) [])
    | _ => Option.none⟩

/-- plain data in, several plain values out -/
def Con.tuple (ts rs : Ty) (pre : ts.D → Bool) (F : ts.D → rs.D) : Con :=
  ⟨fun args s k => match s with
    | [] => (packA ts args).bind fun x => preK (pre x) (k (.tup (unpackA rs (F x))) [])
    | _ => Option.none⟩

/-- plain data in, nothing out -/
theorem packA_some : ∀ {t : Ty} {args : List AV} {x : t.D}, packA t args = some x → args = unpackA t x
  | .nil, [], x, _ => rfl
  | .cons h t, .d a v :: r, x, hh => by
    simp only [packA] at hh
    obtain ⟨y, h1, h2⟩ := Option.bind_eq_some_iff.mp hh
    obtain ⟨z, h3, h4⟩ := Option.bind_eq_some_iff.mp h2
    simp only [Option.some.injEq] at h4
    subst h4
    obtain ⟨e, rfl⟩ := castD_some h1
    subst e
    simp only [unpackA]
    rw [← packA_some h3]

theorem Con.data_ok {P : Program} {f : FuncId} {ts r : Ty} {pre : ts.D → Bool} {F : ts.D → r.D} (h : ∀ x, pre x = true → SemCall P f (unpackA ts x) [] (.d r (F x)) []) : ConOk P f (Con.data ts r pre F) := by
  intro args s
  cases s with
  | cons _ _ => exact .inl fun _ _ => rfl
  | nil =>
    simp only [Con.data]
    cases hp : packA ts args with
    | none => exact .inl fun _ _ => rfl
    | some x =>
      simp only [Option.bind_some, preK]
      cases hq : pre x with
      | false => exact .inl fun _ _ => rfl
      | true => exact .inr ⟨_, _, by rw [packA_some hp]; exact h x hq, fun _ _ => rfl⟩

theorem Con.tuple_ok {P : Program} {f : FuncId} {ts rs : Ty} {pre : ts.D → Bool} {F : ts.D → rs.D} (h : ∀ x, pre x = true → SemCall P f (unpackA ts x) [] (.tup (unpackA rs (F x))) []) : ConOk P f (Con.tuple ts rs pre F) := by
  intro args s
  cases s with
  | cons _ _ => exact .inl fun _ _ => rfl
  | nil =>
    simp only [Con.tuple]
    cases hp : packA ts args with
    | none => exact .inl fun _ _ => rfl
    | some x =>
      simp only [Option.bind_some, preK]
      cases hq : pre x with
      | false => exact .inl fun _ _ => rfl
      | true => exact .inr ⟨_, _, by rw [packA_some hp]; exact h x hq, fun _ _ => rfl⟩

/-! ### the table of types -/

def lkN {α : Type} : List (Nat × α) → Nat → Option α
  | [], _ => Option.none
  | (k, v) :: r, t => if k = t then some v else lkN r t

theorem lkN_mem {α : Type} : ∀ {l : List (Nat × α)} {t : Nat} {v : α}, lkN l t = some v → (t, v) ∈ l
  | (k, w) :: r, t, v, h => by
    simp only [lkN] at h
    split at h
    · rename_i e
      simp only [Option.some.injEq] at h
      subst e; subst h
      exact List.mem_cons_self
    · exact List.mem_cons_of_mem _ (lkN_mem h)

def tabOf (tys : List (Nat × Ty)) (tups : List (Nat × List Ty)) : Tab := ⟨lkN tys, lkN tups⟩

def tabB (P : Program) (tys : List (Nat × Ty)) : Bool := tys.all fun p => (tyF P p.2).1 p.1

theorem tabOf_ok {P : Program} {tys : List (Nat × Ty)} {tups : List (Nat × List Ty)} (h : tabB P tys = true) : TabOk P (tabOf tys tups) := by
  intro t a hta
  exact List.all_eq_true.mp h _ (lkN_mem hta)

/-! ### loops -/

/-- what is known of the loops of a function, by the number of the block around each -/
def Loops.none : Loops := ⟨fun _ _ _ => Option.none⟩

structure LCon where
  run : {γ : Type} → St → (Ex → St → Option γ) → Option γ

def Loops.add (L : Loops) (id : Nat) (c : LCon) : Loops :=
  ⟨fun j st k => if j = id then c.run st k else L.run j st k⟩

def LConOk (T : Tab) (H : Hint) (M : FuncId → Mode) (O : Oracle) (L : Loops) (id : Nat) (b : Code) (c : LCon) : Prop :=
  ∀ (γ : Type) (st : St) (k : Ex → St → Option γ) (r : γ), c.run st k = some r → ∃ e st', Rounds T H M O L id b st e st' ∧ k e st' = some r

theorem loops_ok0 {T : Tab} {H : Hint} {M : FuncId → Mode} {O : Oracle} {body : Code} : LoopsOk T H M O Loops.none body := by
  intro γ id st k r h
  cases h

/-- by a list of loops, the inner ones first -/
theorem loops_ok {T : Tab} {H : Hint} {M : FuncId → Mode} {O : Oracle} {L : Loops} {body : Code} (h : ∀ id b, (id, b) ∈ loopsOf body → LConOk T H M O L id b ⟨fun st k => L.run id st k⟩) : LoopsOk T H M O L body :=
  fun γ id st k r hr b hb => h id b hb γ st k r hr

section
variable {P : Program} {C : Cfg} {O : Oracle} {L : Loops}

theorem body_soundK (hP : P.follows .mixedOrders = true) (hok : progOk P = true) (hT : TabOk P C.T) (hO : OracleOk P O) {f : FuncId} {args : List AV} {s : Store} {v : AV} {s' : Store}
    (hL : ∀ fn c, P.funcs[f]? = some fn → fn.body = some c → LoopsOk C.T (C.hint f) C.mode O L c)
    (h : evBodyK P C O L f args s (fun v s => some (v, s)) = some (v, s')) : SemCall P f args s v s' :=
  body_sound hP hok hT hO hL (by rw [← evBodyK_eq]; exact h)

end
end Go.Ev

/-
  SHAPES: which temporaries (or arguments) hold plain data, which refer to the store, what the blocks hold; loops as functions of plain data.
-/
namespace Go.Ev

/-! ### shapes -/

/-- a value of one cell, or plain data -/
inductive S1 where
  | dat (t : Ty)
  | cdat (t : Ty) (f : Nat)
  | e0 (t : Ty)
  | all (id : Nat)
  | ref0 (id : Nat)
  | refn (id : Nat)
  | reft (id : Nat)
  | refg (id : Nat)
  | refx (id : Nat)
  | ptr (id i f : Nat)
  deriving DecidableEq

inductive S2 where
  | one (a : S1)
  | agg (l : List S1)
  | fn (f : Nat) (l : List S1)
  deriving DecidableEq

inductive SB where
  | data (t : Ty)
  | one (t : Ty)
  | var (l : List S1)
  | cell (a : S1)
  | dead
  deriving DecidableEq

@[reducible] def S1.F (a : S1) (α : Type) : Type :=
  match a with
  | .dat t => t.D × α
  | .cdat t _ => t.D × α
  | .refn _ => Nat × α
  | .reft _ => Nat × α
  | .refg _ => Nat × Nat × α
  | .refx _ => Nat × Nat × α
  | _ => α

@[reducible] def F1 : List S1 → Type → Type
  | [], α => α
  | a :: l, α => a.F (F1 l α)

@[reducible] def S2.F (a : S2) (α : Type) : Type :=
  match a with
  | .one a => a.F α
  | .agg l => F1 l α
  | .fn _ l => F1 l α

@[reducible] def SB.F (a : SB) (α : Type) : Type :=
  match a with
  | .data t => List t.D × α
  | .one t => t.D × α
  | .var l => F1 l α
  | .cell a => a.F α
  | .dead => α

@[reducible] def F2 : List S2 → Type → Type
  | [], α => α
  | a :: l, α => a.F (F2 l α)

@[reducible] def FE : List (Nat × S2) → Type → Type
  | [], α => α
  | a :: l, α => a.2.F (FE l α)

@[reducible] def FB : List SB → Type
  | [] => Unit
  | a :: l => a.F (FB l)

/-- the parameters of a state -/
@[reducible] def FSt (sh : List (Nat × S2)) (bs : List SB) : Type := FE sh (FB bs)
@[reducible] def FAr (sh : List S2) (bs : List SB) : Type := F2 sh (FB bs)

/-! ### from parameters to values -/

def enc1 {α : Type} : (a : S1) → a.F α → AV × α
  | .dat t, x => (.d t x.1, x.2)
  | .cdat t f, x => (.cptr t x.1 f, x.2)
  | .e0 t, x => (.e0 t, x)
  | .all id, x => (.all id, x)
  | .ref0 id, x => (.ref id 0 0 none, x)
  | .refn id, x => (.ref id 0 x.1 none, x.2)
  | .reft id, x => (.ref id 0 x.1 (some x.1), x.2)
  | .refg id, x => (.ref id x.1 x.2.1 none, x.2.2)
  | .refx id, x => (.ref id 0 x.1 (some x.2.1), x.2.2)
  | .ptr id i f, x => (.ptr id i f, x)

def encL {α : Type} : (l : List S1) → F1 l α → List AV × α
  | [], x => ([], x)
  | a :: l, x => ((enc1 a x).1 :: (encL l (enc1 a x).2).1, (encL l (enc1 a x).2).2)

def enc2 {α : Type} : (a : S2) → a.F α → AV × α
  | .one a, x => enc1 a x
  | .agg l, x => (.agg (encL l x).1, (encL l x).2)
  | .fn f l, x => (.fn f (encL l x).1, (encL l x).2)

def encB {α : Type} : (a : SB) → a.F α → Blk × α
  | .data t, x => (.data t x.1, x.2)
  | .one t, x => (.data t [x.1], x.2)
  | .var l, x => (.node l.length [.agg (encL l x).1], (encL l x).2)
  | .cell a, x => (.node 1 [(enc1 a x).1], (enc1 a x).2)
  | .dead, x => (.dead, x)

def encA {α : Type} : (l : List S2) → F2 l α → List AV × α
  | [], x => ([], x)
  | a :: l, x => ((enc2 a x).1 :: (encA l (enc2 a x).2).1, (encA l (enc2 a x).2).2)

def encE {α : Type} : (l : List (Nat × S2)) → FE l α → Env × α
  | [], x => ([], x)
  | a :: l, x => ((a.1, (enc2 a.2 x).1) :: (encE l (enc2 a.2 x).2).1, (encE l (enc2 a.2 x).2).2)

def encS : (l : List SB) → FB l → Store
  | [], _ => []
  | a :: l, x => (encB a x).1 :: encS l (encB a x).2

def encSt (sh : List (Nat × S2)) (bs : List SB) (x : FSt sh bs) : St := ⟨(encE sh x).1, encS bs (encE sh x).2⟩
def encAr (sh : List S2) (bs : List SB) (x : FAr sh bs) : List AV × Store := ((encA sh x).1, encS bs (encA sh x).2)

/-! ### from values to parameters -/

def dec1 {α : Type} (r : Option α) : (a : S1) → AV → Option (a.F α)
  | .dat t, .d u v => (castD (a := u) t v).bind fun x => r.bind fun y => some (x, y)
  | .cdat t f, .cptr u v g => if g = f then (castD (a := u) t v).bind fun x => r.bind fun y => some (x, y) else none
  | .e0 t, .e0 u => if u = t then r else none
  | .all id, .all id' => if id' = id then r else none
  | .ref0 id, .ref id' o n t => if id' = id ∧ o = 0 ∧ n = 0 ∧ t = none then r else none
  | .refn id, .ref id' o n t => if id' = id ∧ o = 0 ∧ t = none then r.bind fun y => some (n, y) else none
  | .reft id, .ref id' o n t => if id' = id ∧ o = 0 ∧ t = some n then r.bind fun y => some (n, y) else none
  | .refg id, .ref id' o n t => if id' = id ∧ t = none then r.bind fun y => some (o, n, y) else none
  | .refx id, .ref id' o n (some c) => if id' = id ∧ o = 0 then r.bind fun y => some (n, c, y) else none
  | .ptr id i f, .ptr id' i' f' => if id' = id ∧ i' = i ∧ f' = f then r else none
  | _, _ => none

def decL {α : Type} (r : Option α) : (l : List S1) → List AV → Option (F1 l α)
  | [], [] => r
  | a :: l, v :: vs => dec1 (decL r l vs) a v
  | _, _ => none

def dec2 {α : Type} (r : Option α) : (a : S2) → AV → Option (a.F α)
  | .one a, v => dec1 r a v
  | .agg l, .agg vs => decL r l vs
  | .fn f l, .fn g vs => if g = f then decL r l vs else none
  | _, _ => none

def decB {α : Type} (r : Option α) : (a : SB) → Blk → Option (a.F α)
  | .data t, .data u v => (castD (a := .sl u) (.sl t) v).bind fun x => r.bind fun y => some (x, y)
  | .one t, .data u [v] => (castD (a := u) t v).bind fun x => r.bind fun y => some (x, y)
  | .var l, .node n [.agg vs] => if n = l.length then decL r l vs else none
  | .cell a, .node n [v] => if n = 1 then dec1 r a v else none
  | .dead, .dead => r
  | _, _ => none

def decA {α : Type} (r : Option α) : (l : List S2) → List AV → Option (F2 l α)
  | [], [] => r
  | a :: l, v :: vs => dec2 (decA r l vs) a v
  | _, _ => none

def decE {α : Type} (r : Option α) : (l : List (Nat × S2)) → Env → Option (FE l α)
  | [], [] => r
  | a :: l, v :: vs => if v.1 = a.1 then dec2 (decE r l vs) a.2 v.2 else none
  | _, _ => none

def decS : (l : List SB) → Store → Option (FB l)
  | [], [] => some ()
  | a :: l, v :: vs => decB (decS l vs) a v
  | _, _ => none

def decSt (sh : List (Nat × S2)) (bs : List SB) (st : St) : Option (FSt sh bs) := decE (decS bs st.s) sh st.env
def decAr (sh : List S2) (bs : List SB) (args : List AV) (s : Store) : Option (FAr sh bs) := decA (decS bs s) sh args

theorem pair_some {α β : Type} {c : Option α} {r : Option β} {z : α × β} (h : (c.bind fun x => r.bind fun y => some (x, y)) = some z) : c = some z.1 ∧ r = some z.2 := by
  cases c with
  | none => cases h
  | some x => cases r with
    | none => cases h
    | some y => simp only [Option.bind_some, Option.some.injEq] at h; subst h; exact ⟨rfl, rfl⟩

theorem dec1_some {α : Type} {r : Option α} : ∀ {a : S1} {v : AV} {x : a.F α}, dec1 r a v = some x → v = (enc1 a x).1 ∧ r = some (enc1 a x).2
  | .dat t, v, x, h => by
    cases v <;> simp only [dec1, reduceCtorEq] at h
    obtain ⟨h1, h2⟩ := pair_some h
    obtain ⟨e, h1⟩ := castD_some h1
    subst e
    exact ⟨by simp only [enc1, h1], h2⟩
  | .cdat t f, v, x, h => by
    cases v <;> simp only [dec1, reduceCtorEq] at h
    split at h
    · rename_i e0
      subst e0
      obtain ⟨h1, h2⟩ := pair_some h
      obtain ⟨e, h1⟩ := castD_some h1
      subst e
      exact ⟨by simp only [enc1, h1], h2⟩
    · cases h
  | .e0 t, v, x, h => by
    cases v <;> simp only [dec1, reduceCtorEq] at h
    split at h
    · rename_i e; subst e; exact ⟨rfl, h⟩
    · cases h
  | .all id, v, x, h => by
    cases v <;> simp only [dec1, reduceCtorEq] at h
    split at h
    · rename_i e; subst e; exact ⟨rfl, h⟩
    · cases h
  | .ref0 id, v, x, h => by
    cases v <;> simp only [dec1, reduceCtorEq] at h
    split at h
    · rename_i e; obtain ⟨rfl, rfl, rfl, rfl⟩ := e; exact ⟨rfl, h⟩
    · cases h
  | .refn id, v, x, h => by
    cases v <;> simp only [dec1, reduceCtorEq] at h
    split at h
    · rename_i n _ e
      obtain ⟨rfl, rfl, rfl⟩ := e
      obtain ⟨y, h1, h2⟩ := Option.bind_eq_some_iff.mp h
      simp only [Option.some.injEq] at h2
      subst h2
      exact ⟨rfl, h1⟩
    · cases h
  | .reft id, v, x, h => by
    cases v <;> simp only [dec1, reduceCtorEq] at h
    split at h
    · rename_i n _ e
      obtain ⟨rfl, rfl, rfl⟩ := e
      obtain ⟨y, h1, h2⟩ := Option.bind_eq_some_iff.mp h
      simp only [Option.some.injEq] at h2
      subst h2
      exact ⟨rfl, h1⟩
    · cases h
  | .refg id, v, x, h => by
    cases v <;> simp only [dec1, reduceCtorEq] at h
    split at h
    · rename_i o n _ e
      obtain ⟨rfl, rfl⟩ := e
      obtain ⟨y, h1, h2⟩ := Option.bind_eq_some_iff.mp h
      simp only [Option.some.injEq] at h2
      subst h2
      exact ⟨rfl, h1⟩
    · cases h
  | .refx id, v, x, h => by
    cases v with
    | ref id' o n t =>
      cases t with
      | none => simp only [dec1, reduceCtorEq] at h
      | some c =>
        simp only [dec1] at h
        split at h
        · rename_i e
          obtain ⟨rfl, rfl⟩ := e
          obtain ⟨y, h1, h2⟩ := Option.bind_eq_some_iff.mp h
          simp only [Option.some.injEq] at h2
          subst h2
          exact ⟨rfl, h1⟩
        · cases h
    | _ => simp only [dec1, reduceCtorEq] at h
  | .ptr id i f, v, x, h => by
    cases v <;> simp only [dec1, reduceCtorEq] at h
    split at h
    · rename_i e; obtain ⟨rfl, rfl, rfl⟩ := e; exact ⟨rfl, h⟩
    · cases h

theorem decL_some {α : Type} {r : Option α} : ∀ {l : List S1} {vs : List AV} {x : F1 l α}, decL r l vs = some x → vs = (encL l x).1 ∧ r = some (encL l x).2
  | [], [], _, h => ⟨rfl, h⟩
  | [], _ :: _, _, h => by simp [decL] at h
  | _ :: _, [], _, h => by simp [decL] at h
  | a :: l, v :: vs, x, h => by
    simp only [decL] at h
    obtain ⟨h1, h2⟩ := dec1_some h
    obtain ⟨h3, h4⟩ := decL_some h2
    exact ⟨by simp only [encL]; rw [← h1, ← h3], h4⟩

theorem dec2_some {α : Type} {r : Option α} : ∀ {a : S2} {v : AV} {x : a.F α}, dec2 r a v = some x → v = (enc2 a x).1 ∧ r = some (enc2 a x).2
  | .one a, v, x, h => dec1_some h
  | .agg l, v, x, h => by
    cases v <;> simp only [dec2, reduceCtorEq] at h
    obtain ⟨h1, h2⟩ := decL_some h
    exact ⟨by simp only [enc2]; rw [← h1], h2⟩
  | .fn f l, v, x, h => by
    cases v <;> simp only [dec2, reduceCtorEq] at h
    split at h
    · rename_i e
      subst e
      obtain ⟨h1, h2⟩ := decL_some h
      exact ⟨by simp only [enc2]; rw [← h1], h2⟩
    · cases h

theorem decB_some {α : Type} {r : Option α} : ∀ {a : SB} {v : Blk} {x : a.F α}, decB r a v = some x → v = (encB a x).1 ∧ r = some (encB a x).2
  | .data t, v, x, h => by
    cases v <;> simp only [decB, reduceCtorEq] at h
    obtain ⟨h1, h2⟩ := pair_some h
    obtain ⟨e, h1⟩ := castD_some h1
    cases e
    exact ⟨by simp only [encB, h1], h2⟩
  | .one t, v, x, h => by
    match v, h with
    | .data u [v], h =>
      obtain ⟨h1, h2⟩ := pair_some h
      obtain ⟨e, h1⟩ := castD_some h1
      subst e
      exact ⟨by simp only [encB, h1], h2⟩
    | .data u [], h => cases h
    | .data u (_ :: _ :: _), h => cases h
    | .node _ _, h => cases h
    | .dead, h => cases h
  | .var l, v, x, h => by
    match v, h with
    | .node n [.agg vs], h =>
      simp only [decB] at h
      split at h
      · rename_i e
        subst e
        obtain ⟨h1, h2⟩ := decL_some h
        exact ⟨by simp only [encB]; rw [← h1], h2⟩
      · cases h
    | .node n [], h => cases h
    | .node n (_ :: _ :: _), h => simp [decB] at h
    | .data u v, h => cases h
    | .dead, h => cases h
    | .node n [.any], h => cases h
    | .node n [.d _ _], h => cases h
    | .node n [.e0 _], h => cases h
    | .node n [.all _], h => cases h
    | .node n [.ref _ _ _ _], h => cases h
    | .node n [.ptr _ _ _], h => cases h
    | .node n [.cptr _ _ _], h => cases h
    | .node n [.tup _], h => cases h
    | .node n [.fn _ _], h => cases h
  | .cell a, v, x, h => by
    match v, h with
    | .node n [v], h =>
      have h' : (if n = 1 then dec1 r a v else none) = some x := h
      split at h'
      · rename_i e
        subst e
        obtain ⟨h1, h2⟩ := dec1_some h'
        exact ⟨by simp only [encB]; rw [← h1], h2⟩
      · cases h'
    | .node n [], h => cases h
    | .node n (_ :: _ :: _), h => simp [decB] at h
    | .data u v, h => cases h
    | .dead, h => cases h
  | .dead, v, x, h => by
    cases v <;> simp only [decB, reduceCtorEq] at h
    exact ⟨rfl, h⟩

theorem decA_some {α : Type} {r : Option α} : ∀ {l : List S2} {vs : List AV} {x : F2 l α}, decA r l vs = some x → vs = (encA l x).1 ∧ r = some (encA l x).2
  | [], [], _, h => ⟨rfl, h⟩
  | [], _ :: _, _, h => by simp [decA] at h
  | _ :: _, [], _, h => by simp [decA] at h
  | a :: l, v :: vs, x, h => by
    simp only [decA] at h
    obtain ⟨h1, h2⟩ := dec2_some h
    obtain ⟨h3, h4⟩ := decA_some h2
    exact ⟨by simp only [encA]; rw [← h1, ← h3], h4⟩

theorem decE_some {α : Type} {r : Option α} : ∀ {l : List (Nat × S2)} {vs : Env} {x : FE l α}, decE r l vs = some x → vs = (encE l x).1 ∧ r = some (encE l x).2
  | [], [], _, h => ⟨rfl, h⟩
  | [], _ :: _, _, h => by simp [decE] at h
  | _ :: _, [], _, h => by simp [decE] at h
  | (n, a) :: l, (m, v) :: vs, x, h => by
    simp only [decE] at h
    split at h
    · rename_i e
      subst e
      obtain ⟨h1, h2⟩ := dec2_some h
      obtain ⟨h3, h4⟩ := decE_some h2
      exact ⟨by simp only [encE]; rw [← h1, ← h3], h4⟩
    · cases h

theorem decS_some : ∀ {l : List SB} {vs : Store} {x : FB l}, decS l vs = some x → vs = encS l x
  | [], [], _, h => rfl
  | [], _ :: _, _, h => by simp [decS] at h
  | _ :: _, [], _, h => by simp [decS] at h
  | a :: l, v :: vs, x, h => by
    simp only [decS] at h
    obtain ⟨h1, h2⟩ := decB_some h
    have h3 := decS_some h2
    simp only [encS]; rw [← h1, ← h3]

theorem decSt_some {sh : List (Nat × S2)} {bs : List SB} {st : St} {x : FSt sh bs} (h : decSt sh bs st = some x) : st = encSt sh bs x := by
  obtain ⟨h1, h2⟩ := decE_some h
  have h3 := decS_some h2
  obtain ⟨e, s⟩ := st
  simp only at h1 h3
  unfold encSt
  rw [← h1, ← h3]

theorem decAr_some {sh : List S2} {bs : List SB} {args : List AV} {s : Store} {x : FAr sh bs} (h : decAr sh bs args s = some x) : args = (encAr sh bs x).1 ∧ s = (encAr sh bs x).2 := by
  obtain ⟨h1, h2⟩ := decA_some h
  have h3 := decS_some h2
  exact ⟨h1, h3⟩

/-! ### contracts of functions -/

/-- arguments and blocks of this shape; what comes out is written as values and blocks -/
def Con.shape (sh : List S2) (bs : List SB) {ρ : Type} (F : FAr sh bs → Option ρ) (out : ρ → AV × Store) : Con :=
  ⟨fun args s k => (decAr sh bs args s).bind fun x => (F x).bind fun y => k (out y).1 (out y).2⟩

theorem Con.shape_ok {P : Program} {f : FuncId} {sh : List S2} {bs : List SB} {ρ : Type} {F : FAr sh bs → Option ρ} {out : ρ → AV × Store}
    (h : ∀ x y, F x = some y → SemCall P f (encAr sh bs x).1 (encAr sh bs x).2 (out y).1 (out y).2) : ConOk P f (Con.shape sh bs F out) := by
  intro args s
  simp only [Con.shape]
  cases hp : decAr sh bs args s with
  | none => exact .inl fun _ _ => rfl
  | some x =>
    simp only [Option.bind_some]
    cases hf : F x with
    | none => exact .inl fun _ _ => rfl
    | some y =>
      obtain ⟨h1, h2⟩ := decAr_some hp
      exact .inr ⟨_, _, by rw [h1, h2]; exact h x y hf, fun _ _ => rfl⟩

/-- the first contract, where it does not speak the second -/
def Con.shape2 (sh : List S2) (bs : List SB) {ρ : Type} (F : FAr sh bs → Option ρ) (out : ρ → AV × Store) (c : Con) : Con :=
  ⟨fun args s k => match decAr sh bs args s with
    | some x => (F x).bind fun y => k (out y).1 (out y).2
    | none => c.run args s k⟩

theorem Con.shape2_ok {P : Program} {f : FuncId} {sh : List S2} {bs : List SB} {ρ : Type} {F : FAr sh bs → Option ρ} {out : ρ → AV × Store} {c : Con}
    (h : ∀ x y, F x = some y → SemCall P f (encAr sh bs x).1 (encAr sh bs x).2 (out y).1 (out y).2) (hc : ConOk P f c) : ConOk P f (Con.shape2 sh bs F out c) := by
  intro args s
  simp only [Con.shape2]
  cases hp : decAr sh bs args s with
  | none => exact hc args s
  | some x =>
    cases hf : F x with
    | none => exact .inl fun _ _ => by simp only [hf, Option.bind_none]
    | some y =>
      obtain ⟨h1, h2⟩ := decAr_some hp
      exact .inr ⟨_, _, by rw [h1, h2]; exact h x y hf, fun _ _ => by simp only [hf, Option.bind_some]⟩

/-! ### loops as functions -/

def iterF {σ τ : Type} (nxt : σ → Option (σ ⊕ τ)) : Nat → σ → Option τ
  | 0, _ => none
  | n + 1, x => match nxt x with
    | none => none
    | some (.inl y) => iterF nxt n y
    | some (.inr z) => some z

theorem iterF_mono {σ τ : Type} {nxt : σ → Option (σ ⊕ τ)} : ∀ {n m : Nat} {x : σ} {z : τ}, n ≤ m → iterF nxt n x = some z → iterF nxt m x = some z
  | 0, _, _, _, _, h => by cases h
  | n + 1, 0, _, _, hm, _ => by omega
  | n + 1, m + 1, x, z, hm, h => by
    simp only [iterF] at h ⊢
    cases hn : nxt x with
    | none => rw [hn] at h; cases h
    | some r =>
      rw [hn] at h
      cases r with
      | inl y => exact iterF_mono (by omega) h
      | inr z => exact h

open Classical in
/-- what a loop comes to, if it comes to an end -/
noncomputable def loopF {σ τ : Type} (nxt : σ → Option (σ ⊕ τ)) (x : σ) : Option τ :=
  if h : ∃ n z, iterF nxt n x = some z then some h.choose_spec.choose else none

theorem loopF_some {σ τ : Type} {nxt : σ → Option (σ ⊕ τ)} {x : σ} {z : τ} : loopF nxt x = some z ↔ ∃ n, iterF nxt n x = some z := by
  unfold loopF
  constructor
  · intro h
    split at h
    · rename_i hx
      simp only [Option.some.injEq] at h
      exact ⟨_, by rw [← h]; exact hx.choose_spec.choose_spec⟩
    · cases h
  · rintro ⟨n, hn⟩
    have hx : ∃ n z, iterF nxt n x = some z := ⟨n, z, hn⟩
    rw [dif_pos hx]
    have h1 := hx.choose_spec.choose_spec
    have a := iterF_mono (Nat.le_max_left n hx.choose) hn
    have b := iterF_mono (Nat.le_max_right n hx.choose) h1
    rw [a] at b
    exact b.symm

theorem loopF_eq {σ τ : Type} (nxt : σ → Option (σ ⊕ τ)) (x : σ) : loopF nxt x = match nxt x with | none => none | some (.inl y) => loopF nxt y | some (.inr z) => some z := by
  apply Option.ext
  intro z
  rw [loopF_some]
  cases hn : nxt x with
  | none =>
    constructor
    · rintro ⟨n, h⟩
      cases n with
      | zero => cases h
      | succ n => simp only [iterF, hn] at h; cases h
    · intro h; cases h
  | some r =>
    cases r with
    | inl y =>
      simp only
      rw [loopF_some]
      constructor
      · rintro ⟨n, h⟩
        cases n with
        | zero => cases h
        | succ n => simp only [iterF, hn] at h; exact ⟨n, h⟩
      · rintro ⟨n, h⟩
        exact ⟨n + 1, by simp only [iterF, hn]; exact h⟩
    | inr y =>
      simp only
      constructor
      · rintro ⟨n, h⟩
        cases n with
        | zero => cases h
        | succ n => simp only [iterF, hn] at h; exact h
      · intro h
        exact ⟨1, by simp only [iterF, hn]; exact h⟩

theorem loopF_inl {σ τ : Type} {nxt : σ → Option (σ ⊕ τ)} {x y : σ} (h : nxt x = some (.inl y)) : loopF nxt x = loopF nxt y := by rw [loopF_eq, h]
theorem loopF_inr {σ τ : Type} {nxt : σ → Option (σ ⊕ τ)} {x : σ} {z : τ} (h : nxt x = some (.inr z)) : loopF nxt x = some z := by rw [loopF_eq, h]

/-- a loop's ends: out of the loop, or out of the function -/
def endK {α β γ : Type} (z : α ⊕ β) (f : α → Option γ) (g : β → Option γ) : Option γ :=
  match z with
  | .inl a => f a
  | .inr b => g b

def sum3K {σ α β γ : Type} (r : σ ⊕ (α ⊕ β)) (f : σ → Option γ) (g : α → Option γ) (h : β → Option γ) : Option γ :=
  match r with
  | .inl y => f y
  | .inr (.inl a) => g a
  | .inr (.inr b) => h b
def sum2K {σ α γ : Type} (r : σ ⊕ α) (f : σ → Option γ) (g : α → Option γ) : Option γ :=
  match r with
  | .inl y => f y
  | .inr a => g a

theorem C1 {σ α β γ : Type} (y : σ) (f : σ → Option γ) (g : α → Option γ) (h : β → Option γ) : sum3K (.inl y) f g h = f y := rfl
theorem C2 {σ α β γ : Type} (y : α) (f : σ → Option γ) (g : α → Option γ) (h : β → Option γ) : sum3K (.inr (.inl y)) f g h = g y := rfl
theorem C3 {σ α β γ : Type} (y : β) (f : σ → Option γ) (g : α → Option γ) (h : β → Option γ) : sum3K (.inr (.inr y)) f g h = h y := rfl
theorem C4 {σ α γ : Type} (y : σ) (f : σ → Option γ) (g : α → Option γ) : sum2K (.inl y) f g = f y := rfl
theorem C5 {σ α γ : Type} (y : α) (f : σ → Option γ) (g : α → Option γ) : sum2K (.inr y) f g = g y := rfl

noncomputable def LCon.shape (sh : List (Nat × S2)) (bs : List SB) {α β : Type} (nxt : FSt sh bs → Option (FSt sh bs ⊕ (α ⊕ β))) (outX : α → Ex × St) (outR : β → St) : LCon :=
  ⟨fun st k => (decSt sh bs st).bind fun x => (loopF nxt x).bind fun z => endK z (fun a => k (outX a).1 (outX a).2) (fun b => k .ret (outR b))⟩

theorem LCon.shape_ok {T : Tab} {H : Hint} {M : FuncId → Mode} {O : Oracle} {L : Loops} {id : Nat} {b : Code} {sh : List (Nat × S2)} {bs : List SB} {α β : Type} {nxt : FSt sh bs → Option (FSt sh bs ⊕ (α ⊕ β))} {outX : α → Ex × St} {outR : β → St}
    (hx : ∀ a, (outX a).1 ≠ .normal)
    (h : ∀ x, roundK T H M O L id b (encSt sh bs x) (fun e s => some (e, s)) = (nxt x).bind fun r => sum3K r (fun y => some (.normal, encSt sh bs y)) (fun a => some (outX a)) (fun c => some (.ret, outR c))) :
    LConOk T H M O L id b (LCon.shape sh bs nxt outX outR) := by
  intro γ st k r hr
  simp only [LCon.shape] at hr
  obtain ⟨x, h1, h2⟩ := Option.bind_eq_some_iff.mp hr
  obtain ⟨z, h3, h4⟩ := Option.bind_eq_some_iff.mp h2
  obtain rfl := decSt_some h1
  obtain ⟨n, hn⟩ := loopF_some.mp h3
  clear h3 hr h2 h1
  have key : ∀ (n : Nat) (x : FSt sh bs), iterF nxt n x = some z → Rounds T H M O L id b (encSt sh bs x) (match z with | .inl a => (outX a).1 | .inr _ => .ret) (match z with | .inl a => (outX a).2 | .inr c => outR c) := by
    intro n
    induction n with
    | zero => intro x h; cases h
    | succ n ih =>
      intro x hit
      have hrd := h x
      rw [roundK_eq] at hrd
      simp only [iterF] at hit
      cases hnx : nxt x with
      | none => rw [hnx] at hit; cases hit
      | some q =>
        rw [hnx] at hit hrd
        simp only [Option.bind_some] at hrd
        cases q with
        | inl y => exact .more hrd (ih y hit)
        | inr w =>
          simp only [Option.some.injEq] at hit
          subst hit
          cases w with
          | inl a => exact .last hrd (hx a)
          | inr c => exact .last hrd (by simp)
  cases z with
  | inl a => exact ⟨_, _, key n x hn, h4⟩
  | inr c => exact ⟨_, _, key n x hn, h4⟩

/-- a loop that is never left by a return -/
noncomputable def LCon.shape1 (sh : List (Nat × S2)) (bs : List SB) {α : Type} (nxt : FSt sh bs → Option (FSt sh bs ⊕ α)) (outX : α → Ex × St) : LCon :=
  ⟨fun st k => (decSt sh bs st).bind fun x => (loopF nxt x).bind fun a => k (outX a).1 (outX a).2⟩

theorem LCon.shape1_ok {T : Tab} {H : Hint} {M : FuncId → Mode} {O : Oracle} {L : Loops} {id : Nat} {b : Code} {sh : List (Nat × S2)} {bs : List SB} {α : Type} {nxt : FSt sh bs → Option (FSt sh bs ⊕ α)} {outX : α → Ex × St}
    (hx : ∀ a, (outX a).1 ≠ .normal)
    (h : ∀ x, roundK T H M O L id b (encSt sh bs x) (fun e s => some (e, s)) = (nxt x).bind fun r => sum2K r (fun y => some (.normal, encSt sh bs y)) (fun a => some (outX a))) :
    LConOk T H M O L id b (LCon.shape1 sh bs nxt outX) := by
  intro γ st k r hr
  simp only [LCon.shape1] at hr
  obtain ⟨x, h1, h2⟩ := Option.bind_eq_some_iff.mp hr
  obtain ⟨z, h3, h4⟩ := Option.bind_eq_some_iff.mp h2
  obtain rfl := decSt_some h1
  obtain ⟨n, hn⟩ := loopF_some.mp h3
  clear h3 hr h2 h1
  have key : ∀ (n : Nat) (x : FSt sh bs), iterF nxt n x = some z → Rounds T H M O L id b (encSt sh bs x) (outX z).1 (outX z).2 := by
    intro n
    induction n with
    | zero => intro x h; cases h
    | succ n ih =>
      intro x hit
      have hrd := h x
      rw [roundK_eq] at hrd
      simp only [iterF] at hit
      cases hnx : nxt x with
      | none => rw [hnx] at hit; cases hit
      | some q =>
        rw [hnx] at hit hrd
        simp only [Option.bind_some] at hrd
        cases q with
        | inl y => exact .more hrd (ih y hit)
        | inr w =>
          simp only [Option.some.injEq] at hit
          subst hit
          exact .last hrd (hx w)
  exact ⟨_, _, key n x hn, h4⟩

/-! ### the loops of a function -/

def fnLoops (P : Program) (f : FuncId) : List (Nat × Code) :=
  match (P.funcs[f]?).bind (·.body) with
  | some c => loopsOf c
  | none => []

theorem lp_of {P : Program} {f i id : Nat} {b : Code} (h : (fnLoops P f)[i]? = some (id, b)) : lp P f i = b := by
  unfold fnLoops at h
  unfold lp
  cases hb : (P.funcs[f]?).bind (·.body) with
  | none => rw [hb] at h; simp at h
  | some c => rw [hb] at h; simp only at h; simp only [h, Option.map_some, Option.getD_some]

def LoopsFn (P : Program) (C : Cfg) (O : Oracle) (f : FuncId) (L : Loops) : Prop :=
  ∀ fn c, P.funcs[f]? = some fn → fn.body = some c → LoopsOk C.T (C.hint f) C.mode O L c

theorem LoopsFn.nil {P : Program} {C : Cfg} {O : Oracle} {f : FuncId} : LoopsFn P C O f Loops.none := fun _ _ _ _ => loops_ok0

def lkU {α : Type 1} : List (Nat × α) → Nat → Option α
  | [], _ => Option.none
  | (k, v) :: r, t => if k = t then some v else lkU r t

/-- the contracts of loops, by the numbers of the blocks around them -/
def Loops.of (l : List (Nat × LCon)) : Loops :=
  ⟨fun {_} id st k => match lkU l id with | some c => c.run st k | Option.none => Option.none⟩

theorem LoopsFn.of {P : Program} {C : Cfg} {O : Oracle} {f : FuncId} {l : List (Nat × LCon)} (hids : (fnLoops P f).map (·.1) = l.map (·.1)) (hnd : (l.map (·.1)).Nodup)
    (h : ∀ i id c, l[i]? = some (id, c) → LConOk C.T (C.hint f) C.mode O (Loops.of l) id (lp P f i) c) : LoopsFn P C O f (Loops.of l) := by
  intro fn c hf hb
  refine loops_ok fun id b hm => ?_
  obtain ⟨i, hi⟩ := List.getElem?_of_mem hm
  have hfl : (fnLoops P f)[i]? = some (id, b) := by
    unfold fnLoops
    rw [hf]
    simp only [Option.bind_some, hb]
    exact hi
  have hid : (l.map (·.1))[i]? = some id := by rw [← hids, List.getElem?_map, hfl]; rfl
  rw [List.getElem?_map] at hid
  cases hl : l[i]? with
  | none => rw [hl] at hid; cases hid
  | some p =>
    obtain ⟨id', c'⟩ := p
    rw [hl] at hid
    simp only [Option.map_some, Option.some.injEq] at hid
    subst hid
    have := h i id' c' hl
    rw [lp_of hfl] at this
    have hlk : ∀ (l : List (Nat × LCon)) (i : Nat), (l.map (·.1)).Nodup → l[i]? = some (id', c') → lkU l id' = some c' := by
      intro l
      induction l with
      | nil => intro i _ h; simp at h
      | cons q r ih =>
        intro i hn hq
        simp only [List.map_cons, List.nodup_cons] at hn
        cases i with
        | zero =>
          simp only [List.getElem?_cons_zero, Option.some.injEq] at hq
          subst hq
          simp [lkU]
        | succ i =>
          simp only [List.getElem?_cons_succ] at hq
          have hm : id' ∈ r.map (·.1) := List.mem_map.mpr ⟨_, List.mem_of_getElem? hq, rfl⟩
          have hne : q.1 ≠ id' := fun e => hn.1 (e ▸ hm)
          simp only [lkU, hne, if_false]
          exact ih i hn.2 hq
    intro γ st k r hr
    simp only [Loops.of, hlk l i hnd hl] at hr
    exact this γ st k r hr

def LAll (P : Program) (C : Cfg) (O : Oracle) (f : FuncId) (L : Loops) : Nat → List (Nat × LCon) → Prop
  | _, [] => True
  | i, (id, c) :: r => LConOk C.T (C.hint f) C.mode O L id (lp P f i) c ∧ LAll P C O f L (i + 1) r

theorem LAll.get {P : Program} {C : Cfg} {O : Oracle} {f : FuncId} {L : Loops} : ∀ {l : List (Nat × LCon)} {n : Nat}, LAll P C O f L n l → ∀ i id c, l[i]? = some (id, c) → LConOk C.T (C.hint f) C.mode O L id (lp P f (n + i)) c
  | [], _, _, i, id, c, h => by simp at h
  | (id', c') :: r, n, hl, 0, id, c, h => by
    simp only [List.getElem?_cons_zero, Option.some.injEq, Prod.mk.injEq] at h
    obtain ⟨rfl, rfl⟩ := h
    exact hl.1
  | (id', c') :: r, n, hl, i + 1, id, c, h => by
    simp only [List.getElem?_cons_succ] at h
    have := LAll.get hl.2 i id c h
    rwa [show n + 1 + i = n + (i + 1) from by omega] at this

theorem LoopsFn.all {P : Program} {C : Cfg} {O : Oracle} {f : FuncId} {l : List (Nat × LCon)} (hids : (fnLoops P f).map (·.1) = l.map (·.1)) (hnd : (l.map (·.1)).Nodup) (h : LAll P C O f (Loops.of l) 0 l) : LoopsFn P C O f (Loops.of l) :=
  LoopsFn.of hids hnd fun i id c hi => by have := h.get i id c hi; rwa [Nat.zero_add] at this

def modeOf : List (Nat × Mode) → FuncId → Mode
  | [], _ => .borrow
  | (k, m) :: r, g => if k = g then m else modeOf r g

/-! ### oracles out of a list of contracts, functions out of their walks -/

def Oracle.of (l : List (Nat × Con)) : Oracle :=
  ⟨fun {_} g args s k => match lkU l g with | some c => c.run args s k | Option.none => Option.none⟩

theorem Oracle.of_ok {P : Program} {l : List (Nat × Con)} (h : ∀ p ∈ l, ConOk P p.1 p.2) : OracleOk P (Oracle.of l) := by
  intro g args s
  have key : ∀ (l : List (Nat × Con)) (c : Con), lkU l g = some c → (g, c) ∈ l := by
    intro l
    induction l with
    | nil => intro c h; cases h
    | cons p r ih =>
      intro c h
      simp only [lkU] at h
      split at h
      · rename_i e
        simp only [Option.some.injEq] at h
        subst e; subst h
        exact List.mem_cons_self
      · exact List.mem_cons_of_mem _ (ih c h)
  cases hl : lkU l g with
  | none => exact .inl fun _ _ => by simp only [Oracle.of, hl]
  | some c =>
    rcases h _ (key l c hl) args s with h | ⟨v, s', h1, h2⟩
    · exact .inl fun _ _ => by simp only [Oracle.of, hl]; exact h _ _
    · exact .inr ⟨v, s', h1, fun _ _ => by simp only [Oracle.of, hl]; exact h2 _ _⟩

theorem Oracle.nil_ok {P : Program} : ∀ p ∈ ([] : List (Nat × Con)), ConOk P p.1 p.2 := fun p h => by cases h
theorem Oracle.cons_ok {P : Program} {f : Nat} {c : Con} {l : List (Nat × Con)} (hc : ConOk P f c) (hl : ∀ p ∈ l, ConOk P p.1 p.2) : ∀ p ∈ (f, c) :: l, ConOk P p.1 p.2 := fun p h => by
  rcases List.mem_cons.mp h with rfl | h
  · exact hc
  · exact hl p h

section
variable {P : Program} {C : Cfg} {f : Nat} {sh : List S2} {bs : List SB} {ρ : Type} {F : FAr sh bs → Option ρ} {out : ρ → AV × Store}

theorem sem_of {O : Oracle} {L : Loops} (hP : P.follows .mixedOrders = true) (hok : progOk P = true) (hT : TabOk P C.T) (hO : OracleOk P O) (hL : LoopsFn P C O f L)
    (hw : ∀ x, evBodyK P C O L f (encAr sh bs x).1 (encAr sh bs x).2 (fun v s => some (v, s)) = (F x).bind fun r => some (out r)) :
    ∀ x y, F x = some y → SemCall P f (encAr sh bs x).1 (encAr sh bs x).2 (out y).1 (out y).2 := by
  intro x y h
  refine body_soundK hP hok hT hO hL ?_
  rw [hw, h]
  rfl

theorem con_of {O : Oracle} {L : Loops} (hP : P.follows .mixedOrders = true) (hok : progOk P = true) (hT : TabOk P C.T) (hO : OracleOk P O) (hL : LoopsFn P C O f L)
    (hw : ∀ x, evBodyK P C O L f (encAr sh bs x).1 (encAr sh bs x).2 (fun v s => some (v, s)) = (F x).bind fun r => some (out r)) : ConOk P f (Con.shape sh bs F out) :=
  Con.shape_ok (sem_of hP hok hT hO hL hw)

theorem con_of2 {O : Oracle} {L : Loops} {c : Con} (hP : P.follows .mixedOrders = true) (hok : progOk P = true) (hT : TabOk P C.T) (hO : OracleOk P O) (hL : LoopsFn P C O f L)
    (hw : ∀ x, evBodyK P C O L f (encAr sh bs x).1 (encAr sh bs x).2 (fun v s => some (v, s)) = (F x).bind fun r => some (out r)) (hc : ConOk P f c) : ConOk P f (Con.shape2 sh bs F out c) :=
  Con.shape2_ok (sem_of hP hok hT hO hL hw) hc

/-- what comes out: one value, or several -/
def out1 (a : S2) (bs : List SB) (x : a.F (FB bs)) : AV × Store := ((enc2 a x).1, encS bs (enc2 a x).2)
def outT (sh : List S2) (bs : List SB) (x : FAr sh bs) : AV × Store := (.tup (encA sh x).1, encS bs (encA sh x).2)

theorem LoopsFn.nil' {O : Oracle} (h : fnLoops P f = []) : LoopsFn P C O f (Loops.of []) := by
  refine LoopsFn.of (l := []) (by rw [h]; rfl) (by simp) fun i id c h => by simp at h
end

/-! ### a tree's leaves -/

section
variable {γ δ : Type} (g : γ → Option δ)

theorem B0 (c : Bool) (a b : Option γ) : (bif c then a else b).bind g = bif c then a.bind g else b.bind g := by cases c <;> rfl
theorem B1 (c : Prop) [Decidable c] (K : Option γ) : (chk c K).bind g = chk c (K.bind g) := by unfold chk; split <;> rfl
theorem B2 (n : Int) (K : Nat → Option γ) : (nnK n K).bind g = nnK n fun i => (K i).bind g := by unfold nnK; split <;> rfl
theorem B3 {α : Type} (xs : List α) (i : Nat) (K : α → Option γ) : (getK xs i K).bind g = getK xs i fun x => (K x).bind g := by unfold getK; split <;> rfl
theorem B4 (xs : ByteArray) (i : Nat) (K : UInt8 → Option γ) : (getBK xs i K).bind g = getBK xs i fun x => (K x).bind g := by unfold getBK; split <;> rfl
theorem B5 {α β : Type} (z : α ⊕ β) (f : α → Option γ) (h : β → Option γ) : (endK z f h).bind g = endK z (fun a => (f a).bind g) (fun b => (h b).bind g) := by unfold endK; split <;> rfl
theorem B6 {α : Type} (o : Option α) (K : α → Option γ) : (o.bind K).bind g = o.bind fun x => (K x).bind g := by cases o <;> rfl
theorem B7 (x : γ) : (some x).bind g = g x := rfl
theorem B8 : (none : Option γ).bind g = none := rfl
end

end Go.Ev

/-
  FROM A ROW's INPUT: what reads as data is represented by plain data.
-/
namespace Go.Ev

/-- what the reading of an input promises: numbers fit their kinds, nothing is longer than can be -/
def WfD : (t : Ty) → t.D → Prop
  | .bool, _ => True
  | .int k, n => k.min ≤ (n : Int) ∧ (n : Int) ≤ k.max
  | .str, s => (s : ByteArray).size ≤ maxLen
  | .nil, _ => True
  | .cons h t, v => WfD h v.1 ∧ WfD t v.2
  | .sl t, xs => (xs : List t.D).length ≤ maxLen ∧ ∀ x ∈ (xs : List t.D), WfD t x

theorem mapM_some {α β : Type} {f : α → Option β} : ∀ {l : List α} {ys : List β}, l.mapM f = some ys → ys.length = l.length ∧ ∀ (i : Nat) (x : α), l[i]? = some x → ∃ y, ys[i]? = some y ∧ f x = some y
  | [], ys, h => by
    simp only [List.mapM_nil, Option.pure_def, Option.some.injEq] at h
    subst h
    exact ⟨rfl, fun i x hx => by simp at hx⟩
  | a :: l, ys, h => by
    rw [List.mapM_cons] at h
    simp only [Option.bind_eq_bind, Option.pure_def] at h
    obtain ⟨y, h1, h2⟩ := Option.bind_eq_some_iff.mp h
    obtain ⟨zs, h3, h4⟩ := Option.bind_eq_some_iff.mp h2
    simp only [Option.some.injEq] at h4
    subst h4
    obtain ⟨k1, k2⟩ := mapM_some h3
    refine ⟨by simp [k1], fun i x hx => ?_⟩
    cases i with
    | zero => simp only [List.getElem?_cons_zero, Option.some.injEq] at hx; subst hx; exact ⟨y, by simp, h1⟩
    | succ i => simp only [List.getElem?_cons_succ] at hx ⊢; exact k2 i x hx

theorem mapM_range_some {β : Type} {f : Nat → Option β} {n : Nat} {ys : List β} (h : (List.range n).mapM f = some ys) : ys.length = n ∧ ∀ i, i < n → ∃ y, ys[i]? = some y ∧ f i = some y := by
  obtain ⟨h1, h2⟩ := mapM_some h
  exact ⟨by simpa using h1, fun i hi => h2 i i (by simp [hi])⟩

/-- cells that can be read, one after another -/
theorem cells_some {w : World} {a : Addr} {n : Nat} {cs : List Value} (h : w.cells? 0 a n = some cs) (hn : 0 < n) :
    ∃ (c : Array Value) (ty : TypeId) (fr : Nat × Nat), w.heap[a.block]? = some (.cells c ty fr) ∧ a.spot = none ∧ a.off + n ≤ c.size ∧ cs = seg c a.off n := by
  unfold World.cells? at h
  rw [if_pos (Nat.zero_le _)] at h
  obtain ⟨hl, hg⟩ := mapM_range_some h
  have rd : ∀ i, i < n → ∃ c ty fr, w.heap[a.block]? = some (.cells c ty fr) ∧ (a.add i).spot = none ∧ c[a.off + i]? = cs[i]? ∧ a.off + i < c.size := by
    intro i hi
    obtain ⟨y, h1, h2⟩ := hg i hi
    unfold World.cell? at h2
    have hb : (a.add i).block = a.block := by unfold Addr.add; split <;> rfl
    have ho : (a.add i).off = a.off + i := by unfold Addr.add; split <;> simp_all
    rw [hb] at h2
    split at h2
    · rename_i c ty fr hh
      split at h2
      · cases h2
      · rename_i hs
        rw [ho] at h2
        refine ⟨c, ty, fr, hh, by simpa using hs, by rw [h2, h1], ?_⟩
        exact (Array.getElem?_eq_some_iff.mp h2).1
    · cases h2
  obtain ⟨c, ty, fr, h1, h2, h3, h4⟩ := rd 0 hn
  have hsz : a.off + n ≤ c.size := by
    obtain ⟨c', ty', fr', k1, _, _, k4⟩ := rd (n - 1) (by omega)
    rw [h1] at k1
    obtain ⟨rfl, rfl, rfl⟩ : c = c' ∧ ty = ty' ∧ fr = fr' := by simpa using k1
    omega
  refine ⟨c, ty, fr, h1, by simpa [Addr.add] using h2, hsz, ?_⟩
  apply List.ext_getElem?
  intro i
  by_cases hi : i < n
  · obtain ⟨c', ty', fr', k1, _, k3, _⟩ := rd i hi
    rw [h1] at k1
    obtain ⟨rfl, rfl, rfl⟩ : c = c' ∧ ty = ty' ∧ fr = fr' := by simpa using k1
    rw [seg_get hi, k3]
  · rw [List.getElem?_eq_none (by omega), List.getElem?_eq_none (by rw [seg_length hsz]; omega)]

theorem choose_list {α : Type} {p : Nat → α → Prop} : ∀ {n : Nat}, (∀ i, i < n → ∃ x, p i x) → ∃ xs : List α, xs.length = n ∧ ∀ i (h : i < xs.length), p i xs[i]
  | 0, _ => ⟨[], rfl, fun i h => by simp at h⟩
  | n + 1, h => by
    obtain ⟨xs, h1, h2⟩ := choose_list (n := n) (fun i hi => h i (by omega))
    obtain ⟨x, hx⟩ := h n (by omega)
    refine ⟨xs ++ [x], by simp [h1], fun i hi => ?_⟩
    simp only [List.length_append, List.length_singleton] at hi
    by_cases hlt : i < xs.length
    · rw [List.getElem_append_left hlt]; exact h2 i hlt
    · have : i = n := by omega
      subst this
      rw [List.getElem_append_right (by omega)]
      simpa using hx

theorem TyOk.cellsOf {P : Program} {a : Ty} {t : TypeId} (h : TyOk P a t) : P.cellsOf t = a.size := by
  obtain ⟨i, z, h1, h2, _⟩ := h.info
  simp [Program.cellsOf, h1, h2]

section
variable {P : Program} {H : Type} {enc : TypeId × Value → H} {w : World} {sp : Nat → Bool} {held : Bool}

theorem trod_rep : ∀ (τ : Ty),
    (∀ (t : TypeId) (fuel : Nat) (cs : List Value) (d : DataW H) (ps : List MemPlace), (tyF P τ).1 t = true → DataW.trod enc P w 0 sp held fuel t cs = some (d, ps) → ∃ v : τ.D, RepC w (fun b => b < w.heap.size) τ v cs ∧ WfD τ v) ∧
    (∀ (fs : List Field) (off fuel : Nat) (cs : List Value) (xs : List (DataW H × List MemPlace)), (tyF P τ).2 fs off = true → (fs.mapM fun f => DataW.trod enc P w 0 sp held fuel f.type ((cs.drop f.offset).take (P.cellsOf f.type))) = some xs → off + τ.size = cs.length →
      ∃ v : τ.D, RepC w (fun b => b < w.heap.size) τ v (cs.drop off) ∧ WfD τ v)
  | .bool => ⟨fun t fuel cs d ps ht h => by
      cases fuel with
      | zero => simp [DataW.trod] at h
      | succ fuel =>
        have hu := TyOk.bool (P := P) (t := t) ht
        unfold DataW.trod at h
        rw [hu] at h
        rcases cs with _ | ⟨x, _ | ⟨y, r⟩⟩
        · simp at h
        · cases x <;> simp at h
          exact ⟨_, rfl, trivial⟩
        · simp at h, fun fs off fuel cs xs hf => by simp [tyF] at hf⟩
  | .int k => ⟨fun t fuel cs d ps ht h => by
      cases fuel with
      | zero => simp [DataW.trod] at h
      | succ fuel =>
        have hu := TyOk.int (P := P) (t := t) ht
        unfold DataW.trod at h
        rw [hu] at h
        rcases cs with _ | ⟨x, _ | ⟨y, r⟩⟩
        · simp at h
        · cases x <;> simp at h
          obtain ⟨⟨rfl, hw⟩, _⟩ := h
          simp [Lit.wf] at hw
          exact ⟨_, rfl, hw⟩
        · simp at h, fun fs off fuel cs xs hf => by simp [tyF] at hf⟩
  | .str => ⟨fun t fuel cs d ps ht h => by
      cases fuel with
      | zero => simp [DataW.trod] at h
      | succ fuel =>
        have hu := TyOk.str (P := P) (t := t) ht
        unfold DataW.trod at h
        rw [hu] at h
        rcases cs with _ | ⟨x, _ | ⟨y, r⟩⟩
        · simp at h
        · cases x <;> simp at h
          exact ⟨_, rfl, h.1⟩
        · simp at h, fun fs off fuel cs xs hf => by simp [tyF] at hf⟩
  | .nil => ⟨fun t fuel cs d ps ht h => by simp [tyF] at ht, fun fs off fuel cs xs hf h hl => ⟨(), by
      show cs.drop off = []
      simp only [Ty.size] at hl
      exact List.drop_of_length_le (by omega), trivial⟩⟩
  | .sl a => ⟨fun t fuel cs d ps ht h => by
      cases fuel with
      | zero => simp [DataW.trod] at h
      | succ fuel =>
        obtain ⟨e, hu, he, ha⟩ := TyOk.sl (P := P) (t := t) ht
        unfold DataW.trod at h
        rw [hu] at h
        rcases cs with _ | ⟨x, _ | ⟨y, r⟩⟩
        · simp at h
        · cases x <;> try (simp at h; done)
          rename_i base len cap
          cases base with
          | none =>
            have : len = 0 ∧ cap = 0 := by
              rcases len with _ | len <;> rcases cap with _ | cap <;> simp at h ⊢
            obtain ⟨rfl, rfl⟩ := this
            exact ⟨[], ⟨none, 0, rfl, by simp, fun h => absurd rfl h⟩, by simp [WfD, maxLen], fun x hx => by simp at hx⟩
          | some ad =>
            simp only [Nat.zero_le, true_and] at h
            split at h
            · rename_i hc
              obtain ⟨elems, h1, h2⟩ := Option.bind_eq_some_iff.mp h
              obtain ⟨hl, hg⟩ := mapM_range_some h1
              have hsz := TyOk.cellsOf he
              have el : ∀ i, i < len → ∃ x : a.D, (∃ (c : Array Value) (ty : TypeId) (fr : Nat × Nat), w.heap[ad.block]? = some (.cells c ty fr) ∧ (ad.add (i * a.size)).spot = none ∧ ad.off + i * a.size + a.size ≤ c.size ∧ RepC w (fun b => b < w.heap.size) a x (seg c (ad.off + i * a.size) a.size)) ∧ WfD a x := by
                intro i hi
                obtain ⟨y, k1, k2⟩ := hg i hi
                obtain ⟨ci, k3, k4⟩ := Option.bind_eq_some_iff.mp k2
                rw [hsz] at k3
                obtain ⟨c, ty, fr, m1, m2, m3, m4⟩ := cells_some k3 ha
                have hb : (ad.add (i * a.size)).block = ad.block := by unfold Addr.add; split <;> rfl
                have ho : (ad.add (i * a.size)).off = ad.off + i * a.size := by unfold Addr.add; split <;> simp_all
                rw [hb] at m1
                rw [ho] at m3 m4
                subst m4
                obtain ⟨x, q1, q2⟩ := (trod_rep a).1 e fuel _ y.1 y.2 he k4
                exact ⟨x, ⟨c, ty, fr, m1, m2, m3, q1⟩, q2⟩
              obtain ⟨xs, l1, l2⟩ := choose_list el
              refine ⟨xs, ⟨some ad, cap, by rw [l1], by rw [l1]; exact hc.1, fun hne => ?_⟩, by rw [l1]; exact Nat.le_trans hc.1 hc.2, fun x hx => ?_⟩
              · have hpos : 0 < xs.length := List.length_pos_iff.mpr hne
                obtain ⟨⟨c, ty, fr, m1, m2, m3, m4⟩, _⟩ := l2 0 hpos
                refine ⟨ad.block, ad.off, c, ty, fr, by cases ad; simp_all [Addr.add], (Array.getElem?_eq_some_iff.mp m1).1, m1, ?_, fun i hi => ?_⟩
                · obtain ⟨⟨c', ty', fr', k1, _, k3, _⟩, _⟩ := l2 (xs.length - 1) (by omega)
                  rw [m1] at k1
                  obtain ⟨rfl, rfl, rfl⟩ : c = c' ∧ ty = ty' ∧ fr = fr' := by simpa using k1
                  have : (xs.length - 1) * a.size + a.size = xs.length * a.size := by
                    rw [← Nat.succ_mul]; congr 1; omega
                  omega
                · obtain ⟨⟨c', ty', fr', k1, _, _, k4⟩, _⟩ := l2 i hi
                  rw [m1] at k1
                  obtain ⟨rfl, rfl, rfl⟩ : c = c' ∧ ty = ty' ∧ fr = fr' := by simpa using k1
                  exact k4
              · obtain ⟨i, hi, rfl⟩ := List.getElem_of_mem hx
                exact (l2 i hi).2
            · cases h
        · simp at h, fun fs off fuel cs xs hf => by simp [tyF] at hf⟩
  | .cons h r => by
    have flds : ∀ (fs : List Field) (off fuel : Nat) (cs : List Value) (xs : List (DataW H × List MemPlace)), (tyF P (.cons h r)).2 fs off = true → (fs.mapM fun f => DataW.trod enc P w 0 sp held fuel f.type ((cs.drop f.offset).take (P.cellsOf f.type))) = some xs → off + (Ty.cons h r).size = cs.length →
        ∃ v : (Ty.cons h r).D, RepC w (fun b => b < w.heap.size) (.cons h r) v (cs.drop off) ∧ WfD (.cons h r) v := by
      intro fs off fuel cs xs hf hm hl
      cases fs with
      | nil => simp [tyF] at hf
      | cons f rest =>
        simp only [tyF, Bool.and_eq_true, decide_eq_true_eq] at hf
        obtain ⟨⟨⟨ho, _⟩, hft⟩, hrest⟩ := hf
        rw [List.mapM_cons] at hm
        simp only [Option.bind_eq_bind, Option.pure_def] at hm
        obtain ⟨y, h1, h2⟩ := Option.bind_eq_some_iff.mp hm
        obtain ⟨zs, h3, h4⟩ := Option.bind_eq_some_iff.mp h2
        rw [TyOk.cellsOf (P := P) (a := h) (t := f.type) hft, ho] at h1
        obtain ⟨v1, q1, q2⟩ := (trod_rep h).1 f.type fuel _ y.1 y.2 hft h1
        simp only [Ty.size] at hl
        obtain ⟨v2, q3, q4⟩ := (trod_rep r).2 rest (off + h.size) fuel cs zs hrest h3 (by omega)
        refine ⟨(v1, v2), ⟨q1, ?_⟩, q2, q4⟩
        rw [List.drop_drop]
        exact q3
    refine ⟨fun t fuel cs d ps ht hh => ?_, flds⟩
    cases fuel with
    | zero => simp [DataW.trod] at hh
    | succ fuel =>
      have hsz := TyOk.cellsOf (P := P) (a := .cons h r) (t := t) ht
      have ht' := ht
      simp only [tyF, Bool.and_eq_true] at ht'
      obtain ⟨_, ht2⟩ := ht'
      split at ht2
      · rename_i fs hu
        simp only [Bool.and_eq_true] at ht2
        unfold DataW.trod at hh
        rw [hu] at hh
        simp only [hsz] at hh
        split at hh
        · rename_i hlen
          obtain ⟨xs, h1, h2⟩ := Option.map_eq_some_iff.mp hh
          have := flds fs.toList 0 fuel cs xs ht2.1.1 h1 (by omega)
          simpa using this
        · cases hh
      · cases ht2

end
end Go.Ev

/-
  THE ARGUMENTS OF A ROW, all at once; what a call of the law gives for its row.
-/
namespace Go.Ev
open Go.ChangeShapes Go.WideShapes Go.ChangeAt Go.RowKit

def argsOk (P : Program) : Ty → List TypeId → Bool
  | .nil, [] => true
  | .cons h t, i :: is => (tyF P h).1 i && argsOk P t is
  | _, _ => false

section
variable {P : Program} {H : Type} {enc : TypeId × Value → H} {w : World} {sp : Nat → Bool} {held : Bool} {base : Nat}

theorem value_rep {τ : Ty} {t : TypeId} {v : Value} {d : DataW H} {ps : List MemPlace} (hτ : TyOk P τ t) (hval : Value.okWide P w .any base t v) (h : DataW.Trod enc P w 0 sp held t v d ps) :
    ∃ x : τ.D, Rep3 ⟨w, fun b => b < w.heap.size, [], []⟩ (.d τ x) v ∧ WfD τ x := by
  obtain ⟨fuel, h⟩ := h
  obtain ⟨x, h1, h2⟩ := (trod_rep τ).1 t fuel _ d ps hτ h
  refine ⟨x, ⟨v.cells.toList, ?_, h1⟩, h2⟩
  have leaf : (∀ cs, v ≠ .agg cs) → v.cells.toList = [v] := fun hv => by
    cases v <;> first
      | rfl
      | exact absurd rfl (hv _)
  unfold Value.okWide at hval
  cases τ with
  | cons h r =>
    obtain ⟨fs, hu, _⟩ := part_struct hτ
    rw [hu] at hval
    obtain ⟨cs, rfl, _⟩ := hval
    simp [Ty.isAgg, Value.cells]
  | nil => simp [TyOk, tyF] at hτ
  | bool =>
    rw [hτ.bool] at hval
    simp only [Ty.isAgg, Bool.false_eq_true, if_false]
    exact leaf fun cs e => by subst e; simp [Cell.okWide, Cell.ok, hτ.bool] at hval
  | int k =>
    rw [hτ.int] at hval
    simp only [Ty.isAgg, Bool.false_eq_true, if_false]
    exact leaf fun cs e => by subst e; simp [Cell.okWide, Cell.ok, hτ.int] at hval
  | str =>
    rw [hτ.str] at hval
    simp only [Ty.isAgg, Bool.false_eq_true, if_false]
    exact leaf fun cs e => by subst e; simp [Cell.okWide, Cell.ok, hτ.str] at hval
  | sl a =>
    obtain ⟨e', hu, _⟩ := hτ.sl
    rw [hu] at hval
    simp only [Ty.isAgg, Bool.false_eq_true, if_false]
    exact leaf fun cs e => by subst e; simp [Cell.okWide, Cell.ok, hu] at hval

theorem args_rep : ∀ {A : Ty} {ts : List TypeId} {vs : List Value} {ds : List (DataW H)} {ps : List MemPlace}, argsOk P A ts = true →
    (∀ (j : Nat) t v, ts[j]? = some t → vs[j]? = some v → Value.okWide P w .any base t v) → DataW.TrodAll enc P w 0 sp held ts vs ds ps →
    ∃ x : A.D, All2 (Rep3 ⟨w, fun b => b < w.heap.size, [], []⟩) (unpackA A x) vs ∧ WfD A x
  | .nil, [], vs, ds, ps, _, _, h => by
    cases vs with
    | nil => exact ⟨(), trivial, trivial⟩
    | cons _ _ => cases ds <;> exact h.elim
  | .cons a r, t :: ts, vs, ds, ps, ho, hval, h => by
    simp only [argsOk, Bool.and_eq_true] at ho
    match vs, ds, h with
    | v :: vs, d :: ds, h =>
      obtain ⟨p, q, h1, h2, _⟩ := h
      obtain ⟨x, k1, k2⟩ := value_rep ho.1 (hval 0 t v rfl rfl) h1
      obtain ⟨y, k3, k4⟩ := args_rep ho.2 (fun j t v h1 h2 => hval (j + 1) t v h1 h2) h2
      exact ⟨(x, y), ⟨k1, k3⟩, k2, k4⟩
    | [], _, h => exact h.elim
    | _ :: _, [], h => exact h.elim

end
end Go.Ev

/-
  WHAT A CALL OF THE LAW GIVES FOR ITS ROW.
-/
namespace Go.Ev
open Go.ChangeShapes Go.WideShapes Go.ChangeAt Go.RowKit

section
variable {P : Program} {H : Type} {enc : TypeId × Value → H}

theorem trodAll_length {w : World} {sp : Nat → Bool} {held : Bool} {base : Nat} : ∀ {ts : List TypeId} {vs : List Value} {ds : List (DataW H)} {ps : List MemPlace}, DataW.TrodAll enc P w base sp held ts vs ds ps → ds.length = ts.length
  | [], [], [], _, _ => rfl
  | _ :: _, _ :: _, _ :: _, _, h => by
    obtain ⟨p, q, _, h2, _⟩ := h
    simp [trodAll_length h2]
  | [], _ :: _, _, _, h => h.elim
  | [], [], _ :: _, _, h => h.elim
  | _ :: _, [], _, _, h => h.elim
  | _ :: _, _ :: _, [], _, h => h.elim

/-- the arguments read as they did -/
theorem trodAll_below (hl : laidOutB P = true) {W W' : World} (hb : Below W.heap.size W W') (sp : Nat → Bool) : ∀ {ts : List TypeId} {vs : List Value} {ds : List (DataW H)} {ps : List MemPlace}, ts.all (fun t => P.readableRec t && decide (t < P.types.size)) = true →
    DataW.TrodAll enc P W 0 (fun _ => true) true ts vs ds ps → (∀ x ∈ ps, x.block < W.heap.size ∧ sp x.block = true) → DataW.TrodAll enc P W' 0 sp true ts vs ds ps
  | [], [], [], _, _, h, _ => h
  | t :: ts, v :: vs, d :: ds, ps, hr, h, hlt => by
    simp only [List.all_cons, Bool.and_eq_true, decide_eq_true_eq] at hr
    obtain ⟨p, q, h1, h2, rfl⟩ := h
    exact ⟨p, q, WideElems.Trod_stays hl hr.1.1 hr.1.2 h1 (fun x hx => hb.same (hlt x (by simp [hx])).1) (fun x hx => (hlt x (by simp [hx])).2), trodAll_below hl hb sp hr.2 h2 (fun x hx => hlt x (by simp [hx])), rfl⟩
  | [], _ :: _, _, _, _, h, _ => h.elim
  | [], [], _ :: _, _, _, h, _ => h.elim
  | _ :: _, [], _, _, _, h, _ => h.elim
  | _ :: _, _ :: _, [], _, _, h, _ => h.elim

theorem row_contract {f : FuncId} {fn : Func} {A : Ty} {tb : TypeId} {s : ChangeSpec} (hres : fn.resultTypes = #[tb]) (hty : P.types.size ≥ 0) (htb : P.underlying tb = some .bool) (hA : argsOk P A fn.params.toList = true) (hl : laidOutB P = true)
    (hread : fn.params.toList.all (fun t => P.readableRec t && decide (t < P.types.size)) = true) (hvars : s.vars = [])
    (hs : ∀ ds : List (DataW H), ds.length = fn.params.toList.length → s.fn H ds = { results := [.lit (.bool true)], args := ds })
    (hcall : ∀ x : A.D, WfD A x → SemCall P f (unpackA A x) [] (.d .bool true) []) (hkn : Known P f)
    (W : World) (base : Nat) (args : Array Value) (ds gs : List (DataW H)) (before : List MemPlace)
    (hval : ∀ (j : Nat) t v, fn.params[j]? = some t → args[j]? = some v → Value.okWide P W .any base t v)
    (hW : DataW.Whole enc P fn.params.toList s.vars false W args.toList ds gs before) :
    Calls P f args W fun e W' => ∃ v, e = .returned v ∧ s.post enc P fn false true false false W args v W' := by
  have hW' := hW
  obtain ⟨p, q, hA0, hV, rfl, hfz, hnd⟩ := hW
  rw [hvars] at hV
  obtain ⟨rfl, rfl⟩ := trodVars_none hV
  obtain ⟨x, hx, hwf⟩ := args_rep hA (fun j t v h1 h2 => hval j t v (by simpa using h1) (by simpa using h2)) hA0
  have hinv : Inv (⟨W, fun b => b < W.heap.size, [], []⟩ : Cx) := inv_nil (c := ⟨W, fun b => b < W.heap.size, [], []⟩) _ fun b hb => hb
  rcases hcall x hwf ⟨W, fun b => b < W.heap.size, [], []⟩ args rfl hinv hx with ⟨_, hc⟩ | ⟨y, w', hr, _⟩
  case inr => rw [run_callFunc hkn] at hr; cases hr
  refine Calls.mono hc ?_
  rintro e W' ⟨y, c', rfl, rfl, h1, h2, he, hy⟩
  have hb : Below W.heap.size W c'.w := ⟨he.os, he.tape, he.output, he.size, fun k hk => he.out k hk not_owns_nil⟩
  have hy := hy.bool
  subst hy
  have hlen := trodAll_length hA0
  simp only [List.append_nil] at hW'
  have hfn : s.fn H (ds ++ []) = { results := [.lit (.bool true)], args := ds } := by rw [List.append_nil]; exact hs ds hlen
  refine ⟨_, rfl, ds, [], p, [], p, [], by simpa using hW', ?_, ?_, ?_, hb.frame _, fun h => by cases h⟩
  · rw [hfn, hres]
    exact trodAll_cons_mk (shut_bool htb _) trodAll_mk0
  · rw [hfn]
    refine trodAll_below hl hb _ hread hA0 fun z hz => ?_
    have := hW'.lt z (by simpa using hz)
    exact ⟨this, by simpa using this⟩
  · rw [hfn, hvars]
    rfl

end
end Go.Ev

/-
  A function of no argument that leaves what was there as it was: its contract in the evaluator's words.
-/
namespace Go.Ev
open Go.RowKit

theorem sem_of_below {P : Program} {f : FuncId} {b : Bool} (hk : Known P f) (h : ∀ w : World, Calls P f #[] w fun e w' => e = .returned (.bool b) ∧ Below w.heap.size w w') : SemCall P f [] [] (.d .bool b) [] := by
  refine fun c xs hs hi hr => .inl ⟨hk, ?_⟩
  have hx : xs = #[] := by
    have := hr.length
    rcases xs with ⟨l⟩
    match l, this with
    | [], _ => rfl
  subst hx
  have hr0 : c.r = [] := List.eq_nil_of_length_eq_zero (by rw [hi.len, hs]; rfl)
  have hno : ∀ k, ¬ (∃ id : Nat, c.r[id]? = some (some k)) := fun k ⟨id, q⟩ => by rw [hr0] at q; simp at q
  refine Calls.mono (h c.w) ?_
  rintro e w' ⟨rfl, hb⟩
  refine ⟨_, ⟨w', c.N, c.r, c.s⟩, rfl, rfl, hs, ⟨hi.len, hi.inj, fun k hk => absurd hk (hno k), fun k hk => Nat.lt_of_lt_of_le (hi.old k hk) hb.size, fun id bk hid => by rw [show (⟨w', c.N, c.r, c.s⟩ : Cx).s = [] from hs] at hid; simp at hid⟩, ?_, rep_bool _ b⟩
  refine ⟨hb.os, hb.tape, hb.output, fun a ha => ?_, hb.size, fun k hk _ => hb.block k hk, fun k cs ty hc => ⟨cs, ?_, rfl⟩, fun _ q => q, fun _ q => .inl q, fun _ q => .inl q, fun id bk hid => ⟨bk, hid, fun hl => ⟨hl, rfl, rfl, rfl⟩⟩⟩
  · unfold World.frozen?
    rw [hb.block _ ha]
  · have hlt : k < c.w.heap.size := (Array.getElem?_eq_some_iff.1 hc).1
    show w'.heap[k]? = _
    rw [hb.block k hlt]; exact hc

end Go.Ev

/-
  TWO CONTRACTS BY HAND: slices.overlaps of two blocks of the call's own; a row as a part of itself with the room behind it.
-/
namespace Go.Ev

section
variable {P : Program}

theorem run_overlaps_none (w : World) (tS tR el : TypeId) (ht : P.underlying tS = some (.slice el)) (size : Nat) (hz : ∀ w, (Go.sizeOf el).run P w = .ok size w) (a b : Option Addr) (la ca lb cb : Nat) (h : a = none ∨ b = none ∨ la = 0 ∨ lb = 0) :
    (Extern.SlicesOverlaps.overlaps #[tS, tS] #[tR] #[.slice a la ca, .slice b lb cb]).run P w = .ok (.bool false) w := by
  change Sem.run P (underlying tS >>= _) w = _
  cases a with
  | none => simp [run_underlying ht, hz]
  | some a =>
    cases b with
    | none => simp [run_underlying ht, hz]
    | some b =>
      have h0 : la = 0 ∨ lb = 0 ∨ size = 0 := by
        rcases h with h | h | h | h
        · cases h
        · cases h
        · exact .inl h
        · exact .inr (.inl h)
      simp [run_underlying ht, hz, h0]

theorem run_overlaps_apart2 (w : World) (tS tR el : TypeId) (ht : P.underlying tS = some (.slice el)) (size : Nat) (hz : ∀ w, (Go.sizeOf el).run P w = .ok size w) (a b : Addr) (la ca lb cb : Nat) (hne : a.block ≠ b.block) (tA tB : TypeId) (kA kB : Nat)
    (hsa : w.shape? a.block = some (tA, kA)) (hsb : w.shape? b.block = some (tB, kB)) (hkA : kA ≠ 0) (hfb : w.frozen? b = false) (hfe : w.frozen? { block := b.block, off := kB } = false) :
    (Extern.SlicesOverlaps.overlaps #[tS, tS] #[tR] #[.slice (some a) la ca, .slice (some b) lb cb]).run P w = .ok (.bool false) w := by
  by_cases h0 : la = 0 ∨ lb = 0
  · exact run_overlaps_none w tS tR el ht size hz _ _ _ _ _ _ (.inr (.inr h0))
  obtain ⟨kA, rfl⟩ : ∃ m, kA = m + 1 := ⟨kA - 1, by omega⟩
  change Sem.run P (underlying tS >>= _) w = _
  by_cases hs : size = 0
  · simp [run_underlying ht, hz, hs]
  · have hnb : ¬ a.block = b.block := hne
    cases hfa : w.frozen? a <;> cases hfa2 : w.frozen? { block := a.block, off := kA + 1 } <;>
      simp [run_underlying ht, hz, not_or.1 h0, hs, hnb, frozen, noView, viewAt, mayBeOne, stringish, shape, Sem.run, hsa, hsb, hfb, hfe, hfa, hfa2]

/-- plain data and a block of the call's own -/
def Con.apart : Con :=
  ⟨fun args s k => match args with
    | [.d (.sl a) _, .ref j _ _ _] => (match s[j]? with
      | some (.data t _) => if a.size = 0 ∨ t.size = 0 then none else k (.d .bool false) s
      | _ => none)
    | _ => none⟩

theorem Con.apart_ok {f : FuncId} {fn : Func} {A : Ty} {tS tR : TypeId} (hf : P.funcs[f]? = some fn) (hname : (fn.name == "runtime.NumGoroutine") = false)
    (hb : fn.body.isNone = true) (hn : Extern.findNext fn = none) (he : Extern.find fn = some (Extern.SlicesOverlaps.overlaps #[tS, tS] #[tR])) (hτ : TyOk P (.sl A) tS) : ConOk P f Con.apart := by
  intro args s
  obtain ⟨el, hu, hel, _⟩ := hτ.sl
  have hz : ∀ w, (Go.sizeOf el).run P w = .ok A.size w := fun w => hel.sizeOf w
  by_cases hform : ∃ (ta : Ty) (xs : List ta.D) (j off len : Nat) (tg : Option Nat) (tb : Ty) (ys : List tb.D), args = [.d (.sl ta) xs, .ref j off len tg] ∧ s[j]? = some (.data tb ys) ∧ ¬ (ta.size = 0 ∨ tb.size = 0)
  · obtain ⟨ta, xs, j, off, len, tg, tb, ys, rfl, hj1, hsz⟩ := hform
    refine .inr ⟨.d .bool false, s, ?_, fun γ k => by simp only [Con.apart, hj1, if_neg hsz]⟩
    intro c vs hs hi hr
    subst hs
    obtain ⟨p, q, rfl⟩ : ∃ p q, vs = #[p, q] := by
      have := hr.length
      simp only [List.length_cons, List.length_nil, Array.length_toList] at this
      rcases vs with ⟨l⟩
      match l, this with
      | [p, q], _ => exact ⟨p, q, rfl⟩
    obtain ⟨⟨cs, hp0, hp⟩, ⟨_, bk2, hb2, hq⟩, _⟩ := hr
    rw [if_neg (by simp [Ty.isAgg])] at hp0
    subst hp0
    obtain ⟨base1, cap1, hp1, g1, g2⟩ := hp
    obtain rfl : p = .slice base1 xs.length cap1 := by simpa using hp1
    rw [hj1] at hb2
    obtain rfl := Option.some.inj hb2
    obtain ⟨base2, cap2, rfl, k1, k2, _, _, k5⟩ := hq trivial
    have hrun : (Extern.SlicesOverlaps.overlaps #[tS, tS] #[tR] #[.slice base1 xs.length cap1, .slice base2 len cap2]).run P c.w = .ok (.bool false) c.w := by
      by_cases h0 : xs.length = 0 ∨ len = 0
      · exact run_overlaps_none c.w tS tR el hu A.size hz _ _ _ _ _ _ (h0.elim (fun h => .inr (.inr (.inl h))) fun h => .inr (.inr (.inr h)))
      · have hc1 : xs ≠ [] := fun e => h0 (.inl (by rw [e]; rfl))
        have hc2 : cap2 ≠ 0 := by omega
        obtain ⟨b1, o1, cs1, ty1, fr1, rfl, n1, w1, f1, _⟩ := g2 hc1
        obtain ⟨b2, cs2, a2, rfl, f2⟩ := k5 hc2
        obtain ⟨r2, ty2, w2⟩ := a2
        have hne : b1 ≠ b2 := fun e => by subst e; exact (hi.own b1 ⟨j, r2⟩).2 n1
        refine run_overlaps_apart2 c.w tS tR el hu A.size hz ⟨b1, o1, none⟩ ⟨b2, off * (Blk.data tb ys).sz, none⟩ _ _ _ _ hne ty1 ty2 cs1.size cs2.size (by simp [World.shape?, w1]) (by simp [World.shape?, w2]) ?_ (by simp [World.frozen?, w2]) (by simp [World.frozen?, w2])
        have : 0 < xs.length * ta.size := Nat.mul_pos (Nat.pos_of_ne_zero fun e => h0 (.inl e)) (Nat.pos_of_ne_zero fun e => hsz (.inl e))
        intro e
        rw [e] at f1
        exact absurd (Nat.lt_of_lt_of_le (Nat.lt_of_lt_of_le this (Nat.le_add_left _ _)) f1) (Nat.lt_irrefl _)
    refine .inr ⟨.bool false, c.w, ?_, .bool false, c, rfl, rfl, rfl, hi, Ext.refl c, rep_bool _ _⟩
    rw [run_callFunc_extern hf hname hb hn he, hrun]
    rfl
  · refine .inl fun γ k => ?_
    simp only [Con.apart]
    split
    · rename_i ta xs j off len tg
      split
      · split
        · rfl
        · rename_i tb ys h1 hsz
          exact absurd ⟨ta, xs, j, off, len, tg, tb, ys, rfl, h1, hsz⟩ hform
      · rfl
    · rfl

/-- elements out of the room behind a row -/
theorem Sp.elems {w : World} {N : Nat → Prop} {t : Ty} {n : Nat} {cs : Array Value} (h : Sp w N t n cs) : ∀ m, (n + m) * t.size ≤ cs.size → ∃ js : List t.D, js.length = m ∧ ∀ j (hj : j < js.length), RepC w N t js[j] (seg cs ((n + j) * t.size) t.size)
  | 0, _ => ⟨[], rfl, fun j hj => by simp at hj⟩
  | m + 1, hm => by
    have e : (n + (m + 1)) * t.size = (n + m) * t.size + t.size := by rw [← Nat.add_assoc, Nat.add_mul (n + m) 1, Nat.one_mul]
    obtain ⟨js, h1, h2⟩ := Sp.elems h m (by omega)
    obtain ⟨v, hv⟩ := h (n + m) (by omega) (by omega)
    refine ⟨js ++ [v], by simp [h1], fun j hj => ?_⟩
    rw [List.getElem_append]
    split
    · exact h2 j (by assumption)
    · rename_i hge
      simp only [List.length_append, List.length_singleton] at hj
      have : j = m := by omega
      subst this
      simpa using hv

/-- a row handed in whole is a part of itself and of the room behind it -/
theorem sem_room {f : FuncId} {A B : Ty} {k : IntKind} {i : Int} {xs : List A.D} {ys : List B.D} {v : AV} {s' : Store} (h0 : s'[0]? = some .dead)
    (h : ∀ js : List A.D, SemCall P f [.ref 0 0 xs.length (some (xs ++ js).length), .d (.int k) i, .d (.sl B) ys] [.data A (xs ++ js)] v s') :
    SemCall P f [.all 0, .d (.int k) i, .d (.sl B) ys] [.data A xs] v s' := by
  intro c vs hs hi hr
  obtain ⟨p, q, u, rfl⟩ : ∃ p q u, vs = #[p, q, u] := by
    have := hr.length
    simp only [List.length_cons, List.length_nil, Array.length_toList] at this
    rcases vs with ⟨l⟩
    match l, this with
    | [p, q, u], _ => exact ⟨p, q, u, rfl⟩
  obtain ⟨⟨hp0, bk, hb, hp⟩, hq, hu, _⟩ := hr
  have hs0 : c.s[0]? = some (.data A xs) := by rw [hs]; rfl
  rw [hs0] at hb
  obtain rfl := Option.some.inj hb
  obtain ⟨base, cap, rfl, g1, g2⟩ := hp trivial
  simp only [Blk.len, Blk.sz] at g1 g2
  have hB := hi.blk 0 _ hs0
  -- the room
  have hjs : ∃ js : List A.D, (xs ++ js).length = cap ∧ RepB c 0 (.data A (xs ++ js)) := by
    by_cases hc : cap = 0
    · have hx : xs = [] := List.eq_nil_of_length_eq_zero (by omega)
      subst hx
      exact ⟨[], by simp [hc], by simpa using hB⟩
    · obtain ⟨b, cs, hat, rfl, hfit⟩ := g2 hc
      have hsp := hB.2 b cs hat
      obtain ⟨js, h1, h2⟩ := hsp.elems (cap - xs.length) (by rw [show xs.length + (cap - xs.length) = cap by omega]; exact hfit)
      have hl : (xs ++ js).length = cap := by simp [h1]; omega
      refine ⟨js, hl, .inr ⟨b, cs, hat, by rw [hl]; exact hfit, fun j hj => ?_⟩, fun b' cs' hat' => ?_⟩
      · rw [List.getElem_append]
        split
        · rename_i hlt
          rcases hB.1 with hx | ⟨b2, cs2, m1, m2, m3⟩
          · subst hx; simp at hlt
          · obtain ⟨rfl, rfl⟩ := at_eq hat m1
            exact m3 j hlt
        · rename_i hge
          have := h2 (j - xs.length) (by simp at hj; omega)
          rw [show xs.length + (j - xs.length) = j by omega] at this
          exact this
      · obtain ⟨rfl, rfl⟩ := at_eq hat hat'
        exact hsp.weaken (by simp)
  obtain ⟨js, hl, hB2⟩ := hjs
  -- the same state, the room told
  let c2 : Cx := ⟨c.w, c.N, c.r, [.data A (xs ++ js)]⟩
  have hlen : c.r.length = 1 := by rw [hi.len, hs]; rfl
  have hi2 : Inv c2 := by
    refine ⟨by simp [c2, hlen], hi.inj, hi.own, hi.old, fun id bk hid => ?_⟩
    match id, hid with
    | 0, hid =>
      obtain rfl : _ = bk := by simpa [c2] using hid
      exact hB2
    | _ + 1, hid => simp [c2] at hid
  have hargs : All2 (Rep3 c2) [.ref 0 0 xs.length (some (xs ++ js).length), .d (.int k) i, .d (.sl B) ys] [.slice base xs.length cap, q, u] := by
    refine ⟨⟨hp0, .data A (xs ++ js), rfl, fun _ => ⟨base, cap, rfl, ?_, g1, fun e he => ?_, fun he => (by cases he), fun hc => ?_⟩⟩, hq, hu, trivial⟩
    · simp [Blk.len]
    · rw [hl] at he; exact Option.some.inj he
    · obtain ⟨b, cs, hat, hbase, hfit⟩ := g2 hc
      exact ⟨b, cs, hat, by simpa using hbase, by simpa [Blk.sz] using hfit⟩
  refine CallsE.mono (h js c2 _ rfl hi2 hargs) ?_
  rintro e w' ⟨y, c', rfl, rfl, k1, k2, k3, k4⟩
  refine ⟨y, c', rfl, rfl, k1, k2, ?_, k4⟩
  refine ⟨k3.os, k3.tape, k3.output, k3.fz, k3.size, k3.out, k3.shape, k3.nm, k3.nn, k3.own, fun id bk hid => ?_⟩
  rw [hs] at hid
  match id, hid with
  | 0, hid => exact ⟨.dead, by rw [k1]; exact h0, fun hl => hl.elim⟩
  | _ + 1, hid => simp at hid


end

/-! ### the plain law of slices.Insert -/

section
variable {α : Type}

theorem insert_end (b js vs : List α) (h : b.length + vs.length ≤ (b ++ js).length) : (over (b ++ js) (0 + b.length) vs).take (b.length + vs.length) = b ++ vs := by
  simp only [List.length_append] at h
  apply List.ext_getElem?
  intro k
  simp only [over, List.getElem?_append, List.getElem?_take, List.getElem?_drop, List.length_append, List.length_take, Nat.zero_add]
  have e : min b.length (b.length + js.length) = b.length := by omega
  rw [e]
  repeat' split
  all_goals first
    | rfl
    | omega
    | (rw [List.getElem?_eq_none (by omega)])
    | (rw [List.getElem?_eq_none (by omega), List.getElem?_eq_none (by omega)])

theorem insert_mid (b js vs : List α) {j : Nat} (hj : j ≤ b.length) (h : b.length + vs.length ≤ (b ++ js).length) :
    (over (over (b ++ js) (0 + (j + vs.length)) ((((b ++ js).drop (0 + j)).take (b.length + vs.length - j)).take (b.length + vs.length - (j + vs.length)))) (0 + j) (vs.take (b.length + vs.length - j))).take (b.length + vs.length) = b.take j ++ vs ++ b.drop j := by
  have e1 : vs.take (b.length + vs.length - j) = vs := List.take_of_length_le (by omega)
  have e2 : (((b ++ js).drop (0 + j)).take (b.length + vs.length - j)).take (b.length + vs.length - (j + vs.length)) = b.drop j := by
    apply List.ext_getElem?
    intro k
    simp only [List.getElem?_append, List.getElem?_take, List.getElem?_drop, Nat.zero_add]
    repeat' split
    all_goals first
      | rfl
      | omega
      | (rw [List.getElem?_eq_none (by omega)])
  rw [e1, e2]
  simp only [List.length_append] at h
  apply List.ext_getElem?
  intro k
  simp only [over, List.getElem?_append, List.getElem?_take, List.getElem?_drop, List.length_append, List.length_take, List.length_drop, Nat.zero_add]
  have h1 : min (j + vs.length) (b.length + js.length) = j + vs.length := by omega
  have h2 : min j b.length = j := by omega
  simp only [h1, h2]
  have h3 : min j (j + vs.length + (b.length - j) + (b.length + js.length - (j + vs.length + (b.length - j)))) = j := by omega
  simp only [h3]
  repeat' split
  all_goals first
    | rfl
    | omega
    | (congr 1; omega)
    | (rw [List.getElem?_eq_none (by omega)])
    | (rw [List.getElem?_eq_none (by omega), List.getElem?_eq_none (by omega)])

theorem insert_grow (b js vs : List α) (z : α) {j : Nat} (hj : j ≤ b.length) :
    over (over (((b ++ js).drop 0).take j ++ List.replicate (b.length + vs.length - j) z) j (vs.take ((((b ++ js).drop 0).take j ++ List.replicate (b.length + vs.length - j) z).length - j))) (j + vs.length)
      ((((b ++ js).drop (0 + j)).take (b.length - j)).take ((over (((b ++ js).drop 0).take j ++ List.replicate (b.length + vs.length - j) z) j (vs.take ((((b ++ js).drop 0).take j ++ List.replicate (b.length + vs.length - j) z).length - j))).length - (j + vs.length))) = b.take j ++ vs ++ b.drop j := by
  have e0 : ((b ++ js).drop 0).take j = b.take j := by rw [List.drop_zero, List.take_append_of_le_length hj]
  rw [e0]
  have hl : (b.take j ++ List.replicate (b.length + vs.length - j) z).length = b.length + vs.length := by simp; omega
  rw [hl]
  have e1 : vs.take (b.length + vs.length - j) = vs := List.take_of_length_le (by omega)
  rw [e1]
  have hl2 : (over (b.take j ++ List.replicate (b.length + vs.length - j) z) j vs).length = b.length + vs.length := by rw [over_length _ _ _ (by rw [hl]; omega), hl]
  rw [hl2]
  have e2 : (((b ++ js).drop (0 + j)).take (b.length - j)).take (b.length + vs.length - (j + vs.length)) = b.drop j := by
    apply List.ext_getElem?
    intro k
    simp only [List.getElem?_append, List.getElem?_take, List.getElem?_drop, Nat.zero_add]
    repeat' split
    all_goals first
      | rfl
      | omega
      | (rw [List.getElem?_eq_none (by omega)])
  rw [e2]
  have e3 : over (b.take j ++ List.replicate (b.length + vs.length - j) z) j vs = b.take j ++ vs ++ List.replicate (b.length - j) z := by
    unfold over
    have hbl : (b.take j).length = j := by rw [List.length_take]; omega
    have h1 : (b.take j ++ List.replicate (b.length + vs.length - j) z).take j = b.take j := by
      rw [List.take_append_of_le_length (Nat.le_of_eq hbl.symm)]
      exact List.take_of_length_le (Nat.le_of_eq hbl)
    have h2 : (b.take j ++ List.replicate (b.length + vs.length - j) z).drop (j + vs.length) = List.replicate (b.length - j) z := by
      rw [List.drop_append, List.drop_of_length_le (by rw [hbl]; omega), hbl, List.nil_append, List.drop_replicate]
      congr 1; omega
    rw [h1, h2]
  rw [e3]
  unfold over
  have hlen : (b.take j ++ vs).length = j + vs.length := by rw [List.length_append, List.length_take]; omega
  have h1 : (b.take j ++ vs ++ List.replicate (b.length - j) z).take (j + vs.length) = b.take j ++ vs := by
    rw [List.take_append_of_le_length (Nat.le_of_eq hlen.symm)]
    exact List.take_of_length_le (Nat.le_of_eq hlen)
  have h2 : (b.take j ++ vs ++ List.replicate (b.length - j) z).drop (j + vs.length + (b.drop j).length) = [] := by
    apply List.drop_of_length_le
    rw [List.length_append, hlen, List.length_replicate, List.length_drop]
    omega
  rw [h1, h2, List.append_nil]

theorem wrap64I {n : Int} (h0 : -9223372036854775808 ≤ n) (h1 : n < 9223372036854775808) : IntKind.wrap .i64 n = n := by
  rw [IntKind.wrap_i64]; omega

end
end Go.Ev

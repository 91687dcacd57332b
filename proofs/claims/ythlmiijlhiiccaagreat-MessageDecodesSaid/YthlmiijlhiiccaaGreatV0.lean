/- A calculus of weakest preconditions for the code of the model, over heaps alone: definitions. It speaks of no program. -/
import Derived.Orders
import Derived.Laws.AppendOwn
import Derived.WalkSpells
import Derived.DeepKeys
import Derived.Lib.Bytealg
import Derived.Lib.ConvBytes
import Derived.KernelRfl
import Derived.Laws.Externs
namespace Go.Vc

abbrev Heap := Array Obj
abbrev Env := List (Nat × Value)

/- ### Heaps -/
def cell (h : Heap) (a : Addr) : Option Value :=
  match h[a.block]? with
  | some (.cells c _ _) => if a.spot.isSome then none else c[a.off]?
  | _ => none
def frz (h : Heap) (a : Addr) : Bool :=
  match h[a.block]? with
  | some (.cells _ _ (lo, hi)) => lo ≤ a.off && a.off < hi
  | _ => false
def put (h : Heap) (a : Addr) (v : Value) : Heap :=
  h.modify a.block fun
    | .cells c elem frozen => .cells (if a.spot.isSome then c else c.setIfInBounds a.off v) elem frozen
    | o => o
def rowFrom (h : Heap) (a : Addr) (i : Nat) : Nat → Option (List Value)
  | 0 => some []
  | n + 1 => match cell h (a.add i) with
    | some v => (rowFrom h a (i + 1) n).map (v :: ·)
    | none => none
/-- The n cells at an address. -/
def row (h : Heap) (a : Addr) (n : Nat) : Option (Array Value) := (rowFrom h a 0 n).map List.toArray
def putRow (h : Heap) (a : Addr) (i : Nat) : List Value → Heap
  | [] => h
  | v :: r => putRow (put h (a.add i) v) a (i + 1) r
/-- The cell may be written. -/
def wrt (h : Heap) (a : Addr) : Prop := (cell h a).isSome = true ∧ frz h a = false
def wrtRow (h : Heap) (a : Addr) (n : Nat) : Prop := ∀ i, i < n → wrt h (a.add i)

/- ### Calls, over heaps -/
def Rest (w w' : World) : Prop := w'.tape = w.tape ∧ w'.os = w.os ∧ w'.output = w.output
def CallsH (P : Program) (f : FuncId) (args : Array Value) (h : Heap) (R : Value → Heap → Prop) : Prop :=
  ∀ w : World, w.heap = h → Calls P f args w fun e w' => ∃ v, e = .returned v ∧ Rest w w' ∧ R v w'.heap

/- ### Types -/
inductive Ty where
  | int (k : IntKind) | bool | str | ptr | slice | map | agg (n : Nat) | raw | addr | blk
def szOf (P : Program) (t : TypeId) : Nat := match P.info? t with | some i => i.size | none => 0
def bytesOf (P : Program) (t : TypeId) : Nat := match P.info? t with | some i => i.bytes | none => 0
def zeroOf (P : Program) (t : TypeId) : Option Value := (P.info? t).bind (·.zero)
def aggB (P : Program) (t : TypeId) : Option Bool :=
  match P.underlying t, P.info? t with
  | some (.struct _), some _ => some true
  | some (.array _ _), some _ => some true
  | some _, some _ => some false
  | _, _ => none
def tyOf (P : Program) (t : TypeId) : Ty :=
  match P.underlying t with
  | some (.int k) => .int k
  | some .bool => .bool
  | some .string => .str
  | some (.pointer _) => .ptr
  | some (.slice _) => .slice
  | some (.map _ _) => .map
  | some (.struct _) => .agg (szOf P t)
  | some (.array _ _) => .agg (szOf P t)
  | _ => .raw
/-- Some value of a type. -/
def exTy (T : Ty) (K : Value → Prop) : Prop :=
  match T with
  | .int k => ∃ n : Int, K (.int k n)
  | .bool => ∃ b : Bool, K (.bool b)
  | .str => ∃ s : ByteArray, K (.string s)
  | .ptr => ∃ p : Option Addr, K (.pointer p)
  | .slice => ∃ (p : Option Addr) (l c : Nat), K (.slice p l c)
  | .map => ∃ r : Option Nat, K (.map r)
  | .agg n => ∃ cs : Array Value, cs.size = n ∧ K (.agg cs)
  | .raw => ∃ v : Value, K v
  | .addr => ∃ a : Addr, K (.pointer (some a))
  | .blk => ∃ b : Nat, K (.pointer (some ⟨b, 0, none⟩))
def exTys (P : Program) : List TypeId → (List Value → Prop) → Prop
  | [], K => K []
  | t :: ts, K => exTy (tyOf P t) fun v => exTys P ts fun vs => K (v :: vs)
/-- What a call hands back, by its type. -/
def back (P : Program) (t : TypeId) (v : Value) (K : Value → Prop) : Prop :=
  match P.underlying t with
  | some (.tuple ts) => exTys P ts.toList fun vs => v = .tuple vs.toArray ∧ K (.tuple vs.toArray)
  | _ => exTy (tyOf P t) fun x => v = x ∧ K x

/- ### Words of the formulas -/
/-- Two ways. -/
def br (b : Bool) (X Y : Prop) : Prop := match b with | true => X | false => Y
def deref (p : Option Addr) (K : Addr → Prop) : Prop := match p with | some a => K a | none => False
/-- The values at a slice's beginning. -/
def src (h : Heap) (p : Option Addr) (n : Nat) : Option (Array Value) := match p with | some a => row h a n | none => some #[]
def one (c : Array Value) : Prop := ∀ v ∈ c.toList, v.oneCell' = true
def newBlk (h : Heap) (t : TypeId) (cells : Array Value) (K : Nat → Heap → Prop) : Prop :=
  ∀ b h', b = h.size → h' = h.push (.cells cells t) → K b h'
def storeP (n : Option Nat) (h : Heap) (a : Addr) (v : Value) (K : Heap → Prop) : Prop :=
  match n with
  | none => v.oneCell' = true ∧ wrt h a ∧ ∀ h', h' = put h a v → K h'
  | some n => v.cells.size = n ∧ one v.cells ∧ wrtRow h a n ∧ ∀ h', h' = putRow h a 0 v.cells.toList → K h'
def appendP (e : TypeId) (sz bytes : Nat) (zero : Array Value) (p : Option Addr) (l c : Nat) (q : Option Addr) (n : Nat) (h : Heap) (K : Option Addr → Nat → Nat → Heap → Prop) : Prop :=
  ∃ news, src h q (n * sz) = some news ∧ one news ∧
    (l + n ≤ c → (∀ a, p = some a → wrtRow h (a.add (l * sz)) (n * sz)) ∧
      ∀ h', h' = (match p with | some a => putRow h (a.add (l * sz)) 0 news.toList | none => h) → K p (l + n) c h') ∧
    (c < l + n → l + n ≤ maxLen ∧ (l + n) * bytes ≤ 140737488355328 ∧ ∃ old, src h p (l * sz) = some old ∧
      ∀ c' b h', l + n ≤ c' → c' ≤ maxLen → b = h.size → h' = h.push (.cells (old ++ news ++ Builtin.zeroCells zero (c' - (l + n))) e) → K (some ⟨b, 0, none⟩) (l + n) c' h')
def copyP (sz : Nat) (p : Option Addr) (l : Nat) (q : Option Addr) (n : Nat) (h : Heap) (K : Int → Heap → Prop) : Prop :=
  ∃ news, src h q (Nat.min n l * sz) = some news ∧ one news ∧ (∀ a, p = some a → wrtRow h a (Nat.min n l * sz)) ∧
    ∀ h', h' = (match p with | some a => putRow h a 0 news.toList | none => h) → K (Nat.min n l : Nat) h'
def sliceP (sz : Nat) (p : Option Addr) (l h m : Int) (c : Nat) (K : Option Addr → Nat → Nat → Prop) : Prop :=
  0 ≤ l ∧ l ≤ h ∧ h ≤ m ∧ m ≤ c ∧
    K (if m.toNat = l.toNat then p else p.map (·.add (l.toNat * sz))) (h.toNat - l.toNat) (m.toNat - l.toNat)
def zeroRow (zero : Array Value) (n : Nat) : Array Value := (Array.range n).map (zero[· % zero.size]!)
def makeP (e : TypeId) (sz bytes : Nat) (zero : Array Value) (l c : Int) (h : Heap) (K : Nat → Heap → Prop) : Prop :=
  0 ≤ l ∧ l ≤ c ∧ c ≤ maxLen ∧ bytes * c ≤ 2 ^ 48 ∧
    newBlk h e (if c.toNat * sz = 0 then #[] else zeroRow zero (c.toNat * sz)) K

/- ### Environments -/
def Env.get? : Env → Nat → Option Value
  | [], _ => none
  | (s, v) :: r, t => match Nat.beq s t with | true => some v | false => Env.get? r t
def Env.put (ρ : Env) (d : Option Nat) (v : Value) : Env := match d with | some d => (d, v) :: ρ | none => ρ
def opv (ρ : Env) : Operand → Option Value
  | .tmp t => ρ.get? t
  | .const v => some v
  | .global g => some (.pointer (some ⟨g, 0, none⟩))
  | .func f => some (.func (.func f) #[] #[])
def opvs (ρ : Env) : List Operand → Option (List Value)
  | [] => some []
  | x :: r => match opv ρ x, opvs ρ r with
    | some v, some vs => some (v :: vs)
    | _, _ => none
def opvo (ρ : Env) : Option Operand → Option (Option Value)
  | none => some none
  | some x => (opv ρ x).map some

/- ### Operations -/
def cmpB (op : BinOp) (a b : Int) : Option Bool :=
  match op with
  | .eql => some (a == b) | .neq => some (a != b) | .lss => some (decide (a < b)) | .leq => some (decide (a ≤ b))
  | .gtr => some (decide (a > b)) | .geq => some (decide (a ≥ b)) | _ => none
def andI (k : IntKind) (a b : Int) : Int := k.wrap (BitVec.ofInt k.bits a &&& BitVec.ofInt k.bits b).toNat
def orI (k : IntKind) (a b : Int) : Int := k.wrap (BitVec.ofInt k.bits a ||| BitVec.ofInt k.bits b).toNat
def xorI (k : IntKind) (a b : Int) : Int := k.wrap (BitVec.ofInt k.bits a ^^^ BitVec.ofInt k.bits b).toNat
def andNotI (k : IntKind) (a b : Int) : Int := k.wrap (BitVec.ofInt k.bits a &&& ~~~BitVec.ofInt k.bits b).toNat
def shlI (k : IntKind) (a b : Int) : Int := k.wrap (a * 2 ^ (min b.toNat k.bits))
def shrI (k : IntKind) (a b : Int) : Int := a.fdiv (2 ^ (min b.toNat k.bits))
def intVc (op : BinOp) (k : IntKind) (a b : Int) (K : Value → Prop) : Prop :=
  match op with
  | .add => K (.int k (k.wrap (a + b)))
  | .sub => K (.int k (k.wrap (a - b)))
  | .mul => K (.int k (k.wrap (a * b)))
  | .quo => b ≠ 0 ∧ K (.int k (k.wrap (a.tdiv b)))
  | .rem => b ≠ 0 ∧ K (.int k (a.tmod b))
  | .and => K (.int k (andI k a b))
  | .or => K (.int k (orI k a b))
  | .xor => K (.int k (xorI k a b))
  | .andNot => K (.int k (andNotI k a b))
  | .shl | .shr => False
  | op => match cmpB op a b with | some t => K (.bool t) | none => False
/-- Two arrays or structs, held against each other. -/
def eqAgg (P : Program) (t : TypeId) (xs ys : Array Value) (K : Bool → Prop) : Prop :=
  ∃ la lb, P.keyLits 9 t xs.toList = some la ∧ P.keyLits 9 t ys.toList = some lb ∧ ∀ r : Bool, (r = true ↔ la = lb) → K r
def keyB (P : Program) (t : TypeId) : Bool :=
  P.keyTypeAt 9 t && !P.eqGuardType P.depth t && (match P.underlying t with | some (.array _ _) | some (.struct _) => true | _ => false)
/-- A pointer or a slice, held against nil. -/
def nilEq (a b : Option Addr) (K : Bool → Prop) : Prop :=
  match b with
  | none => K a.isNone
  | some _ => match a with | none => K false | some _ => False
def binVc (P : Program) (op : BinOp) (t : TypeId) (x y : Value) (K : Value → Prop) : Prop :=
  match op, x, y with
  | .shl, .int k a, .int _ b => 0 ≤ b ∧ K (.int k (shlI k a b))
  | .shr, .int k a, .int _ b => 0 ≤ b ∧ K (.int k (shrI k a b))
  | op, .int k a, .int k' b => if k = k' then intVc op k a b K else False
  | .eql, .bool a, .bool b => (match P.underlying t with | some .bool => K (.bool (a == b)) | _ => False)
  | .neq, .bool a, .bool b => (match P.underlying t with | some .bool => K (.bool (!(a == b))) | _ => False)
  | .eql, .pointer a, .pointer b => (match P.underlying t with | some (.pointer _) => nilEq a b fun t => K (.bool t) | _ => False)
  | .neq, .pointer a, .pointer b => (match P.underlying t with | some (.pointer _) => nilEq a b fun t => K (.bool (!t)) | _ => False)
  | .eql, .slice a _ _, .slice b _ _ => (match P.underlying t with | some (.slice _) => nilEq a b fun t => K (.bool t) | _ => False)
  | .neq, .slice a _ _, .slice b _ _ => (match P.underlying t with | some (.slice _) => nilEq a b fun t => K (.bool (!t)) | _ => False)
  | .eql, .string a, .string b => K (.bool (a.toList == b.toList))
  | .neq, .string a, .string b => K (.bool (!(a.toList == b.toList)))
  | .eql, .agg xs, .agg ys => (match keyB P t with | true => eqAgg P t xs ys fun r => K (.bool r) | false => False)
  | .neq, .agg xs, .agg ys => (match keyB P t with | true => eqAgg P t xs ys fun r => K (.bool (!r)) | false => False)
  | _, _, _ => False
def unVc (op : UnOp) (x : Value) (K : Value → Prop) : Prop :=
  match op, x with
  | .neg, .int k n => K (.int k (k.wrap (0 - n)))
  | .xor, .int k n => K (.int k (xorI k (if k.signed then -1 else k.max) n))
  | .not, .bool b => K (.bool !b)
  | _, _ => False
/-- A part of an array or a struct that is a value. -/
def partVc (P : Program) (t : TypeId) (cs : Array Value) (off : Nat) (K : Value → Prop) : Prop :=
  match aggB P t with
  | some true => K (.agg (cs.extract off (off + szOf P t)))
  | some false => exTy (tyOf P t) fun x => cs[off]? = some x ∧ K x
  | none => False
def asNat : Value → Option Int
  | .int _ n => some n
  | _ => none
/-- The cells of a struct or an array that is put together, part by part: the given parts, zero elsewhere. -/
def chunk : List Nat → List Value → List (List Value)
  | [], _ => []
  | n :: r, l => l.take n :: chunk r (l.drop n)
def flat : List (List Value) → List Value
  | [] => []
  | x :: r => x ++ flat r
def setAt : List (List Value) → Nat → List Value → List (List Value)
  | [], _, _ => []
  | _ :: r, 0, v => v :: r
  | x :: r, n + 1, v => x :: setAt r n v
def tilesB : Nat → List (Nat × Nat) → Bool
  | _, [] => true
  | off, (o, s) :: r => Nat.beq off o && tilesB (off + s) r
def evens (size : Nat) : Nat → Nat → List (Nat × Nat)
  | 0, _ => []
  | n + 1, off => (off, size) :: evens size n (off + size)
def places (P : Program) (t : TypeId) : Option (List (Nat × Nat)) :=
  match P.underlying t with
  | some (.struct fs) => some (fs.toList.map fun f => (f.offset, szOf P f.type))
  | _ => none
def getAt {α : Type} : List α → Nat → Option α
  | [], _ => none
  | x :: _, 0 => some x
  | _ :: r, n + 1 => getAt r n
def fillVc (pl : List (Nat × Nat)) (ch : List (List Value)) : List (Nat × Value) → (List (List Value) → Prop) → Prop
  | [], K => K ch
  | (i, v) :: r, K => match getAt pl i with
    | some (_, n) => match v with
      | .agg cs => cs.size = n ∧ fillVc pl (setAt ch i cs.toList) r K
      | v => match Nat.beq n 1 with
        | true => fillVc pl (setAt ch i [v]) r K
        | false => False
    | none => False
/-- All parts laid out over 'zero'. -/
def partsVc (pl : List (Nat × Nat)) (zero : List Value) (ps : List (Nat × Value)) (K : List Value → Prop) : Prop :=
  match tilesB 0 pl && Nat.beq ((pl.map (·.2)).sum) zero.length with
  | true => fillVc pl (chunk (pl.map (·.2)) zero) ps fun ch => K (flat ch)
  | false => False
def pairs (ρ : Env) : List (Nat × Operand) → Option (List (Nat × Value))
  | [] => some []
  | (i, x) :: r => match opv ρ x, pairs ρ r with
    | some v, some vs => some ((i, v) :: vs)
    | _, _ => none
def withV (o : Option Value) (K : Value → Prop) : Prop := match o with | some v => K v | none => False
def withI (o : Option Value) (K : Int → Prop) : Prop := match o with | some (.int _ n) => K n | _ => False
def fieldOf (P : Program) (t : TypeId) (i : Nat) : Option Field :=
  match P.underlying t with | some (.struct fs) => getAt fs.toList i | _ => none
def callableB (P : Program) (f : FuncId) : Bool :=
  match P.funcs[f]? with | some fn => fn.body.isSome && fn.name != "runtime.NumGoroutine" | none => false
def markH (h : Heap) (a : Addr) : Heap :=
  match h[a.block]? with
  | some (.cells c _ _) => h.modify a.block fun
      | .cells c' elem (lo, hi) => .cells c' elem (if lo == hi then (c.size, c.size + 1) else (min lo c.size, max hi (c.size + 1)))
      | o => o
  | _ => h
/-- Bytes, as cells. -/
def bcs (xs : List UInt8) : List Value := xs.map fun b => .int .u8 (b.toNat : Int)
def convVc (P : Program) (s d : TypeId) (x : Value) (h : Heap) (K : Value → Heap → Prop) : Prop :=
  match P.underlying s, P.underlying d, x with
  | some _, some (.int k), .int _ n => K (.int k (k.wrap n)) h
  | some (.slice _), some (.slice e), .slice (some a) l c =>
    (match Nat.beq s d, P.underlying e with | true, some (.int .u8) => (∃ t n, (match h[a.block]? with | some (.cells c' t' _) => some (t', c'.size) | _ => none) = some (t, n)) ∧ ∀ h', h' = markH h a → K (.slice (some a) l c) h' | _, _ => False)
  | some _, some (.slice e), .string s => (match P.underlying e with
    | some (.int .u8) => s.size ≤ maxLen ∧ ∀ c' b h', s.size ≤ c' → c' ≤ maxLen → b = h.size →
      h' = h.push (.cells ((bcs s.data.toList).toArray ++ Array.replicate (c' - s.size) (.int .u8 0)) e (c', c' + 1)) → K (.slice (some ⟨b, 0, none⟩) s.size c') h'
    | _ => False)
  | some (.slice e), some .string, .slice p l _ => (match P.underlying e with
    | some (.int .u8) => ∃ xs : List UInt8, src h p l = some (bcs xs).toArray ∧ K (.string ⟨xs.toArray⟩) h
    | _ => False)
  | _, _, _ => False
def inL : List Nat → Nat → Bool
  | [], _ => false
  | x :: r, n => Nat.beq x n || inL r n
/-- Nothing that was there has changed. -/
def Ext (h h' : Heap) : Prop := ∀ b, b < h.size → h'[b]? = h[b]?
/-- Functions without a body that the model has an entry for. -/
def externB (P : Program) (f : FuncId) : Bool :=
  match P.funcs[f]? with | some fn => fn.body.isNone && fn.name == "internal/bytealg.Compare" && fn.origin == "" | none => false
def externVc (args : List Value) (h : Heap) (K : Value → Heap → Prop) : Prop :=
  match args with
  | [.slice p l _, .slice q n _] => ∃ xs ys : List UInt8, src h p l = some (bcs xs).toArray ∧ src h q n = some (bcs ys).toArray ∧ K (.int .i64 (Lib.compareBytes xs ys)) h
  | _ => False
/-- A call; 'qs': the functions whose calls only make new memory. -/
def callVc (P : Program) (qs : List Nat) (f : FuncId) (t : TypeId) (args : List Value) (h : Heap) (K : Value → Heap → Prop) : Prop :=
  match callableB P f with
  | true => (match inL qs f with
    | true => CallsH P f args.toArray h fun v h' => Ext h h' ∧ back P t v fun v => K v h'
    | false => CallsH P f args.toArray h fun v h' => back P t v fun v => K v h')
  | false => (match externB P f with | true => externVc args h K | false => False)
def minI (a b : Int) : Int := if b < a then b else a
def maxI (a b : Int) : Int := if b > a then b else a
def foldI (f : Int → Int → Int) : Int → List Value → Option Int
  | a, [] => some a
  | a, .int _ b :: r => foldI f (f a b) r
  | _, _ => none
def builtinVc (P : Program) (b : Builtin) (ts : List TypeId) (args : List Value) (h : Heap) (K : Value → Heap → Prop) : Prop :=
  match b, ts, args with
  | .len, [t], [x] => (match P.underlying t, x with
    | some (.slice _), .slice _ n _ => K (.int .i64 (n : Nat)) h
    | some (.array n _), _ => K (.int .i64 (n : Nat)) h
    | some .string, .string s => K (.int .i64 (s.size : Nat)) h
    | some (.pointer e), _ => (match P.underlying e with | some (.array n _) => K (.int .i64 (n : Nat)) h | _ => False)
    | _, _ => False)
  | .cap, [t], [x] => (match P.underlying t, x with
    | some (.slice _), .slice _ _ n => K (.int .i64 (n : Nat)) h
    | _, _ => False)
  | .min, _, .int k a :: r => (match foldI minI a r with | some n => K (.int k n) h | none => False)
  | .max, _, .int k a :: r => (match foldI maxI a r with | some n => K (.int k n) h | none => False)
  | .append, [t, u], [.slice p l c, .slice q n _] => (match P.underlying t, P.underlying u with
    | some (.slice e), some (.slice _) => (match zeroOf P e with
      | some z => appendP e (szOf P e) (bytesOf P e) z.cells p l c q n h fun p l c h => K (.slice p l c) h
      | none => False)
    | _, _ => False)
  | .copy, [t, _], [.slice p l _, .slice q n _] => (match P.underlying t with
    | some (.slice e) => (match P.info? e with | some _ => copyP (szOf P e) p l q n h fun n h => K (.int .i64 n) h | none => False)
    | _ => False)
  | _, _, _ => False
/-- Where a slice is cut: low, high, max. -/
def cutVc (sz : Nat) (p : Option Addr) (len cap : Nat) (lo hi mx : Option Value) (K : Value → Prop) : Prop :=
  let go (l h m : Int) : Prop := sliceP sz p l h m cap fun p l c => K (.slice p l c)
  let lows (k : Int → Prop) : Prop := match lo with | some (.int _ l) => k l | none => k 0 | _ => False
  let highs (k : Int → Prop) : Prop := match hi with | some (.int _ h) => k h | none => k len | _ => False
  match mx with
  | some (.int _ m) => (match hi with | some _ => lows fun l => highs fun h => go l h m | none => False)
  | none => lows fun l => highs fun h => go l h cap
  | _ => False
def sliceVc (P : Program) (t : TypeId) (x : Value) (lo hi mx : Option Value) (K : Value → Prop) : Prop :=
  match P.underlying t, x with
  | some (.array n e), .pointer (some a) => (match P.info? e with | some i => cutVc i.size (some a) n n lo hi mx K | none => False)
  | some (.slice e), .slice p l c => (match P.info? e with | some i => cutVc i.size p l c lo hi mx K | none => False)
  | _, _ => False
def indexAddrVc (P : Program) (t : TypeId) (x : Value) (i : Int) (K : Value → Prop) : Prop :=
  match P.underlying t, x with
  | some (.array n e), .pointer (some a) => (match P.info? e with | some j => 0 ≤ i ∧ i < (n : Nat) ∧ K (.pointer (some (a.add (i.toNat * j.size)))) | none => False)
  | some (.slice e), .slice p n _ => (match P.info? e with | some j => 0 ≤ i ∧ i < (n : Nat) ∧ deref p fun a => K (.pointer (some (a.add (i.toNat * j.size)))) | none => False)
  | _, _ => False
def indexVc (P : Program) (t : TypeId) (x : Value) (i : Int) (K : Value → Prop) : Prop :=
  match P.underlying t, x with
  | some (.array n e), .agg cs => 0 ≤ i ∧ i < (n : Nat) ∧ partVc P e cs (i.toNat * szOf P e) K
  | some .string, .string s => 0 ≤ i ∧ ∃ b : UInt8, s[i.toNat]? = some b ∧ K (.int .u8 (b.toNat : Int))
  | _, _ => False
def buildVc (P : Program) (t : TypeId) (ps : List (Nat × Value)) (K : Array Value → Prop) : Prop :=
  match P.underlying t, zeroOf P t with
  | some (.struct fs), some z => (match fs.toList.all (fun f => (P.info? f.type).isSome), places P t with
    | true, some l => partsVc l z.cells.toList ps fun l => K l.toArray
    | _, _ => False)
  | some (.array n e), some z => (match P.info? e with | some i => partsVc (evens i.size n 0) z.cells.toList ps fun l => K l.toArray | none => False)
  | _, _ => False
def zerosL (zero : List Value) : Nat → List Value
  | 0 => []
  | n + 1 => zero ++ zerosL zero n
def buildSliceVc (P : Program) (t : TypeId) (n : Nat) (ps : List (Nat × Value)) (h : Heap) (K : Value → Heap → Prop) : Prop :=
  match P.underlying t with
  | some (.slice e) => (match P.info? e, zeroOf P e with
    | some i, some z => (match Nat.ble (n * i.size) 16777216 && Nat.beq z.cells.size i.size && Nat.blt 0 (n * i.size) with
      | true => partsVc (evens i.size n 0) (zerosL z.cells.toList n) ps fun l => newBlk h e l.toArray fun b h' => K (.slice (some ⟨b, 0, none⟩) n n) h'
      | false => match n, ps with
        | 0, [] => newBlk h e #[] fun b h' => K (.slice (some ⟨b, 0, none⟩) 0 0) h'
        | _, _ => False)
    | _, _ => False)
  | _ => False

/-- What an operation does: its value, and the heap behind it. -/
def opVc (P : Program) (qs : List Nat) (op : Op) (ty : TypeId) (ρ : Env) (h : Heap) (K : Value → Heap → Prop) : Prop :=
  match op with
  | .move x => withV (opv ρ x) fun v => K v h
  | .assign x => withV (opv ρ x) fun v => K v h
  | .pick c a b => withV (opv ρ c) fun c => (match c with
    | .bool t => br t (withV (opv ρ a) fun v => K v h) (withV (opv ρ b) fun v => K v h)
    | _ => False)
  | .alloc e => (match zeroOf P e with | some z => newBlk h e z.cells fun b h' => K (.pointer (some ⟨b, 0, none⟩)) h' | none => False)
  | .box e x => withV (opv ρ x) fun v => newBlk h e v.cells fun b h' => K (.pointer (some ⟨b, 0, none⟩)) h'
  | .build t ps => (match pairs ρ ps.toList with | some ps => buildVc P t ps fun cs => K (.agg cs) h | none => False)
  | .buildSlice t n ps => (match pairs ρ ps.toList with | some ps => buildSliceVc P t n ps h K | none => False)
  | .load t x => withV (opv ρ x) fun v => (match v with
    | .pointer (some a) => (match aggB P t with
      | some true => ∃ cs, row h a (szOf P t) = some cs ∧ K (.agg cs) h
      | some false => exTy (tyOf P t) fun x => cell h a = some x ∧ K x h
      | none => False)
    | _ => False)
  | .store t x y => withV (opv ρ x) fun v => withV (opv ρ y) fun u => (match v with
    | .pointer (some a) => (match aggB P t with
      | some true => storeP (some (szOf P t)) h a u fun h' => K undef h'
      | some false => (match Nat.beq (szOf P t) 1 with | true => storeP none h a u fun h' => K undef h' | false => False)
      | none => False)
    | _ => False)
  | .nilCheck x => withV (opv ρ x) fun v => (match v with
    | .pointer p => deref p fun a => K (.pointer (some a)) h
    | _ => False)
  | .binOp op t x y _ => withV (opv ρ x) fun a => withV (opv ρ y) fun b => binVc P op t a b fun v => K v h
  | .unOp op _ x => withV (opv ρ x) fun a => unVc op a fun v => K v h
  | .convert s d x => withV (opv ρ x) fun a => convVc P s d a h K
  | .sliceToArrayPointer t x => withV (opv ρ x) fun v => (match P.underlying t, v with
    | some (.array n _), .slice p l _ => n ≤ l ∧ deref p fun a => K (.pointer (some a)) h
    | _, _ => False)
  | .makeFunc fn first cap => (match opvs ρ first.toList, opvs ρ cap.toList with
    | some a, some b => K (.func fn a.toArray b.toArray) h
    | _, _ => False)
  | .makeSlice t l c => withI (opv ρ l) fun l => withI (opv ρ c) fun c => (match P.underlying t with
    | some (.slice e) => (match zeroOf P e with
      | some z => makeP e (szOf P e) (bytesOf P e) z.cells l c h fun b h => K (.slice (some ⟨b, 0, none⟩) l.toNat c.toNat) h
      | none => False)
    | _ => False)
  | .slice t x lo hi mx => withV (opv ρ x) fun v => (match opvo ρ lo, opvo ρ hi, opvo ρ mx with
    | some lo, some hi, some mx => sliceVc P t v lo hi mx fun u => K u h
    | _, _, _ => False)
  | .fieldAddr t x i => withV (opv ρ x) fun v => (match v, fieldOf P t i with
    | .pointer (some a), some f => (match Nat.beq (szOf P f.type) 0 with | true => False | false => K (.pointer (some (a.add f.offset))) h)
    | _, _ => False)
  | .field t x i => withV (opv ρ x) fun v => (match v, fieldOf P t i with
    | .agg cs, some f => partVc P f.type cs f.offset fun u => K u h
    | _, _ => False)
  | .indexAddr t x i => withV (opv ρ x) fun v => withI (opv ρ i) fun i => indexAddrVc P t v i fun u => K u h
  | .index t x i => withV (opv ρ x) fun v => withI (opv ρ i) fun i => indexVc P t v i fun u => K u h
  | .extract x i => withV (opv ρ x) fun v => (match v with
    | .tuple vs => withV (getAt vs.toList i) fun u => K u h
    | _ => False)
  | .call c => (match opvs ρ c.args.toList with
    | some args => (match c.callee with
      | .value f => withV (opv ρ f) fun v => (match v with
        | .func (.func f) first cap => callVc P qs f ty (first.toList ++ (args ++ cap.toList)) h K
        | _ => False)
      | .builtin b => builtinVc P b c.argTypes.toList args h K
      | _ => False)
    | none => False)
  | _ => False
end Go.Vc
/- The calculus of XVcA is sound: one operation. -/
set_option linter.unusedVariables false
namespace Go.Vc

theorem cell_eq (w : World) (a : Addr) : w.cell? a = cell w.heap a := rfl
theorem frz_eq (w : World) (a : Addr) : w.frozen? a = frz w.heap a := rfl
theorem setCell_eq (w : World) (a : Addr) (v : Value) : w.setCell a v = { w with heap := put w.heap a v } := rfl

theorem frz_put (h : Heap) (a b : Addr) (v : Value) : frz (put h a v) b = frz h b := by
  have := World.frozen?_setCell ({ (default : World) with heap := h }) a b v
  simpa [setCell_eq, frz_eq] using this

theorem cell_put_isSome (h : Heap) (a b : Addr) (v : Value) : (cell (put h a v) b).isSome = (cell h b).isSome := by
  unfold cell put
  rw [Array.getElem?_modify]
  by_cases hb : a.block = b.block
  · simp only [hb, if_true]
    cases hh : h[b.block]? with
    | none => simp
    | some x =>
      cases x <;> simp
      split
      · rfl
      · split
        · rfl
        · rw [Array.getElem?_setIfInBounds]
          split
          · rename_i ho
            rw [ho]
            by_cases hlt : b.off < (by assumption : Array Value).size <;> simp [hlt]
          · rfl
  · simp [hb]

theorem wrt_put {h : Heap} {a b : Addr} {v : Value} (hw : wrt h b) : wrt (put h a v) b :=
  ⟨by rw [cell_put_isSome]; exact hw.1, by rw [frz_put]; exact hw.2⟩

section
variable {P : Program}

theorem run_store_h {w : World} {a : Addr} {v : Value} (hv : v.oneCell' = true) (hw : wrt w.heap a) :
    (store a v).run P w = .ok () { w with heap := put w.heap a v } := by
  rw [run_store P w a v .plain hv]
  obtain ⟨h1, h2⟩ := hw
  obtain ⟨u, hu⟩ := Option.isSome_iff_exists.1 h1
  rw [cell_eq, hu]
  simp only [frz_eq, h2]
  rfl

theorem run_load_h {w : World} {a : Addr} {v : Value} (hc : cell w.heap a = some v) : (load a).run P w = .ok v w := by
  rw [run_load]
  rw [cell_eq, hc]

theorem run_rowFrom (w : World) (a : Addr) : ∀ (n i : Nat) (l : List Value) (acc : Array Value), rowFrom w.heap a i n = some l →
    (loadCellsFrom a i n acc).run P w = .ok (acc ++ l.toArray) w
  | 0, i, l, acc, h => by
    simp only [rowFrom, Option.some.injEq] at h
    subst h
    simp [loadCellsFrom]
  | n + 1, i, l, acc, h => by
    simp only [rowFrom] at h
    split at h
    · rename_i v hv
      obtain ⟨l', hl', rfl⟩ := Option.map_eq_some_iff.1 h
      simp only [loadCellsFrom, Sem.run_bind]
      rw [run_load_h hv]
      simp only [Result.andThen_ok]
      rw [run_rowFrom w a n (i + 1) l' _ hl']
      simp
    · cases h

theorem run_row {w : World} {a : Addr} {n : Nat} {cs : Array Value} (h : row w.heap a n = some cs) : (loadCells a n).run P w = .ok cs w := by
  obtain ⟨l, hl, rfl⟩ := Option.map_eq_some_iff.1 h
  unfold loadCells
  rw [run_rowFrom w a n 0 l _ hl]
  simp

theorem rowFrom_length (h : Heap) (a : Addr) : ∀ (n i : Nat) (l : List Value), rowFrom h a i n = some l → l.length = n
  | 0, i, l, e => by simp only [rowFrom, Option.some.injEq] at e; subst e; rfl
  | n + 1, i, l, e => by
    simp only [rowFrom] at e
    split at e
    · obtain ⟨l', hl', rfl⟩ := Option.map_eq_some_iff.1 e
      simp [rowFrom_length h a n (i + 1) l' hl']
    · cases e

theorem row_size {h : Heap} {a : Addr} {n : Nat} {cs : Array Value} (e : row h a n = some cs) : cs.size = n := by
  obtain ⟨l, hl, rfl⟩ := Option.map_eq_some_iff.1 e
  simp [rowFrom_length h a n 0 l hl]

theorem run_putRow (a : Addr) : ∀ (l : List Value) (i : Nat) (w : World), (∀ j, j < l.length → wrt w.heap (a.add (i + j))) → (∀ v ∈ l, v.oneCell' = true) →
    (storeCells a l i).run P w = .ok () { w with heap := putRow w.heap a i l }
  | [], i, w, _, _ => rfl
  | v :: r, i, w, hw, h1 => by
    simp only [storeCells, Sem.run_bind]
    rw [run_store_h (h1 v (by simp)) (by have := hw 0 (by simp); simpa using this)]
    simp only [Result.andThen_ok]
    rw [run_putRow a r (i + 1) _ (fun j hj => wrt_put (by have := hw (j + 1) (by simp; omega); rw [show i + 1 + j = i + (j + 1) from by omega]; exact this)) (fun v hv => h1 v (by simp [hv]))]
    rfl

theorem run_src {w : World} {q : Option Addr} {n c sz m : Nat} {cs : Array Value} (h : src w.heap q (m * sz) = some cs) :
    (Builtin.firstCells sz m (.slice q n c)).run P w = .ok cs w := by
  cases q with
  | none => simp only [src, Option.some.injEq] at h; subst h; rfl
  | some a => simp only [src] at h; simp only [Builtin.firstCells]; exact run_row h

theorem run_und {t : TypeId} {d : TypeDesc} (h : P.underlying t = some d) (w : World) : (underlying t).run P w = .ok d w := run_underlying h w
theorem run_info {t : TypeId} {i : TypeInfo} (h : P.info? t = some i) (w : World) : (typeInfo t).run P w = .ok i w := by simp [typeInfo, h]
theorem run_size {t : TypeId} {i : TypeInfo} (h : P.info? t = some i) (w : World) : (sizeOf t).run P w = .ok (szOf P t) w := by simp [sizeOf, run_info h, szOf, h]
theorem szOf_of {t : TypeId} {i : TypeInfo} (h : P.info? t = some i) : szOf P t = i.size := by simp [szOf, h]
theorem run_zero {t : TypeId} {z : Value} (h : zeroOf P t = some z) (w : World) : (zeroValue t).run P w = .ok z w := by
  unfold zeroOf at h
  obtain ⟨i, hi, hz⟩ := Option.bind_eq_some_iff.1 h
  simp [zeroValue, run_info hi, hz]
theorem info_of_zero {t : TypeId} {z : Value} (h : zeroOf P t = some z) : ∃ i, P.info? t = some i ∧ i.zero = some z := by
  unfold zeroOf at h
  obtain ⟨i, hi, hz⟩ := Option.bind_eq_some_iff.1 h
  exact ⟨i, hi, hz⟩
theorem run_agg {t : TypeId} {b : Bool} (h : aggB P t = some b) (w : World) : (isAgg t).run P w = .ok b w ∧ ∃ i, P.info? t = some i := by
  unfold aggB at h
  split at h <;> simp_all [isAgg, run_underlying]

theorem run_newRow (w : World) (e : TypeId) (c : Array Value) : (newRow e c).run P w = .ok ⟨w.heap.size, 0, none⟩ { w with heap := w.heap.push (.cells c e) } := by
  simp [newRow]
theorem run_newVar (w : World) (e : TypeId) (v : Value) : (newVar e v).run P w = .ok ⟨w.heap.size, 0, none⟩ { w with heap := w.heap.push (.cells v.cells e) } := by
  simp [newVar, run_newRow]

theorem run_loadVar_agg {t : TypeId} {w : World} {a : Addr} {cs : Array Value} (hb : aggB P t = some true) (h : row w.heap a (szOf P t) = some cs) :
    (loadVar t a).run P w = .ok (.agg cs) w := by
  obtain ⟨h1, i, hi⟩ := run_agg hb w
  simp [loadVar, h1, run_size hi, run_row h]
theorem run_loadVar_one {t : TypeId} {w : World} {a : Addr} {v : Value} (hb : aggB P t = some false) (h : cell w.heap a = some v) :
    (loadVar t a).run P w = .ok v w := by
  obtain ⟨h1, i, hi⟩ := run_agg hb w
  simp only [loadVar, Sem.run_bind, h1, Result.andThen_ok, Bool.false_eq_true, if_false]
  exact run_load_h h

theorem exTy_elim {T : Ty} {K : Value → Prop} (h : exTy T K) : ∃ v, K v := by
  cases T <;> simp only [exTy] at h
  case int => exact h.imp' _ fun _ h => h
  case bool => exact h.imp' _ fun _ h => h
  case str => exact h.imp' _ fun _ h => h
  case ptr => exact h.imp' _ fun _ h => h
  case slice => obtain ⟨p, l, c, h⟩ := h; exact ⟨_, h⟩
  case map => exact h.imp' _ fun _ h => h
  case agg => obtain ⟨cs, _, h⟩ := h; exact ⟨_, h⟩
  case raw => exact h
  case addr => exact h.imp' _ fun _ h => h
  case blk => exact h.imp' _ fun _ h => h

theorem exTy_mono {T : Ty} {K K' : Value → Prop} (hk : ∀ v, K v → K' v) (h : exTy T K) : exTy T K' := by
  cases T <;> simp only [exTy] at h ⊢
  case int => exact h.imp fun _ h => hk _ h
  case bool => exact h.imp fun _ h => hk _ h
  case str => exact h.imp fun _ h => hk _ h
  case ptr => exact h.imp fun _ h => hk _ h
  case slice => obtain ⟨p, l, c, h⟩ := h; exact ⟨p, l, c, hk _ h⟩
  case map => exact h.imp fun _ h => hk _ h
  case agg => obtain ⟨cs, h0, h⟩ := h; exact ⟨cs, h0, hk _ h⟩
  case raw => exact h.imp fun _ h => hk _ h
  case addr => exact h.imp fun _ h => hk _ h
  case blk => exact h.imp fun _ h => hk _ h

theorem exTys_elim : ∀ {ts : List TypeId} {K : List Value → Prop}, exTys P ts K → ∃ vs, K vs
  | [], K, h => ⟨[], h⟩
  | t :: ts, K, h => by
    obtain ⟨v, h⟩ := exTy_elim h
    obtain ⟨vs, h⟩ := exTys_elim h
    exact ⟨v :: vs, h⟩

theorem back_elim {t : TypeId} {v : Value} {K : Value → Prop} (h : back P t v K) : K v := by
  unfold back at h
  split at h
  · obtain ⟨vs, h1, h2⟩ := exTys_elim h; rw [h1]; exact h2
  · obtain ⟨x, h1, h2⟩ := exTy_elim h; rw [h1]; exact h2

theorem exTys_mono : ∀ {ts : List TypeId} {K K' : List Value → Prop}, (∀ v, K v → K' v) → exTys P ts K → exTys P ts K'
  | [], K, K', hk, h => hk _ h
  | t :: ts, K, K', hk, h => exTy_mono (fun v h => exTys_mono (fun vs h => hk _ h) h) h

theorem back_mono {t : TypeId} {v : Value} {K K' : Value → Prop} (hk : ∀ v, K v → K' v) (h : back P t v K) : back P t v K' := by
  unfold back at *
  split
  · rename_i ts ht; simp only [ht] at h
    exact exTys_mono (fun vs h => ⟨h.1, hk _ h.2⟩) h
  · rename_i hn
    split at h
    · rename_i ts ht; exact (hn ts ht).elim
    · exact exTy_mono (fun x h => ⟨h.1, hk _ h.2⟩) h

/-- What an operation of the code does, seen from the heap. -/
def Gives (P : Program) (o : Oper) (a : Act) (w : World) (K : Value → Heap → Prop) : Prop :=
  match (execOp a.eval o).run P w with
  | .ok (.value v) w' => Rest w w' ∧ K v w'.heap
  | .ok .skip w' => Rest w w' ∧ K undef w'.heap
  | .ok (.enter f args) w' => w' = w ∧ CallsH P f args w.heap K
  | _ => False

theorem Gives.value {o : Oper} {a : Act} {w w' : World} {v : Value} {K : Value → Heap → Prop} (h : (execOp a.eval o).run P w = .ok (.value v) w') (hr : Rest w w') (hk : K v w'.heap) : Gives P o a w K := by
  unfold Gives; rw [h]; exact ⟨hr, hk⟩
theorem Gives.skip {o : Oper} {a : Act} {w w' : World} {K : Value → Heap → Prop} (h : (execOp a.eval o).run P w = .ok .skip w') (hr : Rest w w') (hk : K undef w'.heap) : Gives P o a w K := by
  unfold Gives; rw [h]; exact ⟨hr, hk⟩

theorem Rest.refl (w : World) : Rest w w := ⟨rfl, rfl, rfl⟩
theorem Rest.trans {w w' w'' : World} (h : Rest w w') (h' : Rest w' w'') : Rest w w'' := ⟨h'.1.trans h.1, h'.2.1.trans h.2.1, h'.2.2.trans h.2.2⟩

/-- The frame holds what the environment says. -/
def Sim (a : Act) (ρ : Env) : Prop := ∀ t v, ρ.get? t = some v → a.tmps.getD t undef = v

theorem Sim.opv {a : Act} {ρ : Env} (hs : Sim a ρ) : ∀ {x : Operand} {v : Value}, opv ρ x = some v → a.eval x = v
  | .tmp t, v, h => hs t v h
  | .const u, v, h => by simp only [Vc.opv, Option.some.injEq] at h; subst h; rfl
  | .global g, v, h => by simp only [Vc.opv, Option.some.injEq] at h; subst h; rfl
  | .func f, v, h => by simp only [Vc.opv, Option.some.injEq] at h; subst h; rfl

theorem Sim.opvs {a : Act} {ρ : Env} (hs : Sim a ρ) : ∀ {xs : List Operand} {vs : List Value}, opvs ρ xs = some vs → xs.map a.eval = vs
  | [], vs, h => by simp only [Vc.opvs, Option.some.injEq] at h; subst h; rfl
  | x :: r, vs, h => by
    simp only [Vc.opvs] at h
    split at h
    · rename_i v vs' h1 h2
      simp only [Option.some.injEq] at h; subst h
      simp [hs.opv h1, hs.opvs h2]
    · cases h

theorem Sim.pairs {a : Act} {ρ : Env} (hs : Sim a ρ) : ∀ {xs : List (Nat × Operand)} {vs : List (Nat × Value)}, pairs ρ xs = some vs → xs.map (fun (i, x) => (i, a.eval x)) = vs
  | [], vs, h => by simp only [Vc.pairs, Option.some.injEq] at h; subst h; rfl
  | (i, x) :: r, vs, h => by
    simp only [Vc.pairs] at h
    split at h
    · rename_i v vs' h1 h2
      simp only [Option.some.injEq] at h; subst h
      simp [hs.opv h1, hs.pairs h2]
    · cases h

theorem Sim.opvo {a : Act} {ρ : Env} (hs : Sim a ρ) : ∀ {x : Option Operand} {v : Option Value}, opvo ρ x = some v → x.map a.eval = v
  | none, v, h => by simp only [Vc.opvo, Option.some.injEq] at h; subst h; rfl
  | some x, v, h => by
    simp only [Vc.opvo] at h
    obtain ⟨u, hu, rfl⟩ := Option.map_eq_some_iff.1 h
    simp [hs.opv hu]

theorem withV_elim {o : Option Value} {K : Value → Prop} (h : withV o K) : ∃ v, o = some v ∧ K v := by
  cases o with
  | none => exact h.elim
  | some v => exact ⟨v, rfl, h⟩
theorem withI_elim {o : Option Value} {K : Int → Prop} (h : withI o K) : ∃ k n, o = some (.int k n) ∧ K n := by
  unfold withI at h
  split at h
  · exact ⟨_, _, rfl, h⟩
  · exact h.elim

end
end Go.Vc
/- The calculus of XVcA is sound: every operation that it takes. -/
set_option linter.unusedVariables false
namespace Go.Vc

section
variable {P : Program} {o : Oper} {a : Act} {w : World} {ρ : Env} {K : Value → Heap → Prop}

theorem eqGuard_run {op : BinOp} {t : TypeId} {x y : Value} {xo yo : Operand} (h1 : ∀ xs ys, ¬ (x = .agg xs ∧ y = .agg ys)) (h2 : ¬ (x = .nilIface ∧ y = .nilIface)) :
    (eqGuard op t xo yo x y).run P w = .ok () w := by
  unfold eqGuard
  generalize (!(match op with | .eql | .neq => true | _ => false)) = b
  cases b
  · simp only [Bool.false_eq_true, if_false]
    cases x <;> cases y <;> first | rfl | exact (h2 ⟨rfl, rfl⟩).elim | exact (h1 _ _ ⟨rfl, rfl⟩).elim
  · rfl

theorem bin_sound {op : BinOp} {t : TypeId} {x y : Value} {xo yo : Operand} {K : Value → Prop} (hnagg : ∀ xs ys, ¬ (x = .agg xs ∧ y = .agg ys)) (h : binVc P op t x y K) :
    ∃ v, (do eqGuard op t xo yo x y; binOp op t x y : Sem Value).run P w = .ok v w ∧ K v := by
  have eqG : ∀ (c : Prop), (∀ xs ys, ¬ (x = .agg xs ∧ y = .agg ys)) → ¬ (x = .nilIface ∧ y = .nilIface) → (eqGuard op t xo yo x y).run P w = .ok () w := fun _ => eqGuard_run
  have ptrEq : ∀ (p q : Option Addr) (K : Bool → Prop) (ht : ∃ e, P.underlying t = some (.pointer e)), nilEq p q K → ∃ r, (Op.equal t (.pointer p) (.pointer q)).run P w = .ok r w ∧ K r := by
    rintro p q K ⟨e, he⟩ hn
    unfold Op.equal Op.maxDepth
    rw [Op.equalIn]
    cases q with
    | none => exact ⟨_, by cases p <;> simp [run_underlying he], hn⟩
    | some q => cases p with
      | none => exact ⟨_, by simp [run_underlying he], hn⟩
      | some p => exact hn.elim
  have slEq : ∀ (p q : Option Addr) (K : Bool → Prop) (ht : ∃ e, P.underlying t = some (.slice e)), nilEq p q K → ∃ r, (∀ l c l' c', (Op.equal t (.slice p l c) (.slice q l' c')).run P w = .ok r w) ∧ K r := by
    rintro p q K ⟨e, he⟩ hn
    unfold Op.equal Op.maxDepth
    cases q with
    | none => exact ⟨_, fun l c l' c' => by rw [Op.equalIn]; cases p <;> simp [run_underlying he], hn⟩
    | some q => cases p with
      | none => exact ⟨_, fun l c l' c' => by rw [Op.equalIn]; simp [run_underlying he], hn⟩
      | some p => exact hn.elim
  have boolEq : ∀ (p q : Bool) (ht : P.underlying t = some .bool), (Op.equal t (.bool p) (.bool q)).run P w = .ok (p == q) w := by
    rintro p q he
    unfold Op.equal Op.maxDepth
    rw [Op.equalIn]
    simp [run_underlying he]
  unfold binVc at h
  split at h
  · obtain ⟨h0, h⟩ := h
    refine ⟨_, ?_, h⟩
    simp only [Sem.run_bind]
    rw [eqG True (by simp) (by simp)]
    simp [binOp, Op.shift, shlI, Int.not_lt.2 h0]
  · obtain ⟨h0, h⟩ := h
    refine ⟨_, ?_, h⟩
    simp only [Sem.run_bind]
    rw [eqG True (by simp) (by simp)]
    simp [binOp, Op.shift, shrI, Int.not_lt.2 h0]
  · rename_i k m k' n hne1 hne2
    have hne1 : op ≠ .shl := hne1
    have hne2 : op ≠ .shr := hne2
    split at h
    · rename_i hk
      subst hk
      simp only [Sem.run_bind]
      rw [eqG True (by simp) (by simp)]
      simp only [Result.andThen_ok]
      unfold intVc at h
      cases op <;> simp only [cmpB] at h
      case quo => exact ⟨_, by simp [binOp, Op.intDiv, h.1], h.2⟩
      case rem => exact ⟨_, by simp [binOp, Op.intDiv, h.1], h.2⟩
      case andNot => exact ⟨_, by simp [binOp, Op.intBits, andNotI], h⟩
      case and => exact ⟨_, by simp [binOp, Op.intBits, andI], h⟩
      case or => exact ⟨_, by simp [binOp, Op.intBits, orI], h⟩
      case xor => exact ⟨_, by simp [binOp, Op.intBits, xorI], h⟩
      case add => exact ⟨_, by simp [binOp, Op.intArith], h⟩
      case sub => exact ⟨_, by simp [binOp, Op.intArith], h⟩
      case mul => exact ⟨_, by simp [binOp, Op.intArith], h⟩
      all_goals exact ⟨_, by simp [binOp, Op.intCmp], h⟩
    · exact h.elim
  all_goals first
    | (refine ⟨_, ?_, h⟩
       simp only [Sem.run_bind]
       rw [eqG True (by simp) (by simp)]
       simp only [Result.andThen_ok, binOp, Op.stringOp, Sem.run_pure]
       done)
    | (split at h
       · rename_i ht
         refine ⟨_, ?_, h⟩
         simp only [Sem.run_bind]
         rw [eqG True (by simp) (by simp)]
         simp only [Result.andThen_ok, binOp, Sem.run_bind]
         first
           | (rw [boolEq _ _ ht]; done)
           | (rw [boolEq _ _ ht]; rfl)
       · exact h.elim)
    | (split at h
       · rename_i ht
         obtain ⟨r, hr, hk⟩ := ptrEq _ _ _ ⟨_, ht⟩ h
         refine ⟨_, ?_, hk⟩
         simp only [Sem.run_bind]
         rw [eqG True (by simp) (by simp)]
         simp only [Result.andThen_ok, binOp, Sem.run_bind, hr, Sem.run_pure]
       · exact h.elim)
    | (split at h
       · rename_i ht
         obtain ⟨r, hr, hk⟩ := slEq _ _ _ ⟨_, ht⟩ h
         refine ⟨_, ?_, hk⟩
         simp only [Sem.run_bind]
         rw [eqG True (by simp) (by simp)]
         simp only [Result.andThen_ok, binOp, Sem.run_bind, hr, Sem.run_pure]
       · exact h.elim)
    | exact h.elim
    | exact (hnagg _ _ ⟨rfl, rfl⟩).elim
end
end Go.Vc
/- The calculus of XVcA is sound: slices, parts, what is put together, builtins. -/
set_option linter.unusedVariables false
namespace Go.Vc

section
variable {P : Program} {w : World}

theorem part_sound {t : TypeId} {cs : Array Value} {off : Nat} {K : Value → Prop} (h : partVc P t cs off K) :
    ∃ v, (part t cs off).run P w = .ok v w ∧ K v := by
  unfold partVc at h
  split at h
  · rename_i hb
    obtain ⟨h1, i, hi⟩ := run_agg hb w
    exact ⟨_, by simp [part, h1, run_size hi], h⟩
  · rename_i hb
    obtain ⟨h1, i, hi⟩ := run_agg hb w
    obtain ⟨v, hv, hk⟩ := exTy_elim h
    exact ⟨v, by simp [part, h1, hv], hk⟩
  · exact h.elim

theorem getAt_eq {α : Type} : ∀ (l : List α) (n : Nat), getAt l n = l[n]?
  | [], n => by simp [getAt]
  | x :: r, 0 => rfl
  | x :: r, n + 1 => by simp [getAt, getAt_eq r n]

theorem splice_list (off : Nat) : ∀ (l : List Value) (k : Nat) (acc : List Value), off + k + l.length ≤ acc.length →
    (l.zipIdx k).foldl (fun acc (x : Value × Nat) => acc.set (off + x.2) x.1) acc = acc.take (off + k) ++ (l ++ acc.drop (off + k + l.length))
  | [], k, acc, _ => by simp
  | v :: l, k, acc, h => by
    simp only [List.length_cons] at h
    simp only [List.zipIdx_cons, List.foldl_cons]
    rw [splice_list off l (k + 1) _ (by simp; omega)]
    have h1 : (acc.set (off + k) v).take (off + (k + 1)) = acc.take (off + k) ++ [v] := by
      rw [show off + (k + 1) = off + k + 1 from by omega, List.take_succ_eq_append_getElem (by simp; omega), List.take_set, List.set_eq_of_length_le (by simp; omega)]
      simp
    have h2 : (acc.set (off + k) v).drop (off + (k + 1) + l.length) = acc.drop (off + k + (l.length + 1)) := by
      rw [List.drop_set_of_lt (by omega)]
      congr 1
      omega
    rw [h1, h2]
    simp

theorem splice_fill (cells cs : Array Value) (off : Nat) (hfit : off + cs.size ≤ cells.size) :
    cs.zipIdx.foldl (fun acc (x : Value × Nat) => acc.setIfInBounds (off + x.2) x.1) cells = cells.extract 0 off ++ (cs ++ cells.extract (off + cs.size) cells.size) := by
  have hom : ∀ (l : List (Value × Nat)) (acc : Array Value), (l.foldl (fun acc (x : Value × Nat) => acc.setIfInBounds (off + x.2) x.1) acc).toList = l.foldl (fun acc (x : Value × Nat) => acc.set (off + x.2) x.1) acc.toList := by
    intro l
    induction l with
    | nil => intro acc; rfl
    | cons x l ih => intro acc; simp only [List.foldl_cons]; rw [ih]; simp
  apply Array.toList_inj.1
  rw [← Array.foldl_toList, Array.toList_zipIdx, hom]
  rw [splice_list off cs.toList 0 cells.toList (by simpa using hfit)]
  simp [Array.toList_extract, List.extract]
  exact (List.take_of_length_le (by simp)).symm

theorem setAt_eq : ∀ (l : List (List Value)) (n : Nat) (v : List Value), setAt l n v = l.set n v
  | [], n, v => by simp [setAt]
  | x :: r, 0, v => rfl
  | x :: r, n + 1, v => by simp [setAt, setAt_eq r n v]

theorem chunk_flat : ∀ (ns : List Nat) (l : List Value), ns.sum = l.length → flat (chunk ns l) = l
  | [], l, h => by
    have : l = [] := List.eq_nil_of_length_eq_zero (by simpa using h.symm)
    subst this; rfl
  | n :: ns, l, h => by
    simp only [List.sum_cons] at h
    simp only [chunk, flat]
    rw [chunk_flat ns (l.drop n) (by simp; omega), List.take_append_drop]

theorem chunk_lengths : ∀ (ns : List Nat) (l : List Value), ns.sum = l.length → (chunk ns l).map List.length = ns
  | [], l, h => rfl
  | n :: ns, l, h => by
    simp only [List.sum_cons] at h
    simp only [chunk, List.map_cons, List.length_take]
    rw [chunk_lengths ns (l.drop n) (by simp; omega), Nat.min_eq_left (by omega)]

/-- Where part i lies, if the parts lie one behind the other. -/
theorem tiles_off : ∀ (pl : List (Nat × Nat)) (off i o s : Nat), tilesB off pl = true → getAt pl i = some (o, s) → o = off + ((pl.map (·.2)).take i).sum
  | [], off, i, o, s, _, h => by cases i <;> simp [getAt] at h
  | (o', s') :: r, off, 0, o, s, h, h' => by
    simp only [tilesB, Bool.and_eq_true] at h
    simp only [getAt, Option.some.injEq, Prod.mk.injEq] at h'
    have := Nat.eq_of_beq_eq_true h.1
    simp; omega
  | (o', s') :: r, off, i + 1, o, s, h, h' => by
    simp only [tilesB, Bool.and_eq_true] at h
    simp only [getAt] at h'
    have := tiles_off r (off + s') i o s h.2 h'
    simp; omega

theorem splice_flat : ∀ (ch : List (List Value)) (i : Nat) (new : List Value) (old : List Value), ch[i]? = some old → old.length = new.length →
    (flat ch).take ((ch.map List.length).take i).sum ++ (new ++ (flat ch).drop (((ch.map List.length).take i).sum + new.length)) = flat (ch.set i new)
  | [], i, new, old, h, _ => by simp at h
  | c :: ch, 0, new, old, h, hl => by
    simp only [List.getElem?_cons_zero, Option.some.injEq] at h
    subst h
    simp [flat, ← hl]
  | c :: ch, i + 1, new, old, h, hl => by
    simp only [List.getElem?_cons_succ] at h
    have := splice_flat ch i new old h hl
    simp only [flat, List.map_cons, List.take_succ_cons, List.sum_cons, List.set_cons_succ, ← this, List.take_append, List.drop_append]
    rw [List.take_of_length_le (by omega), List.drop_eq_nil_of_le (by omega)]
    simp [Nat.add_assoc]

theorem fill_sound {pl : List (Nat × Nat)} (ht : tilesB 0 pl = true) {place : Nat → Option (Nat × Nat)} (hplace : ∀ i x, getAt pl i = some x → place i = some x) : ∀ (ps : List (Nat × Value)) (ch : List (List Value)) (K : List (List Value) → Prop),
    ch.map List.length = pl.map (·.2) → fillVc pl ch ps K → ∃ ch', Instr.fill place (flat ch).toArray ps = some (flat ch').toArray ∧ K ch'
  | [], ch, K, _, h => ⟨ch, rfl, h⟩
  | (i, v) :: r, ch, K, hlen, h => by
    unfold fillVc at h
    unfold Instr.fill
    cases hpl : getAt pl i with
    | none => rw [hpl] at h; exact h.elim
    | some os =>
      obtain ⟨off, size⟩ := os
      rw [hpl] at h
      rw [hplace i _ hpl]
      simp only at h ⊢
      have hoff := tiles_off pl 0 i off size ht hpl
      rw [← hlen] at hoff
      simp only [Nat.zero_add] at hoff
      have hsz : (ch.map List.length)[i]? = some size := by
        rw [hlen, List.getElem?_map, ← getAt_eq, hpl]; rfl
      rw [List.getElem?_map] at hsz
      obtain ⟨old, hold, hol⟩ := Option.map_eq_some_iff.1 hsz
      have hbound : off + size ≤ (flat ch).length := by
        have hfl : ∀ (ch : List (List Value)), (flat ch).length = (ch.map List.length).sum := by
          intro ch; induction ch with
          | nil => rfl
          | cons c ch ih => simp [flat, ih]
        have hsum : ∀ (ns : List Nat) (i n : Nat), ns[i]? = some n → (ns.take i).sum + n ≤ ns.sum := by
          intro ns
          induction ns with
          | nil => intro i n h; simp at h
          | cons m ns ih => intro i n h; cases i with
            | zero => simp at h; subst h; simp
            | succ i => simp only [List.getElem?_cons_succ] at h; have := ih i n h; simp; omega
        rw [hfl, hoff]
        exact hsum _ i size (by rw [List.getElem?_map, hold]; simp [hol])
      have step : ∀ (cs : Array Value), cs.size = size → cs.zipIdx.foldl (fun acc (x : Value × Nat) => acc.setIfInBounds (off + x.2) x.1) (flat ch).toArray = (flat (setAt ch i cs.toList)).toArray := by
        intro cs hcs
        rw [splice_fill _ cs off (by simp; omega)]
        rw [setAt_eq, ← splice_flat ch i cs.toList old hold (by simp [hol, hcs])]
        rw [← hoff]
        apply Array.toList_inj.1
        simp [List.extract]
        exact List.take_of_length_le (by simp)
      have hlen' : ∀ (cs : Array Value), cs.size = size → (setAt ch i cs.toList).map List.length = pl.map (·.2) := by
        intro cs hcs
        rw [setAt_eq, ← hlen, List.map_set]
        apply List.ext_getElem?
        intro j
        rw [List.getElem?_set]
        split
        · rename_i hij; subst hij
          rw [List.getElem?_map, hold]
          have hlt : i < ch.length := by
            rcases Nat.lt_or_ge i ch.length with h' | h'
            · exact h'
            · rw [List.getElem?_eq_none h'] at hold; cases hold
          simp [hol, hcs, hlt]
        · rfl
      split at h
      · rename_i cs
        obtain ⟨hs, h⟩ := h
        have hc : (Value.agg cs).cells = cs := rfl
        have hf : (decide ((Value.agg cs).cells.size ≠ size) || decide (off + (Value.agg cs).cells.size > (flat ch).toArray.size)) = false := by
          rw [hc, hs]; simp; omega
        simp only [hf, Bool.false_eq_true, if_false]
        rw [hc, step cs hs]
        exact fill_sound ht hplace r _ K (hlen' cs hs) h
      · rename_i hna
        split at h
        · rename_i hb
          have hs := Nat.eq_of_beq_eq_true hb
          subst hs
          have hc : v.cells = #[v] := by cases v <;> first | rfl | exact (hna _ rfl).elim
          have hf : (decide (v.cells.size ≠ 1) || decide (off + v.cells.size > (flat ch).toArray.size)) = false := by
            rw [hc]; simp; omega
          simp only [hf, Bool.false_eq_true, if_false]
          rw [hc, step #[v] rfl]
          exact fill_sound ht hplace r _ K (hlen' #[v] rfl) h
        · exact h.elim

theorem parts_sound {pl : List (Nat × Nat)} {zero : List Value} {ps : List (Nat × Value)} {K : List Value → Prop} (h : partsVc pl zero ps K)
    {place : Nat → Option (Nat × Nat)} (hplace : ∀ i x, getAt pl i = some x → place i = some x) :
    ∃ l, Instr.fill place zero.toArray ps = some l.toArray ∧ K l := by
  unfold partsVc at h
  split at h
  · rename_i hb
    simp only [Bool.and_eq_true] at hb
    have hsum := Nat.eq_of_beq_eq_true hb.2
    obtain ⟨ch, hf, hk⟩ := fill_sound hb.1 hplace ps _ _ (chunk_lengths _ _ hsum) h
    rw [chunk_flat _ _ hsum] at hf
    exact ⟨_, hf, hk⟩
  · exact h.elim

theorem evens_getAt (size : Nat) : ∀ (n off i : Nat) (x : Nat × Nat), getAt (evens size n off) i = some x → x = (off + i * size, size)
  | 0, off, i, x, h => by cases i <;> simp [evens, getAt] at h
  | n + 1, off, 0, x, h => by simp [evens, getAt] at h; simp [h]
  | n + 1, off, i + 1, x, h => by
    simp only [evens, getAt] at h
    rw [evens_getAt size n (off + size) i x h]
    simp [Nat.succ_mul]; omega

end
end Go.Vc
/- The calculus of XVcA is sound: slices, indexes, builtins; every operation but a comparison of arrays or structs. -/
set_option linter.unusedVariables false
namespace Go.Vc

section
variable {P : Program} {w : World}

theorem bounds_sound {isS : Bool} {sz len cap : Nat} {p : Option Addr} {lo hi mx : Option Value} {K : Value → Prop} (h : cutVc sz p len cap lo hi mx K) :
    ∃ l h' m : Nat, (Instr.sliceBounds isS len cap lo hi mx).run P w = .ok (l, h', m) w ∧ K (.slice (if m = l then p else p.map (·.add (l * sz))) (h' - l) (m - l)) := by
  have fin : ∀ (l h m : Int), sliceP sz p l h m cap (fun p l c => K (.slice p l c)) → 0 ≤ l ∧ l ≤ h ∧ h ≤ m ∧ m ≤ cap ∧ K (.slice (if m.toNat = l.toNat then p else p.map (·.add (l.toNat * sz))) (h.toNat - l.toNat) (m.toNat - l.toNat)) := fun _ _ _ h => h
  unfold cutVc at h
  simp only at h
  split at h
  · rename_i km m
    cases hi with
    | none => exact h.elim
    | some hv =>
      simp only at h
      split at h
      · rename_i kl l
        split at h
        · rename_i kk hh hx
          simp only [Option.some.injEq] at hx
          subst hx
          obtain ⟨h0, h1, h2, h3, hk⟩ := fin _ _ _ h
          refine ⟨l.toNat, hh.toNat, m.toNat, ?_, hk⟩
          simp [Instr.sliceBounds, run_sliceBound, show (0:Int) ≤ m by omega, h3, show (0:Int) ≤ hh by omega, h0, Int.toNat_of_nonneg (show (0:Int) ≤ m by omega), Int.toNat_of_nonneg (show (0:Int) ≤ hh by omega), h1, h2]
        · rename_i hx; exact absurd hx (by simp)
        · exact h.elim
      · split at h
        · rename_i kk hh hx
          simp only [Option.some.injEq] at hx
          subst hx
          obtain ⟨h0, h1, h2, h3, hk⟩ := fin _ _ _ h
          refine ⟨0, hh.toNat, m.toNat, ?_, by simpa using hk⟩
          simp [Instr.sliceBounds, run_sliceBound, show (0:Int) ≤ m by omega, h3, show (0:Int) ≤ hh by omega, Int.toNat_of_nonneg (show (0:Int) ≤ m by omega), h2]
        · rename_i hx; exact absurd hx (by simp)
        · exact h.elim
      · exact h.elim
  · split at h
    · rename_i kl l
      split at h
      · rename_i kh hh
        obtain ⟨h0, h1, h2, h3, hk⟩ := fin _ _ _ h
        refine ⟨l.toNat, hh.toNat, cap, ?_, by simpa using hk⟩
        simp [Instr.sliceBounds, run_sliceBound, h2, show (0:Int) ≤ hh by omega, h0, Int.toNat_of_nonneg (show (0:Int) ≤ hh by omega), h1]
      · obtain ⟨h0, h1, h2, h3, hk⟩ := fin _ _ _ h
        refine ⟨l.toNat, len, cap, ?_, by simpa using hk⟩
        simp [Instr.sliceBounds, run_sliceBound, h0, h1]
      · exact h.elim
    · split at h
      · rename_i kh hh
        obtain ⟨h0, h1, h2, h3, hk⟩ := fin _ _ _ h
        refine ⟨0, hh.toNat, cap, ?_, by simpa using hk⟩
        simp [Instr.sliceBounds, run_sliceBound, h2, show (0:Int) ≤ hh by omega]
      · obtain ⟨h0, h1, h2, h3, hk⟩ := fin _ _ _ h
        refine ⟨0, len, cap, ?_, by simpa using hk⟩
        simp [Instr.sliceBounds]
      · exact h.elim
    · exact h.elim
  · exact h.elim

theorem slice_sound {t : TypeId} {x : Value} {lo hi mx : Option Value} {K : Value → Prop} (h : sliceVc P t x lo hi mx K) :
    ∃ v, (Instr.sliceAt t x lo hi mx).run P w = .ok v w ∧ K v := by
  unfold sliceVc at h
  split at h
  · rename_i n e a ht
    split at h
    · rename_i i hi'
      obtain ⟨l, h', m, hr, hk⟩ := bounds_sound (P := P) (w := w) (isS := false) h
      refine ⟨_, ?_, hk⟩
      simp only [Instr.sliceAt, Sem.run_bind, run_underlying ht, Result.andThen_ok, Instr.sureAddr, Sem.run_pure, hr, run_size hi', szOf_of hi']
      split <;> rfl
    · exact h.elim
  · rename_i e p l c ht
    split at h
    · rename_i i hi'
      obtain ⟨l, h', m, hr, hk⟩ := bounds_sound (P := P) (w := w) (isS := true) h
      refine ⟨_, ?_, hk⟩
      simp only [Instr.sliceAt, Instr.slice, Sem.run_bind, run_underlying ht, Result.andThen_ok, Sem.run_pure, hr, run_size hi', szOf_of hi']
    · exact h.elim
  · exact h.elim

theorem deref_elim {p : Option Addr} {K : Addr → Prop} (h : deref p K) : ∃ a, p = some a ∧ K a := by
  cases p with
  | none => exact h.elim
  | some a => exact ⟨a, rfl, h⟩

theorem indexAddr_sound {t : TypeId} {x : Value} {k : IntKind} {i : Int} {K : Value → Prop} (h : indexAddrVc P t x i K) :
    ∃ v, (Instr.indexAt t x (.int k i)).run P w = .ok v w ∧ K v := by
  unfold indexAddrVc at h
  split at h
  · rename_i n e a ht
    split at h
    · rename_i j hj
      obtain ⟨h0, h1, hk⟩ := h
      refine ⟨_, ?_, hk⟩
      simp [Instr.indexAt, asIntOf, run_underlying ht, Instr.sureAddr, h0, h1, run_size hj, szOf_of hj]
    · exact h.elim
  · rename_i e p n c ht
    split at h
    · rename_i j hj
      obtain ⟨h0, h1, h⟩ := h
      obtain ⟨a, rfl, hk⟩ := deref_elim h
      refine ⟨_, ?_, hk⟩
      simp [Instr.indexAt, asIntOf, run_underlying ht, h0, h1, run_size hj, szOf_of hj]
    · exact h.elim
  · exact h.elim

theorem index_sound {t : TypeId} {x : Value} {k : IntKind} {i : Int} {K : Value → Prop} (h : indexVc P t x i K) :
    ∃ v, (Instr.index t x (.int k i)).run P w = .ok v w ∧ K v := by
  unfold indexVc at h
  split at h
  · rename_i n e cs ht
    obtain ⟨h0, h1, h⟩ := h
    obtain ⟨v, hv, hk⟩ := part_sound (w := w) h
    refine ⟨v, ?_, hk⟩
    have hi : ∃ j, P.info? e = some j := by
      unfold partVc at h
      split at h
      · rename_i hb; exact (run_agg hb w).2
      · rename_i hb; exact (run_agg hb w).2
      · exact h.elim
    obtain ⟨j, hj⟩ := hi
    simp [Instr.index, asIntOf, run_underlying ht, h0, h1, run_size hj, hv]
  · rename_i s ht
    obtain ⟨h0, b, h1, h⟩ := h
    refine ⟨_, ?_, h⟩
    simp [Instr.index, asIntOf, run_underlying ht, h0, h1]
  · exact h.elim

theorem mapM_list {α β : Type} {F : α → Sem β} {g : α → β} (w : World) : ∀ (l : List α), (∀ x ∈ l, (F x).run P w = .ok (g x) w) → (l.mapM F).run P w = .ok (l.map g) w
  | [], _ => by simp
  | x :: l, h => by
    rw [List.mapM_cons]
    simp only [Sem.run_bind, h x (by simp), Result.andThen_ok, mapM_list w l (fun y hy => h y (by simp [hy])), Sem.run_pure, List.map_cons]
theorem mapM_array {α β : Type} {F : α → Sem β} {g : α → β} (w : World) (l : Array α) (h : ∀ x ∈ l, (F x).run P w = .ok (g x) w) : (l.mapM F).run P w = .ok (l.map g) w := by
  rw [Array.mapM_eq_mapM_toList]
  simp only [Sem.run_map, mapM_list w l.toList (fun x hx => h x (Array.mem_toList_iff.1 hx)), Result.andThen_ok]
  congr 1
  apply Array.toList_inj.1
  simp

theorem build_sound {t : TypeId} {ps : List (Nat × Value)} {K : Array Value → Prop} (h : buildVc P t ps K) :
    ∃ cs, (Instr.build t ps.toArray).run P w = .ok (.agg cs) w ∧ K cs := by
  unfold buildVc at h
  split at h
  · rename_i fs z ht hz
    split at h
    · rename_i l hall hl
      simp only [List.all_eq_true] at hall
      have hinfo : ∀ f ∈ fs, ∃ i, P.info? f.type = some i := fun f hf => Option.isSome_iff_exists.1 (hall f (Array.mem_toList_iff.2 hf))
      unfold places at hl
      rw [ht] at hl
      simp only [Option.some.injEq] at hl
      subst hl
      have hm : (fs.mapM fun f => do pure (f.offset, ← sizeOf f.type) : Sem (Array (Nat × Nat))).run P w = .ok (fs.map fun f => (f.offset, szOf P f.type)) w :=
        mapM_array w fs fun f hf => by obtain ⟨i, hi⟩ := hinfo f hf; simp only [Sem.run_bind, run_size hi, Result.andThen_ok, Sem.run_pure]
      obtain ⟨l, hf, hk⟩ := parts_sound h (place := fun i => (fs.map fun f => (f.offset, szOf P f.type))[i]?) (fun i x hx => by rw [getAt_eq] at hx; simpa using hx)
      refine ⟨l.toArray, ?_, hk⟩
      simp only [Instr.build, Sem.run_bind, run_zero hz, run_underlying ht, Result.andThen_ok, hm, Array.toArray_toList] at hf ⊢
      rw [hf]
      rfl
    · exact h.elim
  · rename_i n e z ht hz
    split at h
    · rename_i i hi
      obtain ⟨l, hf, hk⟩ := parts_sound h (place := fun j => some (j * i.size, i.size)) (fun j x hx => by have := evens_getAt _ _ _ _ _ hx; simp [this])
      refine ⟨l.toArray, ?_, hk⟩
      simp only [Instr.build, Sem.run_bind, run_zero hz, run_underlying ht, Result.andThen_ok, run_size hi, szOf_of hi, Array.toArray_toList] at hf ⊢
      rw [hf]
      rfl
    · exact h.elim
  · exact h.elim

theorem zeros_eq (zero : Array Value) : ∀ (n : Nat), 0 < zero.size → (zerosL zero.toList n).toArray = (Array.range (n * zero.size)).map (zero[· % zero.size]!) := by
  intro n hz
  have key : ∀ n, zerosL zero.toList n = (List.range (n * zero.size)).map (zero[· % zero.size]!) := by
    intro n
    induction n with
    | zero => simp [zerosL]
    | succ n ih =>
      simp only [zerosL]
      rw [ih, show (n + 1) * zero.size = zero.size + n * zero.size from by rw [Nat.succ_mul]; omega, List.range_add, List.map_append, List.map_map]
      congr 1
      · apply List.ext_getElem?
        intro i
        by_cases hi : i < zero.size
        · simp [hi, Nat.mod_eq_of_lt hi]
        · simp [hi]
      · apply List.map_congr_left
        intro x _
        simp
  apply Array.toList_inj.1
  rw [key]
  simp

theorem buildSlice_sound {t : TypeId} {n : Nat} {ps : List (Nat × Value)} {K : Value → Heap → Prop} (h : buildSliceVc P t n ps w.heap K) :
    ∃ v w', (Instr.buildSlice t n ps.toArray).run P w = .ok v w' ∧ Rest w w' ∧ K v w'.heap := by
  unfold buildSliceVc at h
  split at h
  · rename_i e ht
    split at h
    · rename_i i z hi hz
      split at h
      · rename_i hb
        simp only [Bool.and_eq_true, Nat.blt_eq] at hb
        obtain ⟨⟨hle, hzs⟩, hpos⟩ := hb
        have hle := Nat.le_of_ble_eq_true hle
        have hzs := Nat.eq_of_beq_eq_true hzs
        have hip : 0 < i.size := Nat.pos_of_mul_pos_left hpos
        obtain ⟨l, hf, hk⟩ := parts_sound h (place := fun j => some (j * i.size, i.size)) (fun j x hx => by have := evens_getAt _ _ _ _ _ hx; simp [this])
        refine ⟨_, { w with heap := w.heap.push (.cells l.toArray e) }, ?_, ?_, hk _ _ rfl rfl⟩
        · rw [zeros_eq z.cells n (by omega), hzs] at hf
          have h24 : ¬ (n * i.size > 2 ^ 24) := by omega
          have h0 : ¬ (n * i.size = 0) := by omega
          simp only [Instr.buildSlice, Sem.run_bind, run_zero hz, run_underlying ht, Result.andThen_ok, run_size hi, szOf_of hi, h24, h0, if_false, Sem.run_pure, hzs]
          rw [hf]
          simp only [Sem.run_bind, run_newRow, Result.andThen_ok, Sem.run_pure]
        · exact ⟨rfl, rfl, rfl⟩
      · rename_i hb
        split at h
        · refine ⟨_, { w with heap := w.heap.push (.cells #[] e) }, ?_, ?_, h _ _ rfl rfl⟩
          · simp only [Instr.buildSlice, Sem.run_bind, run_underlying ht, Result.andThen_ok, run_size hi, Nat.zero_mul]
            have h0 : (Array.range 0).map (fun _ => (default : Value)) = #[] := by apply Array.toList_inj.1; simp
            simp [Instr.fill, run_newRow, h0]
          · exact ⟨rfl, rfl, rfl⟩
        · exact h.elim
    · exact h.elim
  · exact h.elim
end
end Go.Vc
/- The calculus of XVcA is sound: append, copy, make, conversions, builtins. -/
set_option linter.unusedVariables false
namespace Go.Vc

section
variable {P : Program} {w : World}

theorem src_size {h : Heap} {p : Option Addr} {n : Nat} {cs : Array Value} (e : src h p n = some cs) : cs.size = n ∨ (p = none ∧ cs = #[]) := by
  cases p with
  | none => simp only [src, Option.some.injEq] at e; exact .inr ⟨rfl, e.symm⟩
  | some a => exact .inl (row_size e)

theorem append_sound {t u ty e e' : TypeId} {z : Value} {p q : Option Addr} {l c n c' : Nat} {K : Value → Heap → Prop} (ht : P.underlying t = some (.slice e)) (hd : P.underlying u = some (.slice e'))
    (hz : zeroOf P e = some z) (h : appendP e (szOf P e) (bytesOf P e) z.cells p l c q n w.heap fun p l c h => K (.slice p l c) h) :
    ∃ v w', (Builtin.append_ #[t, u] ty #[.slice p l c, .slice q n c']).run P w = .ok v w' ∧ Rest w w' ∧ K v w'.heap := by
  obtain ⟨i, hi, hiz⟩ := info_of_zero hz
  obtain ⟨news, hsrc, hone, hroom, hgrow⟩ := h
  have hby : bytesOf P e = i.bytes := by simp [bytesOf, hi]
  have hf := run_src (P := P) (w := w) (n := n) (c := c') hsrc
  by_cases hc : l + n ≤ c
  · obtain ⟨hw, hk⟩ := hroom hc
    cases p with
    | none =>
      refine ⟨.slice none (l + n) c, w, ?_, Rest.refl w, hk _ rfl⟩
      simp only [Builtin.append_, List.getElem?_toArray, List.getElem?_cons_zero, List.getElem?_cons_succ, Sem.run_bind, run_underlying ht, run_underlying hd, Result.andThen_ok, run_size hi, Sem.run_pure, Bool.false_eq_true, if_false, Builtin.lenOf, hc, if_true, Bool.not_false, hf]
    | some a =>
      refine ⟨.slice (some a) (l + n) c, { w with heap := putRow w.heap (a.add (l * szOf P e)) 0 news.toList }, ?_, ?_, hk _ rfl⟩
      · have hst := run_putRow (P := P) (a.add (l * szOf P e)) news.toList 0 w (fun j hj => by
          rw [Nat.zero_add]
          refine hw a rfl j ?_
          rcases src_size hsrc with hs | ⟨rfl, rfl⟩
          · rw [← hs]; simpa using hj
          · simp at hj) hone
        simp only [Builtin.append_, List.getElem?_toArray, List.getElem?_cons_zero, List.getElem?_cons_succ, Sem.run_bind, run_underlying ht, run_underlying hd, Result.andThen_ok, run_size hi, Sem.run_pure, Bool.false_eq_true, if_false, Builtin.lenOf, hc, if_true, Bool.not_false, hf]
        rw [hst]
        rfl
      · exact ⟨rfl, rfl, rfl⟩
  · obtain ⟨h1, h2, old, hold, hk⟩ := hgrow (by omega)
    rw [hby] at h2
    have hfit := growslice_fits (need := l + n) (old := c) (by omega) h2
    have hfo := run_src (P := P) (w := w.drew) (c := c) (n := l) (show src w.drew.heap p (l * szOf P e) = some old from hold)
    have hfn := run_src (P := P) (w := w.drew) (c := c') (n := n) (show src w.drew.heap q (n * szOf P e) = some news from hsrc)
    have hge := grownCap_ge w (l + n) c e
    have hle := grownCap_le_maxLen w (l + n) c e h1
    refine ⟨.slice (some ⟨w.heap.size, 0, none⟩) (l + n) (grownCap w (l + n) c e), w.drew.alloc (.cells (old ++ news ++ Builtin.zeroCells z.cells (grownCap w (l + n) c e - (l + n))) e), ?_, ⟨rfl, rfl, rfl⟩, hk _ _ _ hge hle rfl rfl⟩
    have h48 : ¬ (Builtin.nextslicecap (l + n) c * i.bytes > 2 ^ 48) := by omega
    have h63 : ¬ (((l + n : Nat) : Int) > IntKind.i64.max ∧ (False ∨ i.bytes = 0)) := by
      intro hx
      have : IntKind.i64.max = 9223372036854775807 := rfl
      rw [this] at hx
      unfold maxLen at h1
      omega
    have hch : (choose (.appendCap (l + n) c e)).run P w = .ok (grownCap w (l + n) c e) w.drew := by
      rw [run_choose]; rfl
    simp only [Builtin.append_, List.getElem?_toArray, List.getElem?_cons_zero, List.getElem?_cons_succ, Sem.run_bind, run_underlying ht, run_underlying hd, Result.andThen_ok, run_size hi, Sem.run_pure, Bool.false_eq_true, if_false, Builtin.lenOf, hc, Bool.not_false, if_true, run_info hi, h63, h48, hch, run_askRoom, hfo, hfn, run_zero hz, run_newRow]
    rfl

theorem copy_sound {t u ty e : TypeId} {i : TypeInfo} {p q : Option Addr} {l c n c' : Nat} {K : Value → Heap → Prop} (ht : P.underlying t = some (.slice e)) (hi : P.info? e = some i)
    (h : copyP (szOf P e) p l q n w.heap fun n h => K (.int .i64 n) h) :
    ∃ v w', (Builtin.copy_ #[t, u] ty #[.slice p l c, .slice q n c']).run P w = .ok v w' ∧ Rest w w' ∧ K v w'.heap := by
  obtain ⟨news, hsrc, hone, hw, hk⟩ := h
  have hf := run_src (P := P) (w := w) (n := n) (c := c') hsrc
  cases p with
  | none =>
    refine ⟨_, w, ?_, Rest.refl w, hk _ rfl⟩
    simp only [Builtin.copy_, List.getElem?_toArray, List.getElem?_cons_zero, List.getElem?_cons_succ, Sem.run_bind, run_underlying ht, Result.andThen_ok, run_size hi, Sem.run_pure, Builtin.lenOf, hf]
    rfl
  | some a =>
    refine ⟨_, { w with heap := putRow w.heap a 0 news.toList }, ?_, ?_, hk _ rfl⟩
    · have hst := run_putRow (P := P) a news.toList 0 w (fun j hj => by
        rw [Nat.zero_add]
        refine hw a rfl j ?_
        rcases src_size hsrc with hs | ⟨rfl, rfl⟩
        · rw [← hs]; simpa using hj
        · simp at hj) hone
      simp only [Builtin.copy_, List.getElem?_toArray, List.getElem?_cons_zero, List.getElem?_cons_succ, Sem.run_bind, run_underlying ht, Result.andThen_ok, run_size hi, Sem.run_pure, Builtin.lenOf, hf]
      rw [hst]
      rfl
    · exact ⟨rfl, rfl, rfl⟩

theorem make_sound {t e : TypeId} {z : Value} {kl kc : IntKind} {l c : Int} {K : Value → Heap → Prop} (ht : P.underlying t = some (.slice e)) (hz : zeroOf P e = some z)
    (h : makeP e (szOf P e) (bytesOf P e) z.cells l c w.heap fun b h => K (.slice (some ⟨b, 0, none⟩) l.toNat c.toNat) h) :
    ∃ v w', (Instr.makeSlice t (.int kl l) (.int kc c)).run P w = .ok v w' ∧ Rest w w' ∧ K v w'.heap := by
  obtain ⟨i, hi, hiz⟩ := info_of_zero hz
  obtain ⟨h0, h1, h2, h3, hk⟩ := h
  have hby : bytesOf P e = i.bytes := by simp [bytesOf, hi]
  rw [hby] at h3
  have hcm : c ≤ 9223372036854775807 := by unfold maxLen at h2; omega
  have hlm : l ≤ 9223372036854775807 := by omega
  have wr : ∀ x : Int, 0 ≤ x → x ≤ 9223372036854775807 → IntKind.i64.wrap x = x := by
    intro x hx hx'
    unfold IntKind.wrap IntKind.bits IntKind.signed
    simp only
    rw [Int.emod_eq_of_lt hx (by omega)]
    simp
    omega
  refine ⟨_, { w with heap := w.heap.push (.cells (if c.toNat * szOf P e = 0 then #[] else zeroRow z.cells (c.toNat * szOf P e)) e) }, ?_, ?_, hk _ _ rfl rfl⟩
  · have hneg : ¬ ((c < 0 || (i.bytes : Int) * c > 2 ^ 48) || l < 0 || l > c) = true := by
      simp; omega
    simp only [Instr.makeSlice, Sem.run_bind, run_underlying ht, Result.andThen_ok, asInt, asIntOf, Sem.run_pure, run_info hi, wr l h0 hlm, wr c (by omega) hcm]
    rw [Sem.run_ite]
    rw [if_neg (by simpa using hneg)]
    simp only [Sem.run_bind, run_askRoom, Result.andThen_ok, run_size hi]
    by_cases hn : c.toNat * szOf P e = 0
    · have e0 : ∀ f : Nat → Value, (Array.range 0).map f = #[] := fun f => by apply Array.toList_inj.1; simp
      simp only [hn, if_true, Sem.run_bind, Sem.run_pure, Result.andThen_ok, run_newRow, e0]
    · simp only [hn, if_false, Sem.run_bind, Sem.run_pure, Result.andThen_ok, run_newRow, run_zero hz]
      rfl
  · exact ⟨rfl, rfl, rfl⟩

theorem fold_min (k : IntKind) : ∀ (r : List Value) (a n : Int), foldI minI a r = some n → (r.foldlM Builtin.min2 (.int k a) : Sem Value).run P w = .ok (.int k n) w
  | [], a, n, h => by simp only [foldI, Option.some.injEq] at h; subst h; rfl
  | .int k' b :: r, a, n, h => by
    simp only [foldI] at h
    simp only [List.foldlM_cons, Sem.run_bind, Builtin.min2, Sem.run_pure, Result.andThen_ok]
    have := fold_min k r (minI a b) n h
    unfold minI at this
    exact this
theorem fold_max (k : IntKind) : ∀ (r : List Value) (a n : Int), foldI maxI a r = some n → (r.foldlM Builtin.max2 (.int k a) : Sem Value).run P w = .ok (.int k n) w
  | [], a, n, h => by simp only [foldI, Option.some.injEq] at h; subst h; rfl
  | .int k' b :: r, a, n, h => by
    simp only [foldI] at h
    simp only [List.foldlM_cons, Sem.run_bind, Builtin.max2, Sem.run_pure, Result.andThen_ok]
    have := fold_max k r (maxI a b) n h
    unfold maxI at this
    exact this

theorem builtin_sound {b : Builtin} {ts : List TypeId} {ty : TypeId} {consts : Array Bool} {args : List Value} {K : Value → Heap → Prop} (h : builtinVc P b ts args w.heap K) :
    ∃ v w', (builtin b ts.toArray ty consts args.toArray).run P w = .ok (.value v) w' ∧ Rest w w' ∧ K v w'.heap := by
  unfold builtinVc at h
  split at h
  · rename_i t x
    split at h
    · rename_i ht; exact ⟨_, w, by simp [builtin, Builtin.len_, run_underlying ht, goInt], Rest.refl w, h⟩
    · rename_i ht; exact ⟨_, w, by simp [builtin, Builtin.len_, run_underlying ht, goInt], Rest.refl w, h⟩
    · rename_i ht; exact ⟨_, w, by simp [builtin, Builtin.len_, run_underlying ht, goInt], Rest.refl w, h⟩
    · rename_i ht
      split at h
      · rename_i he; exact ⟨_, w, by simp [builtin, Builtin.len_, run_underlying ht, run_underlying he, goInt], Rest.refl w, h⟩
      · exact h.elim
    · exact h.elim
  · rename_i t x
    split at h
    · rename_i ht; exact ⟨_, w, by simp [builtin, Builtin.cap_, run_underlying ht, goInt], Rest.refl w, h⟩
    · exact h.elim
  · rename_i k a r
    split at h
    · rename_i n hn
      refine ⟨_, w, ?_, Rest.refl w, h⟩
      simp [builtin, Builtin.min_, fold_min k r a n hn]
    · exact h.elim
  · rename_i k a r
    split at h
    · rename_i n hn
      refine ⟨_, w, ?_, Rest.refl w, h⟩
      simp [builtin, Builtin.max_, fold_max k r a n hn]
    · exact h.elim
  · rename_i t u p l c q n c'
    split at h
    · rename_i e e' ht hu
      split at h
      · rename_i z hz
        obtain ⟨v, w', hr, hrest, hk⟩ := append_sound (ty := ty) (c' := c') ht hu hz h
        exact ⟨v, w', by simp [builtin, hr], hrest, hk⟩
      · exact h.elim
    · exact h.elim
  · rename_i t u p l c q n c'
    split at h
    · rename_i e ht
      split at h
      · rename_i i hi
        obtain ⟨v, w', hr, hrest, hk⟩ := copy_sound (u := u) (ty := ty) (c := c) (c' := c') ht hi h
        exact ⟨v, w', by simp [builtin, hr], hrest, hk⟩
      · exact h.elim
    · exact h.elim
  · exact h.elim

theorem freeze_mark {a : Addr} {c : Array Value} {t : TypeId} {f : Nat × Nat} (hb : w.heap[a.block]? = some (.cells c t f)) :
    (markStringish a).run P w = .ok () { w with heap := markH w.heap a } := by
  have hsh : w.shape? a.block = some (t, c.size) := by simp [World.shape?, hb]
  simp only [markStringish, Sem.run_bind, run_shape, Result.andThen_ok, hsh, run_freeze]
  unfold World.freeze markH
  simp only [hb]
  rw [if_neg (by decide)]
  rfl

theorem conv_sound {s d : TypeId} {x : Value} {K : Value → Heap → Prop} (h : convVc P s d x w.heap K) :
    ∃ v w', (convert s d x).run P w = .ok v w' ∧ Rest w w' ∧ K v w'.heap := by
  unfold convVc at h
  split at h
  · rename_i hs hd
    exact ⟨_, w, by simp [convert, run_underlying hs, run_underlying hd, Conv.intToInt], Rest.refl w, h⟩
  · rename_i e a l c hs hd
    split at h
    · rename_i hsd he
      obtain ⟨⟨t, n, hex⟩, hk⟩ := h
      have := Nat.eq_of_beq_eq_true hsd
      subst this
      rw [hs] at hd
      split at hex
      · rename_i c' t' f hb
        refine ⟨_, { w with heap := markH w.heap a }, ?_, ⟨rfl, rfl, rfl⟩, hk _ rfl⟩
        simp only [convert, Sem.run_bind, run_underlying hs, Result.andThen_ok]
        simp only [Option.some.injEq, TypeDesc.slice.injEq] at hd
        subst hd
        simp [run_underlying he, freeze_mark hb]
      · cases hex
    · exact h.elim
  · rename_i u e s hs hd
    split at h
    · rename_i he
      obtain ⟨hm, hk⟩ := h
      refine ⟨_, _, Lib.run_convert_string_bytes w _ _ e _ hs hd he, ⟨rfl, rfl, rfl⟩, hk _ _ _ (grownCap_ge w _ _ e) (grownCap_le_maxLen w _ _ e hm) rfl ?_⟩
      have hsz : (Lib.bytesCells w e s).size = grownCap w s.size 0 e := by
        have := grownCap_ge w s.size 0 e
        have hds : s.data.size = s.size := rfl
        simp [Lib.bytesCells, hds]; omega
      apply Array.ext_getElem?
      intro j
      by_cases hj : j < w.heap.size
      · rw [Lib.bytesWorld_at_old w e s j hj, Array.getElem?_push_lt hj, Array.getElem?_eq_getElem hj]
      · by_cases hj' : j = w.heap.size
        · subst hj'
          rw [Lib.bytesWorld_at_new, hsz, Array.getElem?_push_size]
          congr 2
          simp [Lib.bytesCells, bcs]
          apply Array.toList_inj.1; simp
        · rw [Array.getElem?_eq_none (by rw [Lib.bytesWorld_size]; omega), Array.getElem?_eq_none (by simp; omega)]
    · exact h.elim
  · rename_i e p l c hs hd
    split at h
    · rename_i he
      obtain ⟨xs, hx, hk⟩ := h
      refine ⟨_, w, ?_, Rest.refl w, hk⟩
      have hb : (Conv.bytesToString (.slice p l c)).run P w = .ok (.string ⟨xs.toArray⟩) w := by
        cases p with
        | none =>
          simp only [src, Option.some.injEq] at hx
          have : xs = [] := by
            have := congrArg Array.size hx
            simp [bcs] at this
            exact List.eq_nil_of_length_eq_zero (by simpa using this.symm)
          subst this
          rfl
        | some a =>
          have := run_bytesToString w a l c (xs.map fun b => (b.toNat : Int)) (by
            have hr := run_row (P := P) hx
            rw [hr]; congr 1; simp [bcs, Function.comp_def])
          rw [this]
          congr 2
          have key : ∀ (l : List UInt8) (r : ByteArray), (l.map fun b => (b.toNat : Int)).foldl (fun r n => r.push (UInt8.ofNat n.toNat)) r = ⟨r.data ++ l.toArray⟩ := by
            intro l
            induction l with
            | nil => intro r; apply ByteArray.ext; simp
            | cons x l ih =>
              intro r
              rw [List.map_cons, List.foldl_cons, ih]
              apply ByteArray.ext
              simp [ByteArray.push]
          rw [key]
          apply ByteArray.ext
          simp
      simp only [convert, Sem.run_bind, run_underlying hs, run_underlying hd, Result.andThen_ok]
      simp only [run_underlying he, Result.andThen_ok, hb]
    · exact h.elim
  · exact h.elim
end
end Go.Vc
/- The calculus of XVcA is sound: any operation. -/
set_option linter.unusedVariables false
namespace Go.Vc

section
variable {P : Program} {w : World}

theorem formed_of_keyLits {t : TypeId} {cs : Array Value} {la : List Lit} (hw : (match P.underlying t with | some (.array _ _) | some (.struct _) => true | _ => false) = true) (h : P.keyLits 9 t cs.toList = some la) :
    (Value.agg cs).formed P t = true := by
  unfold Program.keyLits at h
  cases hu : P.underlying t with
  | none => simp [hu] at hw
  | some d =>
    cases d <;> simp [hu] at hw
    · simp only [hu] at h
      split at h
      · rename_i hl; simp [Value.formed, hu]; simpa using hl
      · cases h
    · simp only [hu] at h
      split at h
      · rename_i hl; simp [Value.formed, hu]; simpa using hl.1
      · cases h

theorem agg_sound {t : TypeId} {xs ys : Array Value} {K : Bool → Prop} (hk : keyB P t = true) (h : eqAgg P t xs ys K) :
    ∃ r, (Op.equal t (.agg xs) (.agg ys)).run P w = .ok r w ∧ K r := by
  simp only [keyB, Bool.and_eq_true] at hk
  obtain ⟨⟨h1, h2⟩, h3⟩ := hk
  obtain ⟨la, lb, ha, hb, hk⟩ := h
  obtain ⟨r, hr, hiff⟩ := run_equalIn_deep (P := P) 9991 9 t h1 w 9 9 (.agg xs) (.agg ys) la lb (formed_of_keyLits h3 ha) (formed_of_keyLits h3 hb) ha hb
  exact ⟨r, hr, hk r hiff⟩

theorem bin_sound' {op : BinOp} {t : TypeId} {x y : Value} {xo yo : Operand} {K : Value → Prop} (h : binVc P op t x y K) :
    ∃ v, (do eqGuard op t xo yo x y; binOp op t x y : Sem Value).run P w = .ok v w ∧ K v := by
  by_cases hagg : ∃ xs ys, x = .agg xs ∧ y = .agg ys
  · obtain ⟨xs, ys, rfl, rfl⟩ := hagg
    have hg : ∀ op, keyB P t = true → (eqGuard op t xo yo (.agg xs) (.agg ys)).run P w = .ok () w := by
      intro op hk
      simp only [keyB, Bool.and_eq_true, Bool.not_eq_true'] at hk
      exact run_eqGuard_agg w op t xo yo xs ys hk.1.2
    cases op <;> simp only [binVc] at h
    · split at h
      · rename_i hk
        obtain ⟨r, hr, hk'⟩ := agg_sound (w := w) hk h
        refine ⟨_, ?_, hk'⟩
        simp only [Sem.run_bind, hg _ hk, Result.andThen_ok, binOp, hr, Sem.run_pure]
      · exact h.elim
    · split at h
      · rename_i hk
        obtain ⟨r, hr, hk'⟩ := agg_sound (w := w) hk h
        refine ⟨_, ?_, hk'⟩
        simp only [Sem.run_bind, hg _ hk, Result.andThen_ok, binOp, hr, Sem.run_pure]
      · exact h.elim
  · exact bin_sound (fun xs ys he => hagg ⟨xs, ys, he⟩) h

theorem add_zero (a : Addr) : a.add 0 = a := by simp [Addr.add]

theorem callFunc_run {f : FuncId} {args : Array Value} (h : callableB P f = true) : (callFunc f args).run P w = .ok (.enter f args) w := by
  unfold callableB at h
  split at h
  · rename_i fn hf
    simp only [Bool.and_eq_true, bne_iff_ne, ne_eq] at h
    have hb : fn.body.isNone = false := by cases hb : fn.body <;> simp_all
    have hn : (fn.name == "runtime.NumGoroutine") = false := by simpa using h.2
    simp only [callFunc, Sem.run_bind, run_program, Result.andThen_ok, hf, hn, hb, Bool.false_eq_true, if_false, Sem.run_pure]
  · cases h

theorem bytesOf_run {w : World} {p : Option Addr} {l c : Nat} {xs : List UInt8} (h : src w.heap p l = some (bcs xs).toArray) : (Extern.Bytes.bytesOf (.slice p l c)).run P w = .ok ⟨xs.toArray⟩ w := by
  cases p with
  | none =>
    simp only [src, Option.some.injEq] at h
    have : xs = [] := by
      have := congrArg Array.size h
      simp [bcs] at this
      exact List.eq_nil_of_length_eq_zero (by simpa using this.symm)
    subst this
    rfl
  | some a =>
    simp only [src, row] at h
    cases hr : rowFrom w.heap a 0 l with
    | none => simp [hr] at h
    | some L =>
      simp [hr] at h
      have key : ∀ (n i : Nat) (xs : List UInt8) (acc : ByteArray) (b : Addr), (∀ j, a.add (i + j) = b.add j) → rowFrom w.heap a i n = some (bcs xs) → (Extern.Bytes.loadBytes b n acc).run P w = .ok ⟨acc.data ++ xs.toArray⟩ w := by
        intro n
        induction n with
        | zero =>
          intro i xs acc b hb hx
          simp [rowFrom, bcs] at hx
          subst hx
          simp [Extern.Bytes.loadBytes]
        | succ n ih =>
          intro i xs acc b hb hx
          unfold rowFrom at hx
          cases hc : cell w.heap (a.add i) with
          | none => simp [hc] at hx
          | some v =>
            simp only [hc] at hx
            cases hr : rowFrom w.heap a (i + 1) n with
            | none => simp [hr] at hx
            | some r =>
              simp [hr] at hx
              cases xs with
              | nil => simp [bcs] at hx
              | cons x xs =>
                simp [bcs] at hx
                obtain ⟨rfl, hx⟩ := hx
                have e0 : a.add i = b := by have := hb 0; simpa [Addr.add] using this
                rw [e0] at hc
                have := ih (i + 1) xs (acc.push x) (b.add 1) (fun j => by
                  have := hb (j + 1)
                  rw [show i + (j + 1) = i + 1 + j by omega] at this
                  rw [this]
                  unfold Addr.add
                  by_cases hj : j = 0
                  · subst hj; simp
                  · simp [hj]; omega) (by rw [hr, hx]; rfl)
                have hx8 : ((x.toNat : Int).toNat).toUInt8 = x := by simp
                simp only [Extern.Bytes.loadBytes, Sem.run_bind, run_load_h hc, Result.andThen_ok, hx8, this]
                congr 1
                apply ByteArray.ext
                simp [ByteArray.push]
      have := key l 0 xs .empty a (fun j => by simp) (by rw [hr, h])
      simp only [Extern.Bytes.bytesOf, this]
      congr 1
      apply ByteArray.ext
      simp
theorem extern_run {f : FuncId} {args : List Value} {w : World} {K : Value → Heap → Prop} (hf : externB P f = true) (h : externVc args w.heap K) : ∃ v, (callFunc f args.toArray).run P w = .ok (.value v) w ∧ K v w.heap := by
  unfold externB at hf
  split at hf
  · rename_i fn hfn
    simp only [Bool.and_eq_true, beq_iff_eq] at hf
    obtain ⟨⟨hb, hname⟩, horig⟩ := hf
    unfold externVc at h
    split at h
    · rename_i p l c q n d
      obtain ⟨xs, ys, h1, h2, hk⟩ := h
      refine ⟨_, ?_, hk⟩
      rw [run_callFunc_extern (e := Extern.BytealgCompare.compare) hfn (by rw [hname]; decide) hb ?_ ?_]
      · have : (Extern.BytealgCompare.compare #[.slice p l c, .slice q n d]).run P w = .ok (.int .i64 (Lib.compareBytes xs ys)) w := by
          change Sem.run P (do pure (goInt (Extern.BytealgCompare.cmp (← Extern.Bytes.bytesOf (.slice p l c)) (← Extern.Bytes.bytesOf (.slice q n d))))) w = _
          simp only [Sem.run_bind, bytesOf_run h1, bytesOf_run h2, Result.andThen_ok, Sem.run_pure]
          rw [Lib.cmp_eq]
          rfl
        simp only [this, Result.andThen_ok]
      · unfold Extern.findNext
        rw [hname, horig]
        kernel_rfl
      · unfold Extern.find
        rw [hname]
        kernel_rfl
    · exact h.elim
  · cases hf
theorem toArray_map {ρ : Env} {a : Act} (hs : Sim a ρ) {xs : Array Operand} {vs : List Value} (h : opvs ρ xs.toList = some vs) : xs.map a.eval = vs.toArray := by
  apply Array.toList_inj.1
  rw [Array.toList_map, hs.opvs h]

theorem op_sound {qs : List Nat} {o : Oper} {a : Act} {ρ : Env} {K : Value → Heap → Prop} (hs : Sim a ρ) (h : opVc P qs o.op o.type ρ w.heap K) : Gives P o a w K := by
  obtain ⟨dst, op, ty, pos, after, guard⟩ := o
  simp only at h
  cases op <;> simp only [opVc] at h
  case move x =>
    obtain ⟨v, hv, h⟩ := withV_elim h
    exact Gives.value (w' := w) (by simp only [execOp, Sem.run_pure, hs.opv hv]) (Rest.refl w) h
  case assign x =>
    obtain ⟨v, hv, h⟩ := withV_elim h
    exact Gives.value (w' := w) (by simp only [execOp, Sem.run_pure, hs.opv hv]) (Rest.refl w) h
  case pick c x y =>
    obtain ⟨v, hv, h⟩ := withV_elim h
    split at h
    · rename_i t
      cases t
      · obtain ⟨u, hu, h⟩ := withV_elim h
        exact Gives.value (w' := w) (by simp only [execOp, Sem.run_bind, hs.opv hv, asBool, Sem.run_pure, Result.andThen_ok, Bool.false_eq_true, if_false, hs.opv hu]) (Rest.refl w) h
      · obtain ⟨u, hu, h⟩ := withV_elim h
        exact Gives.value (w' := w) (by simp only [execOp, Sem.run_bind, hs.opv hv, asBool, Sem.run_pure, Result.andThen_ok, if_true, hs.opv hu]) (Rest.refl w) h
    · exact h.elim
  case alloc e =>
    split at h
    · rename_i z hz
      refine Gives.value (w' := { w with heap := w.heap.push (.cells z.cells e) }) (v := .pointer (some ⟨w.heap.size, 0, none⟩)) ?_ ⟨rfl, rfl, rfl⟩ (h _ _ rfl rfl)
      simp only [execOp, Sem.run_bind, Instr.alloc, run_zero hz, Result.andThen_ok, run_newVar, Sem.run_pure]
    · exact h.elim
  case box e x =>
    obtain ⟨v, hv, h⟩ := withV_elim h
    refine Gives.value (w' := { w with heap := w.heap.push (.cells v.cells e) }) (v := .pointer (some ⟨w.heap.size, 0, none⟩)) ?_ ⟨rfl, rfl, rfl⟩ (h _ _ rfl rfl)
    simp only [execOp, Sem.run_bind, Instr.box, hs.opv hv, Result.andThen_ok, run_newVar, Sem.run_pure]
  case build t ps =>
    split at h
    · rename_i vs hps
      obtain ⟨cs, hr, hk⟩ := build_sound (w := w) h
      refine Gives.value (w' := w) (v := .agg cs) ?_ (Rest.refl w) hk
      have : ps.map (fun (i, x) => (i, a.eval x)) = vs.toArray := by
        apply Array.toList_inj.1
        rw [Array.toList_map, hs.pairs hps]
      simp only [execOp, Sem.run_bind, this, hr, Result.andThen_ok, Sem.run_pure]
    · exact h.elim
  case buildSlice t n ps =>
    split at h
    · rename_i vs hps
      obtain ⟨v, w', hr, hrest, hk⟩ := buildSlice_sound (w := w) h
      refine Gives.value (w' := w') (v := v) ?_ hrest hk
      have : ps.map (fun (i, x) => (i, a.eval x)) = vs.toArray := by
        apply Array.toList_inj.1
        rw [Array.toList_map, hs.pairs hps]
      simp only [execOp, Sem.run_bind, this, hr, Result.andThen_ok, Sem.run_pure]
    · exact h.elim
  case load t x =>
    obtain ⟨v, hv, h⟩ := withV_elim h
    split at h
    · rename_i ad
      split at h
      · rename_i hb
        obtain ⟨cs, hcs, hk⟩ := h
        refine Gives.value (w' := w) (v := .agg cs) ?_ (Rest.refl w) hk
        simp only [execOp, Sem.run_bind, Instr.loadAt, hs.opv hv, Instr.sureAddr, Sem.run_pure, Result.andThen_ok, run_loadVar_agg hb hcs]
      · rename_i hb
        obtain ⟨u, hu, hk⟩ := exTy_elim h
        refine Gives.value (w' := w) (v := u) ?_ (Rest.refl w) hk
        simp only [execOp, Sem.run_bind, Instr.loadAt, hs.opv hv, Instr.sureAddr, Sem.run_pure, Result.andThen_ok, run_loadVar_one hb hu]
      · exact h.elim
    · exact h.elim
  case store t x y =>
    obtain ⟨v, hv, h1⟩ := withV_elim h
    clear h
    obtain ⟨u, hu, h⟩ := withV_elim h1
    clear h1
    split at h
    · rename_i ad
      split at h
      · rename_i hb
        obtain ⟨h1, i, hi⟩ := run_agg hb w
        obtain ⟨hsz, hone, hw, hk⟩ := h
        refine Gives.skip (w' := { w with heap := putRow w.heap ad 0 u.cells.toList }) ?_ ⟨rfl, rfl, rfl⟩ (hk _ rfl)
        have hst := run_putRow (P := P) ad u.cells.toList 0 w (fun j hj => by rw [Nat.zero_add]; exact hw j (by rw [← hsz]; simpa using hj)) hone
        have hsz' : ¬ (u.cells.size ≠ szOf P t) := by simp [hsz]
        simp only [execOp, Sem.run_bind, Instr.storeAt, hs.opv hv, hs.opv hu, Instr.sureAddr, Sem.run_pure, Result.andThen_ok, storeVar, run_size hi, hsz', if_false, hst]
      · rename_i hb
        obtain ⟨h1, i, hi⟩ := run_agg hb w
        split at h
        · rename_i hs1
          have hs1 := Nat.eq_of_beq_eq_true hs1
          obtain ⟨hone, hw, hk⟩ := h
          refine Gives.skip (w' := { w with heap := put w.heap ad u }) ?_ ⟨rfl, rfl, rfl⟩ (hk _ rfl)
          have hc : u.cells = #[u] := by cases u <;> first | rfl | (simp [Value.oneCell'] at hone)
          have hsz : i.size = 1 := by rw [← szOf_of hi]; exact hs1
          have hsz' : ¬ (u.cells.size ≠ szOf P t) := by rw [hc, szOf_of hi, hsz]; simp
          have hst := run_putRow (P := P) ad [u] 0 w (fun j hj => by simp at hj; subst hj; rw [add_zero]; exact hw) (by simpa using hone)
          simp only [execOp, Sem.run_bind, Instr.storeAt, hs.opv hv, hs.opv hu, Instr.sureAddr, Sem.run_pure, Result.andThen_ok, storeVar, run_size hi, hsz', if_false]
          rw [hc, hst]
          simp only [putRow, add_zero, Result.andThen_ok]
        · exact h.elim
      · exact h.elim
    · exact h.elim
  case nilCheck x =>
    obtain ⟨v, hv, h⟩ := withV_elim h
    split at h
    · rename_i p
      obtain ⟨ad, rfl, hk⟩ := deref_elim h
      exact Gives.value (w' := w) (by simp only [execOp, hs.opv hv, Sem.run_pure]) (Rest.refl w) hk
    · exact h.elim
  case binOp op t x y yt =>
    obtain ⟨v, hv, h⟩ := withV_elim h
    obtain ⟨u, hu, h⟩ := withV_elim h
    obtain ⟨r, hr, hk⟩ := bin_sound' (w := w) (xo := x) (yo := y) h
    refine Gives.value (w' := w) (v := r) ?_ (Rest.refl w) hk
    simp only [execOp, hs.opv hv, hs.opv hu]
    rw [Sem.run_bind, hr]
    rfl
  case unOp op t x =>
    obtain ⟨v, hv, h⟩ := withV_elim h
    unfold unVc at h
    split at h
    · exact Gives.value (w' := w) (by simp only [execOp, hs.opv hv, Op.unary, Op.intArith, Sem.run_bind, Sem.run_pure, Result.andThen_ok]) (Rest.refl w) h
    · exact Gives.value (w' := w) (by simp only [execOp, hs.opv hv, Op.unary, Op.intBits, Sem.run_bind, Sem.run_pure, Result.andThen_ok]; rfl) (Rest.refl w) h
    · exact Gives.value (w' := w) (by simp only [execOp, hs.opv hv, Op.unary, Sem.run_bind, Sem.run_pure, Result.andThen_ok]) (Rest.refl w) h
    · exact h.elim
  case convert s d x =>
    obtain ⟨v, hv, h⟩ := withV_elim h
    obtain ⟨r, w', hr, hrest, hk⟩ := conv_sound h
    exact Gives.value (by simp only [execOp, hs.opv hv, Sem.run_bind, hr, Result.andThen_ok, Sem.run_pure]) hrest hk
  case sliceToArrayPointer t x =>
    obtain ⟨v, hv, h⟩ := withV_elim h
    split at h
    · rename_i n e p l c ht
      obtain ⟨hn, h⟩ := h
      obtain ⟨ad, rfl, hk⟩ := deref_elim h
      refine Gives.value (w' := w) (v := .pointer (some ad)) ?_ (Rest.refl w) hk
      simp only [execOp, hs.opv hv, Sem.run_bind, Instr.arrayAt, run_underlying ht, Result.andThen_ok, Nat.not_lt.2 hn, if_false, Sem.run_pure]
    · exact h.elim
  case makeFunc fn first cap =>
    split at h
    · rename_i x y hx hy
      exact Gives.value (w' := w) (by simp only [execOp, Sem.run_bind, Instr.makeFunc, toArray_map hs hx, toArray_map hs hy, Sem.run_pure, Result.andThen_ok]) (Rest.refl w) h
    · exact h.elim
  case makeSlice t l c =>
    obtain ⟨kl, l', hl, h⟩ := withI_elim h
    obtain ⟨kc, c', hc, h⟩ := withI_elim h
    split at h
    · rename_i e ht
      split at h
      · rename_i z hz
        obtain ⟨v, w', hr, hrest, hk⟩ := make_sound (kl := kl) (kc := kc) ht hz h
        exact Gives.value (by simp only [execOp, hs.opv hl, hs.opv hc, Sem.run_bind, hr, Result.andThen_ok, Sem.run_pure]) hrest hk
      · exact h.elim
    · exact h.elim
  case slice t x lo hi mx =>
    obtain ⟨v, hv, h⟩ := withV_elim h
    split at h
    · rename_i lo' hi' mx' h1 h2 h3
      obtain ⟨u, hr, hk⟩ := slice_sound (w := w) h
      refine Gives.value (w' := w) (v := u) ?_ (Rest.refl w) hk
      simp only [execOp, hs.opv hv, hs.opvo h1, hs.opvo h2, hs.opvo h3, Sem.run_bind, hr, Result.andThen_ok, Sem.run_pure]
    · exact h.elim
  case fieldAddr t x i =>
    obtain ⟨v, hv, h⟩ := withV_elim h
    split at h
    · rename_i ad f hf
      split at h
      · exact h.elim
      · rename_i hz
        refine Gives.value (w' := w) (v := .pointer (some (ad.add f.offset))) ?_ (Rest.refl w) h
        unfold fieldOf at hf
        split at hf
        · rename_i fs ht
          rw [getAt_eq] at hf
          have hne : szOf P f.type ≠ 0 := fun he => by rw [he] at hz; cases hz
          have hi : ∃ j, P.info? f.type = some j := by
            unfold szOf at hne
            cases hj : P.info? f.type with
            | none => simp [hj] at hne
            | some j => exact ⟨j, rfl⟩
          obtain ⟨j, hj⟩ := hi
          have hf' : fs[i]? = some f := by simpa using hf
          simp only [execOp, hs.opv hv, Sem.run_bind, Instr.fieldAt, run_underlying ht, Result.andThen_ok, hf', Instr.sureAddr, Sem.run_pure, fieldPlace, run_size hj, hne, if_false]
        · cases hf
    · exact h.elim
  case field t x i =>
    obtain ⟨v, hv, h⟩ := withV_elim h
    split at h
    · rename_i cs f hf
      obtain ⟨u, hr, hk⟩ := part_sound (w := w) h
      refine Gives.value (w' := w) (v := u) ?_ (Rest.refl w) hk
      unfold fieldOf at hf
      split at hf
      · rename_i fs ht
        rw [getAt_eq] at hf
        have hf' : fs[i]? = some f := by simpa using hf
        simp only [execOp, hs.opv hv, Sem.run_bind, Instr.field, run_underlying ht, Result.andThen_ok, hf', asAgg, Sem.run_pure, hr]
      · cases hf
    · exact h.elim
  case indexAddr t x i =>
    obtain ⟨v, hv, h⟩ := withV_elim h
    obtain ⟨k, i', hi, h⟩ := withI_elim h
    obtain ⟨u, hr, hk⟩ := indexAddr_sound (w := w) (k := k) h
    exact Gives.value (w' := w) (by simp only [execOp, hs.opv hv, hs.opv hi, Sem.run_bind, hr, Result.andThen_ok, Sem.run_pure]) (Rest.refl w) hk
  case index t x i =>
    obtain ⟨v, hv, h⟩ := withV_elim h
    obtain ⟨k, i', hi, h⟩ := withI_elim h
    obtain ⟨u, hr, hk⟩ := index_sound (w := w) (k := k) h
    exact Gives.value (w' := w) (by simp only [execOp, hs.opv hv, hs.opv hi, Sem.run_bind, hr, Result.andThen_ok, Sem.run_pure]) (Rest.refl w) hk
  case extract x i =>
    obtain ⟨v, hv, h⟩ := withV_elim h
    split at h
    · rename_i vs
      obtain ⟨u, hu, hk⟩ := withV_elim h
      rw [getAt_eq] at hu
      have hu' : vs[i]? = some u := by simpa using hu
      exact Gives.value (w' := w) (by simp only [execOp, hs.opv hv, Instr.extract, hu', Sem.run_bind, Sem.run_pure, Result.andThen_ok]) (Rest.refl w) hk
    · exact h.elim
  case call c =>
    obtain ⟨callee, cargs, cts⟩ := c
    split at h
    · rename_i args hargs
      have hm := toArray_map hs hargs
      simp only at hm h
      split at h
      · rename_i f
        obtain ⟨v, hv, h⟩ := withV_elim h
        split at h
        · rename_i f first cap
          unfold callVc at h
          split at h
          · rename_i hc
            unfold Gives
            have hcall : callFunc f ((first.toList ++ (args ++ cap.toList)).toArray) = callFunc f (first ++ args.toArray ++ cap) := by
              congr 1; apply Array.toList_inj.1; simp
            simp only [execOp, resolve, hs.opv hv, Deferred.ofValue, Sem.run_bind, Sem.run_pure, Result.andThen_ok, invoke, hm]
            rw [callFunc_run hc]
            refine ⟨rfl, ?_⟩
            have : first ++ args.toArray ++ cap = (first.toList ++ (args ++ cap.toList)).toArray := by apply Array.toList_inj.1; simp
            rw [this]
            split at h
            · intro w1 hw1
              exact (h w1 hw1).mono fun e w' ⟨v, he, hr, _, hb⟩ => ⟨v, he, hr, back_elim hb⟩
            · intro w1 hw1
              exact (h w1 hw1).mono fun e w' ⟨v, he, hr, hb⟩ => ⟨v, he, hr, back_elim hb⟩
          · split at h
            · rename_i hx
              obtain ⟨v, hv, hk⟩ := extern_run hx h
              refine Gives.value (w' := w) (v := v) ?_ (Rest.refl w) hk
              have hcall : callFunc f (first ++ args.toArray ++ cap) = callFunc f ((first.toList ++ (args ++ cap.toList)).toArray) := by
                congr 1; apply Array.toList_inj.1; simp
              simp only [execOp, resolve, hs.opv (by assumption), Deferred.ofValue, Sem.run_bind, Sem.run_pure, Result.andThen_ok, invoke, hm]
              rw [hcall, hv]
            · exact h.elim
        · exact h.elim
      · rename_i b
        obtain ⟨v, w', hr, hrest, hk⟩ := builtin_sound (ty := ty) (consts := cargs.map fun | .const _ => true | _ => false) h
        refine Gives.value (w' := w') (v := v) ?_ hrest hk
        simp only [Array.toArray_toList] at hr
        simp only [execOp, resolve, Sem.run_bind, Sem.run_pure, Result.andThen_ok, invoke, hm]
        exact hr
      · exact h.elim
    · exact h.elim
end
end Go.Vc
/- Regions: monotone, by what they read, and what a quiet operation does. -/
set_option linter.unusedVariables false
namespace Go.Vc

section mono
variable {P : Program} {w : World}

theorem withV_mono {o : Option Value} {K K' : Value → Prop} (hk : ∀ v, K v → K' v) (h : withV o K) : withV o K' := by
  cases o with
  | none => exact h
  | some v => exact hk v h
theorem withI_mono {o : Option Value} {K K' : Int → Prop} (hk : ∀ v, K v → K' v) (h : withI o K) : withI o K' := by
  unfold withI at *
  split at h
  · exact hk _ h
  · exact h.elim
theorem deref_mono {p : Option Addr} {K K' : Addr → Prop} (hk : ∀ v, K v → K' v) (h : deref p K) : deref p K' := by
  cases p with
  | none => exact h
  | some v => exact hk v h
theorem br_mono {b : Bool} {X Y X' Y' : Prop} (hx : X → X') (hy : Y → Y') (h : br b X Y) : br b X' Y' := by
  cases b
  · exact hy h
  · exact hx h
theorem nilEq_mono {a b : Option Addr} {K K' : Bool → Prop} (hk : ∀ t, K t → K' t) (h : nilEq a b K) : nilEq a b K' := by
  cases b with
  | none => exact hk _ h
  | some b => cases a with
    | none => exact hk _ h
    | some a => exact h
theorem binVc_mono {op : BinOp} {t : TypeId} {x y : Value} {K K' : Value → Prop} (hk : ∀ v, K v → K' v) (h : binVc P op t x y K) : binVc P op t x y K' := by
  unfold binVc at *
  split at h
  case h_1 => exact ⟨h.1, hk _ h.2⟩
  case h_2 => exact ⟨h.1, hk _ h.2⟩
  case h_3 =>
    split at h
    · rename_i heq
      subst heq
      try simp only [if_true]
      unfold intVc at *
      split at h
      all_goals first
        | exact ⟨h.1, hk _ h.2⟩
        | exact hk _ h
        | exact h
        | (split at h
           · exact hk _ h
           · exact h.elim)
    · exact h.elim
  all_goals first
    | exact h.elim
    | exact hk _ h
    | (split at h
       · first | exact nilEq_mono (fun _ h => hk _ h) h | exact hk _ h | (obtain ⟨la, lb, h1, h2, h3⟩ := h; exact ⟨la, lb, h1, h2, fun r hr => hk _ (h3 r hr)⟩)
       · exact h.elim)
theorem unVc_mono {op : UnOp} {x : Value} {K K' : Value → Prop} (hk : ∀ v, K v → K' v) (h : unVc op x K) : unVc op x K' := by
  unfold unVc at *
  split at h <;> first | exact hk _ h | exact h
theorem partVc_mono {t : TypeId} {cs : Array Value} {off : Nat} {K K' : Value → Prop} (hk : ∀ v, K v → K' v) (h : partVc P t cs off K) : partVc P t cs off K' := by
  unfold partVc at *
  split at h
  · exact hk _ h
  · exact exTy_mono (fun v h => ⟨h.1, hk _ h.2⟩) h
  · exact h
theorem fillVc_mono {pl : List (Nat × Nat)} : ∀ {ps : List (Nat × Value)} {ch : List (List Value)} {K K' : List (List Value) → Prop}, (∀ v, K v → K' v) → fillVc pl ch ps K → fillVc pl ch ps K'
  | [], ch, K, K', hk, h => hk _ h
  | (i, v) :: r, ch, K, K', hk, h => by
    unfold fillVc at *
    split at h
    · split at h
      · exact ⟨h.1, fillVc_mono hk h.2⟩
      · split at h
        · exact fillVc_mono hk h
        · exact h
    · exact h
theorem partsVc_mono {pl : List (Nat × Nat)} {zero : List Value} {ps : List (Nat × Value)} {K K' : List Value → Prop} (hk : ∀ v, K v → K' v) (h : partsVc pl zero ps K) : partsVc pl zero ps K' := by
  unfold partsVc at *
  split at h
  · exact fillVc_mono (fun _ h => hk _ h) h
  · exact h
theorem newBlk_mono {h : Heap} {t : TypeId} {cells : Array Value} {K K' : Nat → Heap → Prop} (hk : ∀ b h, K b h → K' b h) (hh : newBlk h t cells K) : newBlk h t cells K' :=
  fun b h' e1 e2 => hk _ _ (hh b h' e1 e2)
theorem storeP_mono {n : Option Nat} {h : Heap} {a : Addr} {v : Value} {K K' : Heap → Prop} (hk : ∀ h, K h → K' h) (hh : storeP n h a v K) : storeP n h a v K' := by
  cases n with
  | none => exact ⟨hh.1, hh.2.1, fun h' e => hk _ (hh.2.2 h' e)⟩
  | some n => exact ⟨hh.1, hh.2.1, hh.2.2.1, fun h' e => hk _ (hh.2.2.2 h' e)⟩
theorem appendP_mono {e : TypeId} {sz bytes : Nat} {zero : Array Value} {p q : Option Addr} {l c n : Nat} {h : Heap} {K K' : Option Addr → Nat → Nat → Heap → Prop} (hk : ∀ p l c h, K p l c h → K' p l c h)
    (hh : appendP e sz bytes zero p l c q n h K) : appendP e sz bytes zero p l c q n h K' := by
  obtain ⟨news, h1, h2, h3, h4⟩ := hh
  refine ⟨news, h1, h2, fun hc => ⟨(h3 hc).1, fun h' e => hk _ _ _ _ ((h3 hc).2 h' e)⟩, fun hc => ?_⟩
  obtain ⟨g1, g2, old, g3, g4⟩ := h4 hc
  exact ⟨g1, g2, old, g3, fun c' b h' e1 e2 e3 e4 => hk _ _ _ _ (g4 c' b h' e1 e2 e3 e4)⟩
theorem copyP_mono {sz : Nat} {p q : Option Addr} {l n : Nat} {h : Heap} {K K' : Int → Heap → Prop} (hk : ∀ v h, K v h → K' v h) (hh : copyP sz p l q n h K) : copyP sz p l q n h K' := by
  obtain ⟨news, h1, h2, h3, h4⟩ := hh
  exact ⟨news, h1, h2, h3, fun h' e => hk _ _ (h4 h' e)⟩
theorem sliceP_mono {sz : Nat} {p : Option Addr} {l h m : Int} {c : Nat} {K K' : Option Addr → Nat → Nat → Prop} (hk : ∀ p l c, K p l c → K' p l c) (hh : sliceP sz p l h m c K) : sliceP sz p l h m c K' :=
  ⟨hh.1, hh.2.1, hh.2.2.1, hh.2.2.2.1, hk _ _ _ hh.2.2.2.2⟩
theorem makeP_mono {e : TypeId} {sz bytes : Nat} {zero : Array Value} {l c : Int} {h : Heap} {K K' : Nat → Heap → Prop} (hk : ∀ v h, K v h → K' v h) (hh : makeP e sz bytes zero l c h K) : makeP e sz bytes zero l c h K' :=
  ⟨hh.1, hh.2.1, hh.2.2.1, hh.2.2.2.1, newBlk_mono (fun _ _ h => hk _ _ h) hh.2.2.2.2⟩
theorem cutVc_mono {sz : Nat} {p : Option Addr} {len cap : Nat} {lo hi mx : Option Value} {K K' : Value → Prop} (hk : ∀ v, K v → K' v) (h : cutVc sz p len cap lo hi mx K) : cutVc sz p len cap lo hi mx K' := by
  unfold cutVc at *
  simp only at *
  split at h
  · split at h
    · split at h
      · split at h
        · exact sliceP_mono (fun _ _ _ h => hk _ h) h
        · exact sliceP_mono (fun _ _ _ h => hk _ h) h
        · exact h
      · split at h
        · exact sliceP_mono (fun _ _ _ h => hk _ h) h
        · exact sliceP_mono (fun _ _ _ h => hk _ h) h
        · exact h
      · exact h
    · exact h
  · split at h
    · split at h
      · exact sliceP_mono (fun _ _ _ h => hk _ h) h
      · exact sliceP_mono (fun _ _ _ h => hk _ h) h
      · exact h
    · split at h
      · exact sliceP_mono (fun _ _ _ h => hk _ h) h
      · exact sliceP_mono (fun _ _ _ h => hk _ h) h
      · exact h
    · exact h
  · exact h
theorem sliceVc_mono {t : TypeId} {x : Value} {lo hi mx : Option Value} {K K' : Value → Prop} (hk : ∀ v, K v → K' v) (h : sliceVc P t x lo hi mx K) : sliceVc P t x lo hi mx K' := by
  unfold sliceVc at *
  split at h
  · split at h
    · exact cutVc_mono hk h
    · exact h
  · split at h
    · exact cutVc_mono hk h
    · exact h
  · exact h
theorem indexAddrVc_mono {t : TypeId} {x : Value} {i : Int} {K K' : Value → Prop} (hk : ∀ v, K v → K' v) (h : indexAddrVc P t x i K) : indexAddrVc P t x i K' := by
  unfold indexAddrVc at *
  split at h
  · split at h
    · exact ⟨h.1, h.2.1, hk _ h.2.2⟩
    · exact h
  · split at h
    · exact ⟨h.1, h.2.1, deref_mono (fun _ h => hk _ h) h.2.2⟩
    · exact h
  · exact h
theorem indexVc_mono {t : TypeId} {x : Value} {i : Int} {K K' : Value → Prop} (hk : ∀ v, K v → K' v) (h : indexVc P t x i K) : indexVc P t x i K' := by
  unfold indexVc at *
  split at h
  · exact ⟨h.1, h.2.1, partVc_mono hk h.2.2⟩
  · obtain ⟨h0, b, h1, h2⟩ := h
    exact ⟨h0, b, h1, hk _ h2⟩
  · exact h
theorem buildVc_mono {t : TypeId} {ps : List (Nat × Value)} {K K' : Array Value → Prop} (hk : ∀ v, K v → K' v) (h : buildVc P t ps K) : buildVc P t ps K' := by
  unfold buildVc at *
  split at h
  · split at h
    · exact partsVc_mono (fun _ h => hk _ h) h
    · exact h
  · split at h
    · exact partsVc_mono (fun _ h => hk _ h) h
    · exact h
  · exact h
theorem buildSliceVc_mono {t : TypeId} {n : Nat} {ps : List (Nat × Value)} {h : Heap} {K K' : Value → Heap → Prop} (hk : ∀ v h, K v h → K' v h) (hh : buildSliceVc P t n ps h K) : buildSliceVc P t n ps h K' := by
  unfold buildSliceVc at *
  split at hh
  · split at hh
    · split at hh
      · exact partsVc_mono (fun _ h => newBlk_mono (fun _ _ h => hk _ _ h) h) hh
      · split at hh
        · exact newBlk_mono (fun _ _ h => hk _ _ h) hh
        · exact hh
    · exact hh
  · exact hh
theorem convVc_mono {s d : TypeId} {x : Value} {h : Heap} {K K' : Value → Heap → Prop} (hk : ∀ v h, K v h → K' v h) (hh : convVc P s d x h K) : convVc P s d x h K' := by
  unfold convVc at *
  split at hh
  · exact hk _ _ hh
  · split at hh
    · exact ⟨hh.1, fun h' e => hk _ _ (hh.2 h' e)⟩
    · exact hh
  · split at hh
    · exact ⟨hh.1, fun c' b h' e1 e2 e3 e4 => hk _ _ (hh.2 c' b h' e1 e2 e3 e4)⟩
    · exact hh
  · split at hh
    · obtain ⟨xs, h1, h2⟩ := hh
      exact ⟨xs, h1, hk _ _ h2⟩
    · exact hh
  · exact hh
theorem externVc_mono {args : List Value} {h : Heap} {K K' : Value → Heap → Prop} (hk : ∀ v h, K v h → K' v h) (hh : externVc args h K) : externVc args h K' := by
  unfold externVc at *
  split at hh
  · obtain ⟨xs, ys, h1, h2, h3⟩ := hh
    exact ⟨xs, ys, h1, h2, hk _ _ h3⟩
  · exact hh
theorem builtinVc_mono {b : Builtin} {ts : List TypeId} {args : List Value} {h : Heap} {K K' : Value → Heap → Prop} (hk : ∀ v h, K v h → K' v h) (hh : builtinVc P b ts args h K) : builtinVc P b ts args h K' := by
  unfold builtinVc at *
  split at hh
  · split at hh
    · exact hk _ _ hh
    · exact hk _ _ hh
    · exact hk _ _ hh
    · split at hh
      · exact hk _ _ hh
      · exact hh
    · exact hh
  · split at hh
    · exact hk _ _ hh
    · exact hh
  · split at hh
    · exact hk _ _ hh
    · exact hh
  · split at hh
    · exact hk _ _ hh
    · exact hh
  · split at hh
    · split at hh
      · exact appendP_mono (fun _ _ _ _ h => hk _ _ h) hh
      · exact hh
    · exact hh
  · split at hh
    · split at hh
      · exact copyP_mono (fun _ _ h => hk _ _ h) hh
      · exact hh
    · exact hh
  · exact hh
theorem CallsH.mono {f : FuncId} {args : Array Value} {h : Heap} {R R' : Value → Heap → Prop} (hh : CallsH P f args h R) (hr : ∀ v h, R v h → R' v h) : CallsH P f args h R' :=
  fun w hw => (hh w hw).mono fun e w' ⟨v, he, hrest, hv⟩ => ⟨v, he, hrest, hr _ _ hv⟩
theorem callVc_mono {qs : List Nat} {f : FuncId} {t : TypeId} {args : List Value} {h : Heap} {K K' : Value → Heap → Prop} (hk : ∀ v h, K v h → K' v h) (hh : callVc P qs f t args h K) : callVc P qs f t args h K' := by
  unfold callVc at *
  split at hh
  · split at hh
    · exact hh.mono fun v h hb => ⟨hb.1, back_mono (fun v h => hk _ _ h) hb.2⟩
    · exact hh.mono fun v h hb => back_mono (fun v h => hk _ _ h) hb
  · split at hh
    · exact externVc_mono hk hh
    · exact hh

theorem opVc_mono {qs : List Nat} {op : Op} {ty : TypeId} {ρ : Env} {h : Heap} {K K' : Value → Heap → Prop} (hk : ∀ v h, K v h → K' v h) (hh : opVc P qs op ty ρ h K) : opVc P qs op ty ρ h K' := by
  cases op <;> simp only [opVc] at hh ⊢
  case move => exact withV_mono (fun _ h => hk _ _ h) hh
  case assign => exact withV_mono (fun _ h => hk _ _ h) hh
  case pick =>
    refine withV_mono (fun v hv => ?_) hh
    split at hv
    · exact br_mono (withV_mono (fun _ h => hk _ _ h)) (withV_mono (fun _ h => hk _ _ h)) hv
    · exact hv
  case alloc =>
    split at hh
    · exact newBlk_mono (fun _ _ h => hk _ _ h) hh
    · exact hh
  case box => exact withV_mono (fun _ h => newBlk_mono (fun _ _ h => hk _ _ h) h) hh
  case build =>
    split at hh
    · exact buildVc_mono (fun _ h => hk _ _ h) hh
    · exact hh
  case buildSlice =>
    split at hh
    · exact buildSliceVc_mono hk hh
    · exact hh
  case load =>
    refine withV_mono (fun v hv => ?_) hh
    split at hv
    · split at hv
      · obtain ⟨cs, h1, h2⟩ := hv; exact ⟨cs, h1, hk _ _ h2⟩
      · exact exTy_mono (fun _ h => ⟨h.1, hk _ _ h.2⟩) hv
      · exact hv
    · exact hv
  case store =>
    refine withV_mono (fun v hv => withV_mono (fun u hu => ?_) hv) hh
    split at hu
    · split at hu
      · exact storeP_mono (fun _ h => hk _ _ h) hu
      · split at hu
        · exact storeP_mono (fun _ h => hk _ _ h) hu
        · exact hu
      · exact hu
    · exact hu
  case nilCheck =>
    refine withV_mono (fun v hv => ?_) hh
    split at hv
    · exact deref_mono (fun _ h => hk _ _ h) hv
    · exact hv
  case binOp => exact withV_mono (fun _ h => withV_mono (fun _ h => binVc_mono (fun _ h => hk _ _ h) h) h) hh
  case unOp => exact withV_mono (fun _ h => unVc_mono (fun _ h => hk _ _ h) h) hh
  case convert => exact withV_mono (fun _ h => convVc_mono hk h) hh
  case sliceToArrayPointer =>
    refine withV_mono (fun v hv => ?_) hh
    split at hv
    · exact ⟨hv.1, deref_mono (fun _ h => hk _ _ h) hv.2⟩
    · exact hv
  case makeFunc =>
    split at hh
    · exact hk _ _ hh
    · exact hh
  case makeSlice =>
    refine withI_mono (fun v hv => withI_mono (fun u hu => ?_) hv) hh
    split at hu
    · split at hu
      · exact makeP_mono (fun _ _ h => hk _ _ h) hu
      · exact hu
    · exact hu
  case slice =>
    refine withV_mono (fun v hv => ?_) hh
    split at hv
    · exact sliceVc_mono (fun _ h => hk _ _ h) hv
    · exact hv
  case fieldAddr =>
    refine withV_mono (fun v hv => ?_) hh
    split at hv
    · split at hv
      · exact hv
      · exact hk _ _ hv
    · exact hv
  case field =>
    refine withV_mono (fun v hv => ?_) hh
    split at hv
    · exact partVc_mono (fun _ h => hk _ _ h) hv
    · exact hv
  case indexAddr => exact withV_mono (fun _ h => withI_mono (fun _ h => indexAddrVc_mono (fun _ h => hk _ _ h) h) h) hh
  case index => exact withV_mono (fun _ h => withI_mono (fun _ h => indexVc_mono (fun _ h => hk _ _ h) h) h) hh
  case extract =>
    refine withV_mono (fun v hv => ?_) hh
    split at hv
    · exact withV_mono (fun _ h => hk _ _ h) hv
    · exact hv
  case call =>
    split at hh
    · split at hh
      · refine withV_mono (fun v hv => ?_) hh
        split at hv
        · exact callVc_mono hk hv
        · exact hv
      · exact builtinVc_mono hk hh
      · exact hh
    · exact hh
end mono
end Go.Vc
/- Regions in the order of the text, and regions that draw their order. -/
set_option linter.unusedVariables false
namespace Go.Vc

def okDst (N : Nat) : Option Nat → Bool
  | none => true
  | some d => Nat.blt d N
def goVc (P : Program) (qs : List Nat) (o : Oper) (want t : Bool) (ρ : Env) (h : Heap) (K : Env → Heap → Prop) : Prop :=
  match (match want with | true => t | false => !t) with
  | true => opVc P qs o.op o.type ρ h fun v h' => K (ρ.put o.dst v) h'
  | false => K (ρ.put o.dst undef) h
/-- One operation of a region. -/
def stepVc (P : Program) (qs : List Nat) (N : Nat) (L : List Oper) (o : Oper) (ρ : Env) (h : Heap) (K : Env → Heap → Prop) : Prop :=
  match okDst N o.dst with
  | false => False
  | true => match o.guard with
    | none => opVc P qs o.op o.type ρ h fun v h' => K (ρ.put o.dst v) h'
    | some (j, want) => match (getAt L j).bind (·.dst) with
      | none => False
      | some s => match ρ.get? s with
        | some (.bool b) => br b (goVc P qs o want true ((s, .bool true) :: ρ) h K) (goVc P qs o want false ((s, .bool false) :: ρ) h K)
        | some (.tuple _) => K (ρ.put o.dst undef) h
        | _ => False
def seqVc (P : Program) (qs : List Nat) (N : Nat) (L : List Oper) : List Oper → Env → Heap → (Env → Heap → Prop) → Prop
  | [], ρ, h, K => K ρ h
  | o :: r, ρ, h, K => stepVc P qs N L o ρ h fun ρ' h' => seqVc P qs N L r ρ' h' K

/- ### What a frame says to an environment -/
def SimN (N : Nat) (a : Act) (ρ : Env) : Prop := a.tmps.size = N ∧ a.defers = [] ∧ Sim a ρ

section
variable {P : Program} {qs : List Nat} {N : Nat} {w : World}

theorem get?_cons (ρ : Env) (s t : Nat) (v : Value) : Env.get? ((s, v) :: ρ) t = if s = t then some v else ρ.get? t := by
  simp only [Env.get?]
  by_cases h : s = t
  · subst h; simp
  · have hb : Nat.beq s t = false := by
      cases hb : Nat.beq s t
      · rfl
      · exact absurd (Nat.eq_of_beq_eq_true hb) h
    simp [hb, h]

theorem SimN.put {a : Act} {ρ : Env} (h : SimN N a ρ) {d : Option Nat} {v : Value} (hd : okDst N d = true) : SimN N (a.put d v) (ρ.put d v) := by
  cases d with
  | none => exact h
  | some d =>
    obtain ⟨h1, h2, h3⟩ := h
    have hlt : d < N := by simpa [okDst, Nat.blt_eq] using hd
    refine ⟨by simp [Act.put, h1], h2, fun t u ht => ?_⟩
    simp only [Env.put] at ht
    rw [get?_cons] at ht
    simp only [Act.put, Array.getD_eq_getD_getElem?, Array.getElem?_setIfInBounds]
    split at ht
    · rename_i hdt; subst hdt
      simp only [Option.some.injEq] at ht; subst ht
      simp [h1, hlt]
    · rename_i hdt
      simp only [hdt, if_false]
      have := h3 t u ht
      simpa [Array.getD_eq_getD_getElem?] using this

theorem SimN.same {a : Act} {ρ : Env} (h : SimN N a ρ) {s : Nat} {v : Value} (hs : ρ.get? s = some v) : SimN N a ((s, v) :: ρ) := by
  refine ⟨h.1, h.2.1, fun t u ht => ?_⟩
  rw [get?_cons] at ht
  split at ht
  · rename_i hst; subst hst
    simp only [Option.some.injEq] at ht; subst ht
    exact h.2.2 s v hs
  · exact h.2.2 t u ht

/-- The frame, the heap, the rest. -/
def Post (N : Nat) (w0 : World) (K : Env → Heap → Prop) (a : Act) (w : World) : Prop := ∃ ρ, SimN N a ρ ∧ Rest w0 w ∧ K ρ w.heap

theorem wp_of_gives {o : Oper} {a : Act} {w0 : World} {K : Value → Heap → Prop} {K' : Act → World → Prop} {Q : Exit → Act → World → Prop} (hg : Gives P o a w K) (hr0 : Rest w0 w)
    (hk : ∀ v w', Rest w0 w' → K v w'.heap → K' (a.put o.dst v) w') : o.wp P a w K' Q := by
  unfold Gives at hg
  unfold Oper.wp
  generalize (execOp a.eval o).run P w = r at *
  cases r with
  | halt x w' => exact hg.elim
  | ok n w' =>
    cases n <;> simp only [Oper.upon] at hg ⊢
    case value v => exact hk v w' (hr0.trans hg.1) hg.2
    case skip => exact hk _ w' (hr0.trans hg.1) hg.2
    case enter f args =>
      obtain ⟨rfl, hc⟩ := hg
      exact (hc w' rfl).mono fun e w'' ⟨v, he, hr, hv⟩ => by subst he; exact hk v w'' (hr0.trans hr) hv

theorem yielded_bool {L : List Oper} {a : Act} {ρ : Env} (hs : SimN N a ρ) {j s : Nat} {b : Bool} (hj : (getAt L j).bind (·.dst) = some s) (hg : ρ.get? s = some (.bool b)) :
    yielded L.toArray a.tmps j = some b := by
  unfold yielded
  have hj' : (L.toArray[j]?).bind (·.dst) = some s := by rw [getAt_eq] at hj; simpa using hj
  rw [hj']
  have := hs.2.2 s _ hg
  rw [Array.getD_eq_getD_getElem?] at this
  simp only [Option.bind_some]
  cases ht : a.tmps[s]? with
  | none => rw [ht] at this; simp [undef] at this
  | some v => rw [ht] at this; simp at this; subst this; rfl

theorem yielded_tuple {L : List Oper} {a : Act} {ρ : Env} (hs : SimN N a ρ) {j s : Nat} {vs : Array Value} (hj : (getAt L j).bind (·.dst) = some s) (hg : ρ.get? s = some (.tuple vs)) :
    yielded L.toArray a.tmps j = none := by
  unfold yielded
  have hj' : (L.toArray[j]?).bind (·.dst) = some s := by rw [getAt_eq] at hj; simpa using hj
  rw [hj']
  have := hs.2.2 s _ hg
  rw [Array.getD_eq_getD_getElem?] at this
  simp only [Option.bind_some]
  cases ht : a.tmps[s]? with
  | none => rfl
  | some v => rw [ht] at this; simp at this; subst this; rfl

/-- One operation, as the kit's walks have it. -/
theorem step_sound {L : List Oper} {o : Oper} {a : Act} {ρ : Env} {w0 : World} {K : Env → Heap → Prop} {K' : Act → World → Prop} {Q : Exit → Act → World → Prop} (hs : SimN N a ρ) (hr : Rest w0 w) (h : stepVc P qs N L o ρ w.heap K)
    (hk : ∀ a w, Post N w0 K a w → K' a w) :
    if Region.wanted o (yielded L.toArray a.tmps) then o.wp P a w K' Q ∨ (o.asks P a w ∧ LetsOut Q) else K' (a.put o.dst undef) w := by
  unfold stepVc at h
  split at h
  · exact h.elim
  · rename_i hd
    split at h
    · rename_i hg
      rw [if_pos (by simp [Region.wanted, hg])]
      exact .inl (wp_of_gives (op_sound hs.2.2 h) hr fun v w' hr' hv => hk _ _ ⟨_, hs.put hd, hr', hv⟩)
    · rename_i j want hg
      split at h
      · exact h.elim
      · rename_i s hj
        split at h
        · rename_i b hb
          have hy := yielded_bool hs hj hb
          have hw : Region.wanted o (yielded L.toArray a.tmps) = (b == want) := by simp [Region.wanted, hg, hy]
          rw [hw]
          have hs' : SimN N a ((s, .bool b) :: ρ) := hs.same hb
          cases b <;> cases want
          · rw [if_pos (by rfl)]; exact .inl (wp_of_gives (op_sound hs'.2.2 h) hr fun v w' hr' hv => hk _ _ ⟨_, hs'.put hd, hr', hv⟩)
          · rw [if_neg (by decide)]; exact hk _ _ ⟨_, hs'.put hd, hr, h⟩
          · rw [if_neg (by decide)]; exact hk _ _ ⟨_, hs'.put hd, hr, h⟩
          · rw [if_pos (by rfl)]; exact .inl (wp_of_gives (op_sound hs'.2.2 h) hr fun v w' hr' hv => hk _ _ ⟨_, hs'.put hd, hr', hv⟩)
        · rename_i vs hb
          have hy := yielded_tuple hs hj hb
          have hw : Region.wanted o (yielded L.toArray a.tmps) = false := by simp [Region.wanted, hg, hy]
          rw [hw]
          exact hk _ _ ⟨_, hs.put hd, hr, h⟩
        · exact h.elim

theorem seq_sound {L : List Oper} {Q : Exit → Act → World → Prop} {w0 : World} {K : Env → Heap → Prop} (hk : ∀ a w, Post N w0 K a w → Q .normal a w) : ∀ (l : List Oper) (a : Act) (ρ : Env) (w : World), SimN N a ρ → Rest w0 w → seqVc P qs N L l ρ w.heap K →
    wpList P L.toArray Q l a w
  | [], a, ρ, w, hs, hr, h => hk a w ⟨ρ, hs, hr, h⟩
  | o :: r, a, ρ, w, hs, hr, h => by
    unfold wpList
    exact step_sound (Q := Q) hs hr h fun a' w' ⟨ρ', hs', hr', h'⟩ => seq_sound hk r a' ρ' w' hs' hr' h'
end
end Go.Vc
/- What a quiet operation does is one value. -/
set_option linter.unusedVariables false
namespace Go.Vc

section
variable {P : Program}

/-- One value, whatever is asked of it. -/
def Dirac (F : (Value → Prop) → Prop) : Prop := ∀ K, F K → ∃ v, K v ∧ ∀ K' : Value → Prop, K' v → F K'

theorem dirac_withV {o : Option Value} {F : Value → (Value → Prop) → Prop} (h : ∀ v, Dirac (F v)) : Dirac fun K => withV o fun v => F v K := by
  intro K hK
  cases o with
  | none => exact hK.elim
  | some v => exact h v K hK
theorem dirac_withI {o : Option Value} {F : Int → (Value → Prop) → Prop} (h : ∀ v, Dirac (F v)) : Dirac fun K => withI o fun v => F v K := by
  intro K hK
  cases o with
  | none => exact hK.elim
  | some v => cases v <;> first | exact hK.elim | exact h _ K hK
theorem dirac_id {v : Value} : Dirac fun K => K v := fun K h => ⟨v, h, fun _ h => h⟩
theorem dirac_false : Dirac fun _ => False := fun K h => h.elim
theorem dirac_and {p : Prop} {F : (Value → Prop) → Prop} (h : Dirac F) : Dirac fun K => p ∧ F K :=
  fun K ⟨h0, h1⟩ => let ⟨v, hv, hr⟩ := h K h1; ⟨v, hv, fun K' hk => ⟨h0, hr K' hk⟩⟩
theorem dirac_deref {p : Option Addr} {F : Addr → (Value → Prop) → Prop} (h : ∀ a, Dirac (F a)) : Dirac fun K => deref p fun a => F a K := by
  intro K hK
  cases p with
  | none => exact hK.elim
  | some a => exact h a K hK
theorem dirac_exTy {T : Ty} {o : Option Value} : Dirac fun K => exTy T fun x => o = some x ∧ K x := by
  intro K hK
  cases T <;> simp only [exTy] at hK ⊢
  case int => obtain ⟨n, h, hk⟩ := hK; exact ⟨_, hk, fun _ h' => ⟨n, h, h'⟩⟩
  case bool => obtain ⟨n, h, hk⟩ := hK; exact ⟨_, hk, fun _ h' => ⟨n, h, h'⟩⟩
  case str => obtain ⟨n, h, hk⟩ := hK; exact ⟨_, hk, fun _ h' => ⟨n, h, h'⟩⟩
  case ptr => obtain ⟨n, h, hk⟩ := hK; exact ⟨_, hk, fun _ h' => ⟨n, h, h'⟩⟩
  case slice => obtain ⟨p, l, c, h, hk⟩ := hK; exact ⟨_, hk, fun _ h' => ⟨p, l, c, h, h'⟩⟩
  case map => obtain ⟨n, h, hk⟩ := hK; exact ⟨_, hk, fun _ h' => ⟨n, h, h'⟩⟩
  case agg => obtain ⟨n, h0, h, hk⟩ := hK; exact ⟨_, hk, fun _ h' => ⟨n, h0, h, h'⟩⟩
  case raw => obtain ⟨n, h, hk⟩ := hK; exact ⟨_, hk, fun _ h' => ⟨n, h, h'⟩⟩
  case addr => obtain ⟨n, h, hk⟩ := hK; exact ⟨_, hk, fun _ h' => ⟨n, h, h'⟩⟩
  case blk => obtain ⟨n, h, hk⟩ := hK; exact ⟨_, hk, fun _ h' => ⟨n, h, h'⟩⟩

theorem eqAgg_one {t : TypeId} {xs ys : Array Value} {K : Bool → Prop} (h : eqAgg P t xs ys K) : ∃ r, K r ∧ ∀ K' : Bool → Prop, K' r → eqAgg P t xs ys K' := by
  obtain ⟨la, lb, h1, h2, h3⟩ := h
  by_cases he : la = lb
  · refine ⟨true, h3 true (by simp [he]), fun K' hk => ⟨la, lb, h1, h2, fun r hr => ?_⟩⟩
    have : r = true := hr.2 he
    subst this; exact hk
  · refine ⟨false, h3 false (by simp [he]), fun K' hk => ⟨la, lb, h1, h2, fun r hr => ?_⟩⟩
    have : r = false := by cases r <;> simp_all
    subst this; exact hk

theorem nilEq_one {a b : Option Addr} {K : Bool → Prop} (h : nilEq a b K) : ∃ r, K r ∧ ∀ K' : Bool → Prop, K' r → nilEq a b K' := by
  cases b with
  | none => exact ⟨_, h, fun _ h => h⟩
  | some b => cases a with
    | none => exact ⟨_, h, fun _ h => h⟩
    | some a => exact h.elim

theorem dirac_bin {op : BinOp} {t : TypeId} {x y : Value} : Dirac fun K => binVc P op t x y K := by
  intro K h
  simp only at h ⊢
  unfold binVc at h ⊢
  split at h
  case h_1 => exact ⟨_, h.2, fun _ h' => ⟨h.1, h'⟩⟩
  case h_2 => exact ⟨_, h.2, fun _ h' => ⟨h.1, h'⟩⟩
  case h_3 =>
    split at h
    · rename_i heq
      subst heq
      try simp only [if_true]
      unfold intVc at h ⊢
      split at h
      all_goals first
        | exact ⟨_, h.2, fun _ h' => ⟨h.1, h'⟩⟩
        | (split at h
           · exact ⟨_, h, fun _ h' => h'⟩
           · exact h.elim)
        | exact h.elim
        | exact ⟨_, h, fun _ h' => h'⟩
    · exact h.elim
  all_goals first
    | exact h.elim
    | exact ⟨_, h, fun _ h' => h'⟩
    | (split at h
       · first
         | (obtain ⟨r, h1, h2⟩ := nilEq_one h
            exact ⟨_, h1, fun K' h' => h2 _ h'⟩)
         | (obtain ⟨r, h1, h2⟩ := eqAgg_one h
            exact ⟨_, h1, fun K' h' => h2 _ h'⟩)
         | exact ⟨_, h, fun _ h' => h'⟩
       · exact h.elim)

theorem dirac_un {op : UnOp} {x : Value} : Dirac fun K => unVc op x K := by
  intro K h
  simp only at h ⊢
  unfold unVc at h ⊢
  split at h <;> first | exact h.elim | exact ⟨_, h, fun _ h' => h'⟩

theorem dirac_part {t : TypeId} {cs : Array Value} {off : Nat} : Dirac fun K => partVc P t cs off K := by
  intro K h
  simp only at h ⊢
  unfold partVc at h ⊢
  split at h
  · exact ⟨_, h, fun _ h' => h'⟩
  · exact dirac_exTy K h
  · exact h.elim

theorem fill_one {pl : List (Nat × Nat)} : ∀ {ps : List (Nat × Value)} {ch : List (List Value)} {K : List (List Value) → Prop}, fillVc pl ch ps K → ∃ v, K v ∧ ∀ K' : List (List Value) → Prop, K' v → fillVc pl ch ps K'
  | [], ch, K, h => ⟨_, h, fun _ h => h⟩
  | (i, v) :: r, ch, K, h => by
    unfold fillVc at h ⊢
    split at h
    · split at h
      · obtain ⟨v, h1, h2⟩ := fill_one h.2
        exact ⟨v, h1, fun K' hk => ⟨h.1, h2 K' hk⟩⟩
      · split at h
        · obtain ⟨v, h1, h2⟩ := fill_one h
          exact ⟨v, h1, fun K' hk => h2 K' hk⟩
        · exact h.elim
    · exact h.elim
theorem parts_one {pl : List (Nat × Nat)} {zero : List Value} {ps : List (Nat × Value)} {K : List Value → Prop} (h : partsVc pl zero ps K) : ∃ v, K v ∧ ∀ K' : List Value → Prop, K' v → partsVc pl zero ps K' := by
  unfold partsVc at h ⊢
  split at h
  · obtain ⟨v, h1, h2⟩ := fill_one h
    exact ⟨_, h1, fun K' hk => h2 _ hk⟩
  · exact h.elim
theorem dirac_build {t : TypeId} {ps : List (Nat × Value)} : Dirac fun K => buildVc P t ps fun cs => K (.agg cs) := by
  intro K h
  simp only at h ⊢
  unfold buildVc at h ⊢
  split at h
  · split at h
    · obtain ⟨v, h1, h2⟩ := parts_one h
      exact ⟨_, h1, fun K' hk => h2 _ hk⟩
    · exact h.elim
  · split at h
    · obtain ⟨v, h1, h2⟩ := parts_one h
      exact ⟨_, h1, fun K' hk => h2 _ hk⟩
    · exact h.elim
  · exact h.elim
theorem dirac_sliceP {sz : Nat} {p : Option Addr} {l h m : Int} {c : Nat} : Dirac fun K => sliceP sz p l h m c fun p l c => K (.slice p l c) :=
  fun K ⟨a, b, c, d, e⟩ => ⟨_, e, fun _ e' => ⟨a, b, c, d, e'⟩⟩
theorem dirac_cut {sz : Nat} {p : Option Addr} {len cap : Nat} {lo hi mx : Option Value} : Dirac fun K => cutVc sz p len cap lo hi mx K := by
  intro K h
  simp only [cutVc] at h ⊢
  split at h
  · split at h
    · split at h
      · split at h
        · exact dirac_sliceP K h
        · exact dirac_sliceP K h
        · exact h.elim
      · split at h
        · exact dirac_sliceP K h
        · exact dirac_sliceP K h
        · exact h.elim
      · exact h.elim
    · exact h.elim
  · split at h
    · split at h
      · exact dirac_sliceP K h
      · exact dirac_sliceP K h
      · exact h.elim
    · split at h
      · exact dirac_sliceP K h
      · exact dirac_sliceP K h
      · exact h.elim
    · exact h.elim
  · exact h.elim
theorem dirac_slice {t : TypeId} {x : Value} {lo hi mx : Option Value} : Dirac fun K => sliceVc P t x lo hi mx K := by
  intro K h
  simp only [sliceVc] at h ⊢
  split at h
  · split at h
    · exact dirac_cut K h
    · exact h.elim
  · split at h
    · exact dirac_cut K h
    · exact h.elim
  · exact h.elim
theorem dirac_indexAddr {t : TypeId} {x : Value} {i : Int} : Dirac fun K => indexAddrVc P t x i K := by
  intro K h
  simp only [indexAddrVc] at h ⊢
  split at h
  · split at h
    · exact ⟨_, h.2.2, fun _ h' => ⟨h.1, h.2.1, h'⟩⟩
    · exact h.elim
  · split at h
    · obtain ⟨a, rfl, hk⟩ := deref_elim h.2.2
      exact ⟨_, hk, fun _ h' => ⟨h.1, h.2.1, h'⟩⟩
    · exact h.elim
  · exact h.elim
theorem dirac_index {t : TypeId} {x : Value} {i : Int} : Dirac fun K => indexVc P t x i K := by
  intro K h
  simp only [indexVc] at h ⊢
  split at h
  · obtain ⟨v, h1, h2⟩ := dirac_part K h.2.2
    exact ⟨v, h1, fun K' hk => ⟨h.1, h.2.1, h2 K' hk⟩⟩
  · obtain ⟨h0, b, h1, h2⟩ := h
    exact ⟨_, h2, fun K' hk => ⟨h0, b, h1, hk⟩⟩
  · exact h.elim

/-- Only computes. -/
def pureB (P : Program) : Op → Bool
  | .move _ | .assign _ | .pick .. | .build .. | .binOp .. | .unOp .. | .extract .. | .field .. | .index .. | .fieldAddr .. | .indexAddr .. | .nilCheck _ | .slice .. | .sliceToArrayPointer .. | .makeFunc .. => true
  | .convert _ d _ => (match P.underlying d with | some (.int _) => true | _ => false)
  | .call { callee := .builtin .len, .. } | .call { callee := .builtin .cap, .. } | .call { callee := .builtin .min, .. } | .call { callee := .builtin .max, .. } => true
  | _ => false
/-- Only reads. -/
def readB : Op → Bool
  | .load .. => true
  | _ => false
/-- Writes nothing that was there. -/
def growB (P : Program) (qs : List Nat) (op : Op) : Bool :=
  pureB P op || readB op || (match op with
    | .alloc _ | .box .. | .buildSlice .. | .makeSlice .. => true
    | .call { callee := .value (.func f), .. } => inL qs f
    | _ => false)

theorem br_one {b : Bool} {X Y : (Value → Prop) → Prop} (hx : Dirac X) (hy : Dirac Y) : Dirac fun K => br b (X K) (Y K) := by
  intro K h
  cases b
  · exact hy K h
  · exact hx K h

theorem pure_one {qs : List Nat} {op : Op} {ty : TypeId} {ρ : Env} {h : Heap} {K : Value → Heap → Prop} (hp : pureB P op = true) (hh : opVc P qs op ty ρ h K) :
    ∃ v, K v h ∧ ∀ (h' : Heap) (K' : Value → Heap → Prop), K' v h' → opVc P qs op ty ρ h' K' := by
  have use : ∀ {F : (Value → Prop) → Prop}, Dirac F → (F fun v => K v h) → ∃ v, K v h ∧ ∀ (h' : Heap) (K' : Value → Heap → Prop), K' v h' → F fun v => K' v h' := by
    intro F hd hF
    obtain ⟨v, hv, hr⟩ := hd _ hF
    exact ⟨v, hv, fun h' K' hk => hr _ hk⟩
  cases op <;> simp only [pureB, Bool.false_eq_true] at hp <;> simp only [opVc] at hh ⊢
  case move => exact use (F := fun K => withV _ fun v => K v) (dirac_withV fun _ => dirac_id) hh
  case assign => exact use (F := fun K => withV _ fun v => K v) (dirac_withV fun _ => dirac_id) hh
  case pick c a b =>
    obtain ⟨v, hv, hh⟩ := withV_elim hh
    rw [hv]
    simp only [withV] at hh ⊢
    split at hh
    · exact use (F := fun K => br _ (withV _ fun v => K v) (withV _ fun v => K v)) (br_one (dirac_withV fun _ => dirac_id) (dirac_withV fun _ => dirac_id)) hh
    · exact hh.elim
  case build =>
    split at hh
    · exact use (F := fun K => buildVc P _ _ fun cs => K (.agg cs)) dirac_build hh
    · exact hh.elim
  case nilCheck x =>
    obtain ⟨v, hv, hh⟩ := withV_elim hh
    rw [hv]
    simp only [withV] at hh ⊢
    split at hh
    · exact use (F := fun K => deref _ fun a => K (.pointer (some a))) (dirac_deref fun _ => dirac_id) hh
    · exact hh.elim
  case binOp => exact use (F := fun K => withV _ fun a => withV _ fun b => binVc P _ _ a b fun v => K v) (dirac_withV fun _ => dirac_withV fun _ => dirac_bin) hh
  case unOp => exact use (F := fun K => withV _ fun a => unVc _ a fun v => K v) (dirac_withV fun _ => dirac_un) hh
  case convert s d x =>
    obtain ⟨v, hv, hh⟩ := withV_elim hh
    rw [hv]
    simp only [withV] at hh ⊢
    unfold convVc at hh ⊢
    split at hp
    · rename_i k hd
      rw [hd] at hh ⊢
      split at hh
      · exact ⟨_, hh, fun _ _ h' => h'⟩
      all_goals first
        | exact hh.elim
        | (rename_i heq; cases heq; done)
    · cases hp
  case sliceToArrayPointer t x =>
    obtain ⟨v, hv, hh⟩ := withV_elim hh
    rw [hv]
    simp only [withV] at hh ⊢
    split at hh
    · obtain ⟨a, rfl, hk⟩ := deref_elim hh.2
      exact ⟨_, hk, fun _ _ h' => ⟨hh.1, h'⟩⟩
    · exact hh.elim
  case makeFunc =>
    split at hh
    · exact ⟨_, hh, fun _ _ h' => h'⟩
    · exact hh.elim
  case slice t x lo hi mx =>
    obtain ⟨v, hv, hh⟩ := withV_elim hh
    rw [hv]
    simp only [withV] at hh ⊢
    split at hh
    · exact use (F := fun K => sliceVc P _ _ _ _ _ fun u => K u) dirac_slice hh
    · exact hh.elim
  case fieldAddr t x i =>
    obtain ⟨v, hv, hh⟩ := withV_elim hh
    rw [hv]
    simp only [withV] at hh ⊢
    split at hh
    · split at hh
      · exact hh.elim
      · exact ⟨_, hh, fun _ _ h' => h'⟩
    · exact hh.elim
  case field t x i =>
    obtain ⟨v, hv, hh⟩ := withV_elim hh
    rw [hv]
    simp only [withV] at hh ⊢
    split at hh
    · exact use (F := fun K => partVc P _ _ _ fun u => K u) dirac_part hh
    · exact hh.elim
  case indexAddr => exact use (F := fun K => withV _ fun a => withI _ fun b => indexAddrVc P _ a b fun v => K v) (dirac_withV fun _ => dirac_withI fun _ => dirac_indexAddr) hh
  case index => exact use (F := fun K => withV _ fun a => withI _ fun b => indexVc P _ a b fun v => K v) (dirac_withV fun _ => dirac_withI fun _ => dirac_index) hh
  case extract x i =>
    obtain ⟨v, hv, hh⟩ := withV_elim hh
    rw [hv]
    simp only [withV] at hh ⊢
    split at hh
    · exact use (F := fun K => withV _ fun v => K v) (dirac_withV fun _ => dirac_id) hh
    · exact hh.elim
  case call c =>
    obtain ⟨callee, cargs, cts⟩ := c
    cases callee with
    | value f => simp at hp
    | invoke r m => simp at hp
    | builtin b =>
      simp only at hh ⊢
      split at hh
      · unfold builtinVc at hh ⊢
        split at hh
        · split at hh
          · exact ⟨_, hh, fun _ _ h' => h'⟩
          · exact ⟨_, hh, fun _ _ h' => h'⟩
          · exact ⟨_, hh, fun _ _ h' => h'⟩
          · split at hh
            · exact ⟨_, hh, fun _ _ h' => h'⟩
            · exact hh.elim
          · exact hh.elim
        · split at hh
          · exact ⟨_, hh, fun _ _ h' => h'⟩
          · exact hh.elim
        · split at hh
          · exact ⟨_, hh, fun _ _ h' => h'⟩
          · exact hh.elim
        · split at hh
          · exact ⟨_, hh, fun _ _ h' => h'⟩
          · exact hh.elim
        · simp at hp
        · simp at hp
        · exact hh.elim
      · exact hh.elim

theorem Ext.refl (h : Heap) : Ext h h := fun _ _ => rfl
theorem Ext.size {h h' : Heap} (he : Ext h h') : h.size ≤ h'.size := by
  rcases Nat.eq_zero_or_pos h.size with h0 | h0
  · omega
  · have := he (h.size - 1) (by omega)
    rw [Array.getElem?_eq_getElem (by omega : h.size - 1 < h.size)] at this
    have := (Array.getElem?_eq_some_iff.1 this).1
    omega
theorem Ext.trans {h h' h'' : Heap} (he : Ext h h') (he' : Ext h' h'') : Ext h h'' := fun b hb => (he' b (Nat.lt_of_lt_of_le hb he.size)).trans (he b hb)
theorem Ext.push (h : Heap) (o : Obj) : Ext h (h.push o) := fun b hb => by rw [Array.getElem?_push_lt hb]; exact (Array.getElem?_eq_getElem hb).symm
theorem cell_lt {h : Heap} {a : Addr} {v : Value} (hc : cell h a = some v) : a.block < h.size := by
  unfold cell at hc
  split at hc
  · rename_i hb; exact (Array.getElem?_eq_some_iff.1 hb).1
  · cases hc
theorem Ext.cell {h h' : Heap} (he : Ext h h') {a : Addr} {v : Value} (hc : Vc.cell h a = some v) : Vc.cell h' a = some v := by
  have := he a.block (cell_lt hc)
  unfold Vc.cell at *
  rw [this]; exact hc
theorem Ext.rowFrom {h h' : Heap} (he : Ext h h') {a : Addr} : ∀ (n i : Nat) (l : List Value), Vc.rowFrom h a i n = some l → Vc.rowFrom h' a i n = some l
  | 0, i, l, hr => hr
  | n + 1, i, l, hr => by
    simp only [Vc.rowFrom] at hr ⊢
    split at hr
    · rename_i v hv
      rw [he.cell hv]
      obtain ⟨l', hl', rfl⟩ := Option.map_eq_some_iff.1 hr
      simp [Ext.rowFrom he n (i + 1) l' hl']
    · cases hr
theorem Ext.row {h h' : Heap} (he : Ext h h') {a : Addr} {n : Nat} {cs : Array Value} (hr : Vc.row h a n = some cs) : Vc.row h' a n = some cs := by
  unfold Vc.row at *
  obtain ⟨l, hl, rfl⟩ := Option.map_eq_some_iff.1 hr
  rw [he.rowFrom n 0 l hl]; rfl

theorem exTy_cell {T : Ty} {h h' : Heap} (he : Ext h h') {a : Addr} {K : Value → Prop} (hK : exTy T fun x => cell h a = some x ∧ K x) :
    ∃ v, K v ∧ ∀ K' : Value → Prop, K' v → exTy T fun x => cell h' a = some x ∧ K' x := by
  cases T <;> simp only [exTy] at hK ⊢
  case int => obtain ⟨n, h, hk⟩ := hK; exact ⟨_, hk, fun _ h' => ⟨n, he.cell h, h'⟩⟩
  case bool => obtain ⟨n, h, hk⟩ := hK; exact ⟨_, hk, fun _ h' => ⟨n, he.cell h, h'⟩⟩
  case str => obtain ⟨n, h, hk⟩ := hK; exact ⟨_, hk, fun _ h' => ⟨n, he.cell h, h'⟩⟩
  case ptr => obtain ⟨n, h, hk⟩ := hK; exact ⟨_, hk, fun _ h' => ⟨n, he.cell h, h'⟩⟩
  case slice => obtain ⟨p, l, c, h, hk⟩ := hK; exact ⟨_, hk, fun _ h' => ⟨p, l, c, he.cell h, h'⟩⟩
  case map => obtain ⟨n, h, hk⟩ := hK; exact ⟨_, hk, fun _ h' => ⟨n, he.cell h, h'⟩⟩
  case agg => obtain ⟨n, h0, h, hk⟩ := hK; exact ⟨_, hk, fun _ h' => ⟨n, h0, he.cell h, h'⟩⟩
  case raw => obtain ⟨n, h, hk⟩ := hK; exact ⟨_, hk, fun _ h' => ⟨n, he.cell h, h'⟩⟩
  case addr => obtain ⟨n, h, hk⟩ := hK; exact ⟨_, hk, fun _ h' => ⟨n, he.cell h, h'⟩⟩
  case blk => obtain ⟨n, h, hk⟩ := hK; exact ⟨_, hk, fun _ h' => ⟨n, he.cell h, h'⟩⟩

theorem read_one {qs : List Nat} {op : Op} {ty : TypeId} {ρ : Env} {h : Heap} {K : Value → Heap → Prop} (hp : readB op = true) (hh : opVc P qs op ty ρ h K) :
    ∃ v, K v h ∧ ∀ (h' : Heap) (K' : Value → Heap → Prop), Ext h h' → K' v h' → opVc P qs op ty ρ h' K' := by
  cases op <;> simp only [readB, Bool.false_eq_true] at hp <;> simp only [opVc] at hh ⊢
  case load t x =>
    obtain ⟨v, hv, hh⟩ := withV_elim hh
    rw [hv]
    simp only [withV] at hh ⊢
    split at hh
    · split at hh
      · obtain ⟨cs, h1, h2⟩ := hh
        exact ⟨_, h2, fun h' K' he hk => ⟨cs, he.row h1, hk⟩⟩
      · rename_i a _ _
        have val : ∃ v, K v h ∧ ∀ (h' : Heap), Ext h h' → ∀ K' : Value → Prop, K' v → exTy (tyOf P t) fun x => cell h' a = some x ∧ K' x := by
          obtain ⟨v, h1, _⟩ := exTy_cell (Ext.refl h) (K := fun x => K x h) hh
          have hu : ∃ v, K v h ∧ (exTy (tyOf P t) fun x => cell h a = some x ∧ x = v) := by
            obtain ⟨v, h1, h2⟩ := exTy_cell (Ext.refl h) (K := fun x => K x h) hh
            exact ⟨v, h1, h2 (fun x => x = v) rfl⟩
          obtain ⟨v, h1, h2⟩ := hu
          refine ⟨v, h1, fun h' he K' hk => ?_⟩
          obtain ⟨u, h3, h4⟩ := exTy_cell he (K := fun x => x = v) h2
          exact h4 K' (by rw [h3]; exact hk)
        obtain ⟨v, h1, h2⟩ := val
        exact ⟨v, h1, fun h' K' he hk => h2 h' he (fun x => K' x h') hk⟩
      · exact hh.elim
    · exact hh.elim

theorem grow_one {qs : List Nat} {op : Op} {ty : TypeId} {ρ : Env} {h : Heap} {K : Value → Heap → Prop} (hp : growB P qs op = true) (hh : opVc P qs op ty ρ h K) :
    opVc P qs op ty ρ h fun v h' => K v h' ∧ Ext h h' := by
  unfold growB at hp
  simp only [Bool.or_eq_true] at hp
  rcases hp with (hp | hp) | hp
  · obtain ⟨v, h1, h2⟩ := pure_one hp hh
    exact h2 h _ ⟨h1, Ext.refl h⟩
  · obtain ⟨v, h1, h2⟩ := read_one hp hh
    exact h2 h _ (Ext.refl h) ⟨h1, Ext.refl h⟩
  · have blk : ∀ {t : TypeId} {cells : Array Value} {F : Nat → Heap → Prop}, newBlk h t cells F → newBlk h t cells fun b h' => F b h' ∧ Ext h h' :=
      fun hF b h' e1 e2 => ⟨hF b h' e1 e2, by rw [e2]; exact Ext.push h _⟩
    cases op <;> first | exact absurd hp Bool.false_ne_true | simp only [opVc] at hh ⊢
    case alloc =>
      split at hh
      · exact blk hh
      · exact hh
    case box => exact withV_mono (fun _ h => blk h) hh
    case buildSlice =>
      split at hh
      · unfold buildSliceVc at *
        split at hh
        · split at hh
          · split at hh
            · exact partsVc_mono (fun _ h => blk h) hh
            · split at hh
              · exact blk hh
              · exact hh
          · exact hh
        · exact hh
      · exact hh
    case makeSlice =>
      refine withI_mono (fun _ hh => withI_mono (fun _ hh => ?_) hh) hh
      split at hh
      · split at hh
        · exact ⟨hh.1, hh.2.1, hh.2.2.1, hh.2.2.2.1, blk hh.2.2.2.2⟩
        · exact hh
      · exact hh
    case call c =>
      obtain ⟨callee, cargs, cts⟩ := c
      cases callee with
      | invoke r m => simp at hp
      | builtin b => simp at hp
      | value f =>
        cases f with
        | tmp t => simp at hp
        | const v => simp at hp
        | global g => simp at hp
        | func f =>
          split at hh
          · simp only [opv, withV] at hh ⊢
            unfold callVc at hh ⊢
            have hp : inL qs f = true := hp
            rw [hp] at hh ⊢
            split at hh
            · exact hh.mono fun v h' hb => ⟨hb.1, back_mono (fun v hk => ⟨hk, hb.1⟩) hb.2⟩
            · split at hh
              · unfold externVc at hh ⊢
                split at hh
                · obtain ⟨xs, ys, h1, h2, h3⟩ := hh
                  exact ⟨xs, ys, h1, h2, h3, Ext.refl _⟩
                · exact hh
              · exact hh
          · exact hh
end
end Go.Vc
/- Regions that draw their order: a plan of which operation is taken when serves every order. -/
set_option linter.unusedVariables false
namespace Go.Vc

/-- How a region is gone through. 'take': this one may be taken first. 'alt': each of those that may come next. -/
inductive Plan where
  | done | stop
  | take (i : Nat) (p : Plan)
  | alt (i : Nat) (p q : Plan)

/-- At the region's end: each slot that it writes, in the order of the text. -/
def canon (ρ0 : Env) : List Oper → Env → Option Env
  | [], _ => some ρ0
  | o :: r, ρ => match o.dst with
    | none => canon ρ0 r ρ
    | some d => match ρ.get? d with
      | some v => canon ((d, v) :: ρ0) r ρ
      | none => none
def atEnd (ρ0 : Env) (L : List Oper) (K : Env → Heap → Prop) (ρ : Env) (h : Heap) : Prop := match canon ρ0 L ρ with | some ρ' => K ρ' h | none => False

def planVc (P : Program) (qs : List Nat) (N : Nat) (L : List Oper) (K : Env → Heap → Prop) : Plan → Env → Heap → Prop
  | .done, ρ, h => K ρ h
  | .stop, _, _ => True
  | .take i p, ρ, h => match getAt L i with | some o => stepVc P qs N L o ρ h (planVc P qs N L K p) | none => False
  | .alt i p .stop, ρ, h => (match getAt L i with | some o => stepVc P qs N L o ρ h (planVc P qs N L K p) | none => False)
  | .alt i p q, ρ, h => (match getAt L i with | some o => stepVc P qs N L o ρ h (planVc P qs N L K p) | none => False) ∧ planVc P qs N L K q ρ h

theorem plan_alt {P : Program} {qs : List Nat} {N : Nat} {L : List Oper} {K : Env → Heap → Prop} {i : Nat} {p q : Plan} {ρ : Env} {h : Heap} :
    planVc P qs N L K (.alt i p q) ρ h ↔ (match getAt L i with | some o => stepVc P qs N L o ρ h (planVc P qs N L K p) | none => False) ∧ planVc P qs N L K q ρ h := by
  cases q <;> simp [planVc]

/-- Those that need not wait for operation i: nothing among 'm' waits for it, and m is shut under 'all that it waits for is in m or listed'. -/
def shutB (ops : Array Oper) (listed m : Array Bool) (i : Nat) : Bool :=
  !(m.getD i true) && (List.range ops.size).all fun j => j == i || m.getD j false ||
    !((ops[j]?).map (·.after.all fun e => !Region.binds .any e || (e.on != i && (listed.getD e.on false || m.getD e.on false)))).getD false
/-- The greatest such set is found by rounds. -/
def waitsNot (ops : Array Oper) (listed : Array Bool) (i : Nat) : Nat → Array Bool → Array Bool
  | 0, m => m
  | n + 1, m => waitsNot ops listed i n ((List.range ops.size).foldl (fun m j => if j != i && ((ops[j]?).map (·.after.all fun e => !Region.binds .any e || (e.on != i && (listed.getD e.on false || m.getD e.on false)))).getD false then m.setIfInBounds j true else m) m)
def freeRead (P : Program) (qs : List Nat) (ops : Array Oper) (listed : Array Bool) (i : Nat) : Bool :=
  let m := waitsNot ops listed i 2 (Array.replicate ops.size false)
  shutB ops listed m i && (List.range ops.size).all fun j => listed.getD j false || !(m.getD j false) || ((ops[j]?).map fun o => growB P qs o.op).getD false
def mayFirst (P : Program) (qs : List Nat) (ops : Array Oper) (listed : Array Bool) (i : Nat) : Bool :=
  Region.free .any ops listed i && (match ops[i]? with
    | some o => pureB P o.op || (readB o.op && freeRead P qs ops listed i)
    | none => false)

def planOk (P : Program) (qs : List Nat) (ops : Array Oper) : Plan → Array Bool → Option (List Nat) → Bool
  | .done, listed, none => (Region.ready .any ops listed).isEmpty
  | .take i p, listed, none => (Region.ready .any ops listed).contains i && mayFirst P qs ops listed i && planOk P qs ops p (listed.setIfInBounds i true) none
  | .alt i p q, listed, none => (Region.ready .any ops listed).contains i && planOk P qs ops p (listed.setIfInBounds i true) none && planOk P qs ops q listed (some ((Region.ready .any ops listed).erase i))
  | .alt i p q, listed, some r => planOk P qs ops p (listed.setIfInBounds i true) none && planOk P qs ops q listed (some (r.erase i))
  | .stop, _, some r => r.isEmpty
  | _, _, _ => false

section
variable {P : Program} {qs : List Nat} {N : Nat} {L : List Oper}

def EnvEq (ρ ρ' : Env) : Prop := ∀ t, ρ.get? t = ρ'.get? t

theorem canon_eq {ρ0 : Env} : ∀ {L : List Oper} {ρ0 ρ ρ' : Env}, EnvEq ρ ρ' → canon ρ0 L ρ = canon ρ0 L ρ'
  | [], _, _, _, _ => rfl
  | o :: r, ρ0, ρ, ρ', h => by
    unfold canon
    split
    · exact canon_eq (ρ0 := ρ0) h
    · rename_i d hd
      rw [h d]
      split
      · exact canon_eq (ρ0 := ρ0) h
      · rfl

/-- What is asked at the end looks at the slots alone. -/
def Even (K : Env → Heap → Prop) : Prop := ∀ ρ ρ' h, EnvEq ρ ρ' → K ρ h → K ρ' h
theorem even_atEnd (ρ0 : Env) (L : List Oper) (K : Env → Heap → Prop) : Even (atEnd ρ0 L K) := by
  intro ρ ρ' h he hk
  unfold atEnd at *
  rw [← canon_eq (ρ0 := ρ0) he]
  exact hk

theorem opvs_congr {ρ ρ' : Env} : ∀ {xs : List Operand}, (∀ x ∈ xs, opv ρ x = opv ρ' x) → opvs ρ xs = opvs ρ' xs
  | [], _ => rfl
  | x :: r, h => by simp only [opvs, h x (by simp), opvs_congr (xs := r) (fun y hy => h y (by simp [hy]))]
theorem pairs_congr {ρ ρ' : Env} : ∀ {xs : List (Nat × Operand)}, (∀ x ∈ xs, opv ρ x.2 = opv ρ' x.2) → pairs ρ xs = pairs ρ' xs
  | [], _ => rfl
  | (i, x) :: r, h => by simp only [pairs, h (i, x) (by simp), pairs_congr (xs := r) (fun y hy => h y (by simp [hy]))]

theorem opVc_congr {op : Op} {ty : TypeId} {ρ ρ' : Env} {h : Heap} {K : Value → Heap → Prop} (hx : ∀ x ∈ op.operands, opv ρ x = opv ρ' x) : opVc P qs op ty ρ h K = opVc P qs op ty ρ' h K := by
  cases op <;> simp only [opVc]
  case call c =>
    have h1 : opvs ρ c.args.toList = opvs ρ' c.args.toList := opvs_congr fun x hx' => hx x (by simp [Op.operands, Call.operands]; right; exact Array.mem_toList_iff.1 hx')
    rw [h1]
    split
    · split
      · rename_i f hf
        rw [hx f (by simp [Op.operands, Call.operands, hf])]
      · rfl
      · rfl
    · rfl
  case slice t x lo hi mx =>
    rw [hx x (by simp [Op.operands])]
    have h1 : opvo ρ lo = opvo ρ' lo := by cases lo with | none => rfl | some y => simp only [opvo]; rw [hx y (by simp [Op.operands])]
    have h2 : opvo ρ hi = opvo ρ' hi := by cases hi with | none => rfl | some y => simp only [opvo]; rw [hx y (by simp [Op.operands])]
    have h3 : opvo ρ mx = opvo ρ' mx := by cases mx with | none => rfl | some y => simp only [opvo]; rw [hx y (by simp [Op.operands])]
    rw [h1, h2, h3]
  case build t ps => rw [pairs_congr (xs := ps.toList) fun x hx' => hx x.2 (by simp [Op.operands]; exact ⟨x.1, Array.mem_toList_iff.1 hx'⟩)]
  case buildSlice t n ps => rw [pairs_congr (xs := ps.toList) fun x hx' => hx x.2 (by simp [Op.operands]; exact ⟨x.1, Array.mem_toList_iff.1 hx'⟩)]
  case makeFunc fn first cap =>
    rw [opvs_congr (xs := first.toList) fun x hx' => hx x (by simp [Op.operands]; exact .inl (Array.mem_toList_iff.1 hx')), opvs_congr (xs := cap.toList) fun x hx' => hx x (by simp [Op.operands]; exact .inr (Array.mem_toList_iff.1 hx'))]
  case pick c a b => rw [hx c (by simp [Op.operands]), hx a (by simp [Op.operands]), hx b (by simp [Op.operands])]
  all_goals first
    | rfl
    | (rename_i x y _; rw [hx x (by simp [Op.operands]), hx y (by simp [Op.operands])])
    | (rename_i x y; rw [hx x (by simp [Op.operands]), hx y (by simp [Op.operands])])
    | (rename_i x _; rw [hx x (by simp [Op.operands])])
    | (rename_i x; rw [hx x (by simp [Op.operands])])
end
end Go.Vc

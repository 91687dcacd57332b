/- A calculus of weakest preconditions for the code of the model, over heaps alone: definitions. It speaks of no program. -/
import Derived.Orders
import Derived.Laws.AppendOwn
import Derived.WalkSpells
import Derived.DeepKeys
import Derived.Lib.Bytealg
import Derived.Lib.ConvBytes
namespace Go.Vc

abbrev Heap := Array Obj
abbrev Env := List (Nat × Value)

/- ### Heaps -/
def cell (h : Heap) (a : Addr) : Option Value :=
  match h[a.block]? with
  | some (.cells c _ _) => if a.spot.isSome then none else c[a.off]?
  | _ => none
def frz (h : Heap) (a : Addr) : Bool :=
  match h[a.block]? with
  | some (.cells _ _ (lo, hi)) => lo ≤ a.off && a.off < hi
  | _ => false
def put (h : Heap) (a : Addr) (v : Value) : Heap :=
  h.modify a.block fun
    | .cells c elem frozen => .cells (if a.spot.isSome then c else c.setIfInBounds a.off v) elem frozen
    | o => o
def rowFrom (h : Heap) (a : Addr) (i : Nat) : Nat → Option (List Value)
  | 0 => some []
  | n + 1 => match cell h (a.add i) with
    | some v => (rowFrom h a (i + 1) n).map (v :: ·)
    | none => none
/-- The n cells at an address. -/
def row (h : Heap) (a : Addr) (n : Nat) : Option (Array Value) := (rowFrom h a 0 n).map List.toArray
def putRow (h : Heap) (a : Addr) (i : Nat) : List Value → Heap
  | [] => h
  | v :: r => putRow (put h (a.add i) v) a (i + 1) r
/-- The cell may be written. -/
def wrt (h : Heap) (a : Addr) : Prop := (cell h a).isSome = true ∧ frz h a = false
def wrtRow (h : Heap) (a : Addr) (n : Nat) : Prop := ∀ i, i < n → wrt h (a.add i)

/- ### Calls, over heaps -/
def Rest (w w' : World) : Prop := w'.tape = w.tape ∧ w'.os = w.os ∧ w'.output = w.output
def CallsH (P : Program) (f : FuncId) (args : Array Value) (h : Heap) (R : Value → Heap → Prop) : Prop :=
  ∀ w : World, w.heap = h → Calls P f args w fun e w' => ∃ v, e = .returned v ∧ Rest w w' ∧ R v w'.heap

/- ### Types -/
inductive Ty where
  | int (k : IntKind) | bool | str | ptr | slice | map | agg (n : Nat) | raw | addr | blk
def szOf (P : Program) (t : TypeId) : Nat := match P.info? t with | some i => i.size | none => 0
def bytesOf (P : Program) (t : TypeId) : Nat := match P.info? t with | some i => i.bytes | none => 0
def zeroOf (P : Program) (t : TypeId) : Option Value := (P.info? t).bind (·.zero)
def aggB (P : Program) (t : TypeId) : Option Bool :=
  match P.underlying t, P.info? t with
  | some (.struct _), some _ => some true
  | some (.array _ _), some _ => some true
  | some _, some _ => some false
  | _, _ => none
def tyOf (P : Program) (t : TypeId) : Ty :=
  match P.underlying t with
  | some (.int k) => .int k
  | some .bool => .bool
  | some .string => .str
  | some (.pointer _) => .ptr
  | some (.slice _) => .slice
  | some (.map _ _) => .map
  | some (.struct _) => .agg (szOf P t)
  | some (.array _ _) => .agg (szOf P t)
  | _ => .raw
/-- Some value of a type. -/
def exTy (T : Ty) (K : Value → Prop) : Prop :=
  match T with
  | .int k => ∃ n : Int, K (.int k n)
  | .bool => ∃ b : Bool, K (.bool b)
  | .str => ∃ s : ByteArray, K (.string s)
  | .ptr => ∃ p : Option Addr, K (.pointer p)
  | .slice => ∃ (p : Option Addr) (l c : Nat), K (.slice p l c)
  | .map => ∃ r : Option Nat, K (.map r)
  | .agg n => ∃ cs : Array Value, cs.size = n ∧ K (.agg cs)
  | .raw => ∃ v : Value, K v
  | .addr => ∃ a : Addr, K (.pointer (some a))
  | .blk => ∃ b : Nat, K (.pointer (some ⟨b, 0, none⟩))
def exTys (P : Program) : List TypeId → (List Value → Prop) → Prop
  | [], K => K []
  | t :: ts, K => exTy (tyOf P t) fun v => exTys P ts fun vs => K (v :: vs)
/-- What a call hands back, by its type. -/
def back (P : Program) (t : TypeId) (v : Value) (K : Value → Prop) : Prop :=
  match P.underlying t with
  | some (.tuple ts) => exTys P ts.toList fun vs => v = .tuple vs.toArray ∧ K (.tuple vs.toArray)
  | _ => exTy (tyOf P t) fun x => v = x ∧ K x

/- ### Words of the formulas -/
/-- Two ways. -/
def br (b : Bool) (X Y : Prop) : Prop := match b with | true => X | false => Y
def deref (p : Option Addr) (K : Addr → Prop) : Prop := match p with | some a => K a | none => False
/-- The values at a slice's beginning. -/
def src (h : Heap) (p : Option Addr) (n : Nat) : Option (Array Value) := match p with | some a => row h a n | none => some #[]
def one (c : Array Value) : Prop := ∀ v ∈ c.toList, v.oneCell' = true
def newBlk (h : Heap) (t : TypeId) (cells : Array Value) (K : Nat → Heap → Prop) : Prop :=
  ∀ b h', b = h.size → h' = h.push (.cells cells t) → K b h'
def storeP (n : Option Nat) (h : Heap) (a : Addr) (v : Value) (K : Heap → Prop) : Prop :=
  match n with
  | none => v.oneCell' = true ∧ wrt h a ∧ ∀ h', h' = put h a v → K h'
  | some n => v.cells.size = n ∧ one v.cells ∧ wrtRow h a n ∧ ∀ h', h' = putRow h a 0 v.cells.toList → K h'
def appendP (e : TypeId) (sz bytes : Nat) (zero : Array Value) (p : Option Addr) (l c : Nat) (q : Option Addr) (n : Nat) (h : Heap) (K : Option Addr → Nat → Nat → Heap → Prop) : Prop :=
  ∃ news, src h q (n * sz) = some news ∧ one news ∧
    (l + n ≤ c → (∀ a, p = some a → wrtRow h (a.add (l * sz)) (n * sz)) ∧
      ∀ h', h' = (match p with | some a => putRow h (a.add (l * sz)) 0 news.toList | none => h) → K p (l + n) c h') ∧
    (c < l + n → l + n ≤ maxLen ∧ (l + n) * bytes ≤ 140737488355328 ∧ ∃ old, src h p (l * sz) = some old ∧
      ∀ c' b h', l + n ≤ c' → c' ≤ maxLen → b = h.size → h' = h.push (.cells (old ++ news ++ Builtin.zeroCells zero (c' - (l + n))) e) → K (some ⟨b, 0, none⟩) (l + n) c' h')
def copyP (sz : Nat) (p : Option Addr) (l : Nat) (q : Option Addr) (n : Nat) (h : Heap) (K : Int → Heap → Prop) : Prop :=
  ∃ news, src h q (Nat.min n l * sz) = some news ∧ one news ∧ (∀ a, p = some a → wrtRow h a (Nat.min n l * sz)) ∧
    ∀ h', h' = (match p with | some a => putRow h a 0 news.toList | none => h) → K (Nat.min n l : Nat) h'
def sliceP (sz : Nat) (p : Option Addr) (l h m : Int) (c : Nat) (K : Option Addr → Nat → Nat → Prop) : Prop :=
  0 ≤ l ∧ l ≤ h ∧ h ≤ m ∧ m ≤ c ∧
    K (if m.toNat = l.toNat then p else p.map (·.add (l.toNat * sz))) (h.toNat - l.toNat) (m.toNat - l.toNat)
def zeroRow (zero : Array Value) (n : Nat) : Array Value := (Array.range n).map (zero[· % zero.size]!)
def makeP (e : TypeId) (sz bytes : Nat) (zero : Array Value) (l c : Int) (h : Heap) (K : Nat → Heap → Prop) : Prop :=
  0 ≤ l ∧ l ≤ c ∧ c ≤ maxLen ∧ bytes * c ≤ 2 ^ 48 ∧
    newBlk h e (if c.toNat * sz = 0 then #[] else zeroRow zero (c.toNat * sz)) K

/- ### Environments -/
def Env.get? : Env → Nat → Option Value
  | [], _ => none
  | (s, v) :: r, t => match Nat.beq s t with | true => some v | false => Env.get? r t
def Env.put (ρ : Env) (d : Option Nat) (v : Value) : Env := match d with | some d => (d, v) :: ρ | none => ρ
def opv (ρ : Env) : Operand → Option Value
  | .tmp t => ρ.get? t
  | .const v => some v
  | .global g => some (.pointer (some ⟨g, 0, none⟩))
  | .func f => some (.func (.func f) #[] #[])
def opvs (ρ : Env) : List Operand → Option (List Value)
  | [] => some []
  | x :: r => match opv ρ x, opvs ρ r with
    | some v, some vs => some (v :: vs)
    | _, _ => none
def opvo (ρ : Env) : Option Operand → Option (Option Value)
  | none => some none
  | some x => (opv ρ x).map some

/- ### Operations -/
def cmpB (op : BinOp) (a b : Int) : Option Bool :=
  match op with
  | .eql => some (a == b) | .neq => some (a != b) | .lss => some (decide (a < b)) | .leq => some (decide (a ≤ b))
  | .gtr => some (decide (a > b)) | .geq => some (decide (a ≥ b)) | _ => none
def andI (k : IntKind) (a b : Int) : Int := k.wrap (BitVec.ofInt k.bits a &&& BitVec.ofInt k.bits b).toNat
def orI (k : IntKind) (a b : Int) : Int := k.wrap (BitVec.ofInt k.bits a ||| BitVec.ofInt k.bits b).toNat
def xorI (k : IntKind) (a b : Int) : Int := k.wrap (BitVec.ofInt k.bits a ^^^ BitVec.ofInt k.bits b).toNat
def andNotI (k : IntKind) (a b : Int) : Int := k.wrap (BitVec.ofInt k.bits a &&& ~~~BitVec.ofInt k.bits b).toNat
def shlI (k : IntKind) (a b : Int) : Int := k.wrap (a * 2 ^ (min b.toNat k.bits))
def shrI (k : IntKind) (a b : Int) : Int := a.fdiv (2 ^ (min b.toNat k.bits))
def intVc (op : BinOp) (k : IntKind) (a b : Int) (K : Value → Prop) : Prop :=
  match op with
  | .add => K (.int k (k.wrap (a + b)))
  | .sub => K (.int k (k.wrap (a - b)))
  | .mul => K (.int k (k.wrap (a * b)))
  | .quo => b ≠ 0 ∧ K (.int k (k.wrap (a.tdiv b)))
  | .rem => b ≠ 0 ∧ K (.int k (a.tmod b))
  | .and => K (.int k (andI k a b))
  | .or => K (.int k (orI k a b))
  | .xor => K (.int k (xorI k a b))
  | .andNot => K (.int k (andNotI k a b))
  | .shl | .shr => False
  | op => match cmpB op a b with | some t => K (.bool t) | none => False
/-- Two arrays or structs, held against each other. -/
def eqAgg (P : Program) (t : TypeId) (xs ys : Array Value) (K : Bool → Prop) : Prop :=
  ∃ la lb, P.keyLits 9 t xs.toList = some la ∧ P.keyLits 9 t ys.toList = some lb ∧ ∀ r : Bool, (r = true ↔ la = lb) → K r
def keyB (P : Program) (t : TypeId) : Bool :=
  P.keyTypeAt 9 t && !P.eqGuardType P.depth t && (match P.underlying t with | some (.array _ _) | some (.struct _) => true | _ => false)
/-- A pointer or a slice, held against nil. -/
def nilEq (a b : Option Addr) (K : Bool → Prop) : Prop :=
  match b with
  | none => K a.isNone
  | some _ => match a with | none => K false | some _ => False
def binVc (P : Program) (op : BinOp) (t : TypeId) (x y : Value) (K : Value → Prop) : Prop :=
  match op, x, y with
  | .shl, .int k a, .int _ b => 0 ≤ b ∧ K (.int k (shlI k a b))
  | .shr, .int k a, .int _ b => 0 ≤ b ∧ K (.int k (shrI k a b))
  | op, .int k a, .int k' b => if k = k' then intVc op k a b K else False
  | .eql, .bool a, .bool b => (match P.underlying t with | some .bool => K (.bool (a == b)) | _ => False)
  | .neq, .bool a, .bool b => (match P.underlying t with | some .bool => K (.bool (!(a == b))) | _ => False)
  | .eql, .pointer a, .pointer b => (match P.underlying t with | some (.pointer _) => nilEq a b fun t => K (.bool t) | _ => False)
  | .neq, .pointer a, .pointer b => (match P.underlying t with | some (.pointer _) => nilEq a b fun t => K (.bool (!t)) | _ => False)
  | .eql, .slice a _ _, .slice b _ _ => (match P.underlying t with | some (.slice _) => nilEq a b fun t => K (.bool t) | _ => False)
  | .neq, .slice a _ _, .slice b _ _ => (match P.underlying t with | some (.slice _) => nilEq a b fun t => K (.bool (!t)) | _ => False)
  | .eql, .string a, .string b => K (.bool (a.toList == b.toList))
  | .neq, .string a, .string b => K (.bool (!(a.toList == b.toList)))
  | .eql, .agg xs, .agg ys => (match keyB P t with | true => eqAgg P t xs ys fun r => K (.bool r) | false => False)
  | .neq, .agg xs, .agg ys => (match keyB P t with | true => eqAgg P t xs ys fun r => K (.bool (!r)) | false => False)
  | _, _, _ => False
def unVc (op : UnOp) (x : Value) (K : Value → Prop) : Prop :=
  match op, x with
  | .neg, .int k n => K (.int k (k.wrap (0 - n)))
  | .xor, .int k n => K (.int k (xorI k (if k.signed then -1 else k.max) n))
  | .not, .bool b => K (.bool !b)
  | _, _ => False
/-- A part of an array or a struct that is a value. -/
def partVc (P : Program) (t : TypeId) (cs : Array Value) (off : Nat) (K : Value → Prop) : Prop :=
  match aggB P t with
  | some true => K (.agg (cs.extract off (off + szOf P t)))
  | some false => exTy (tyOf P t) fun x => cs[off]? = some x ∧ K x
  | none => False
def asNat : Value → Option Int
  | .int _ n => some n
  | _ => none
/-- The cells of a struct or an array that is put together, part by part: the given parts, zero elsewhere. -/
def chunk : List Nat → List Value → List (List Value)
  | [], _ => []
  | n :: r, l => l.take n :: chunk r (l.drop n)
def flat : List (List Value) → List Value
  | [] => []
  | x :: r => x ++ flat r
def setAt : List (List Value) → Nat → List Value → List (List Value)
  | [], _, _ => []
  | _ :: r, 0, v => v :: r
  | x :: r, n + 1, v => x :: setAt r n v
def tilesB : Nat → List (Nat × Nat) → Bool
  | _, [] => true
  | off, (o, s) :: r => Nat.beq off o && tilesB (off + s) r
def evens (size : Nat) : Nat → Nat → List (Nat × Nat)
  | 0, _ => []
  | n + 1, off => (off, size) :: evens size n (off + size)
def places (P : Program) (t : TypeId) : Option (List (Nat × Nat)) :=
  match P.underlying t with
  | some (.struct fs) => some (fs.toList.map fun f => (f.offset, szOf P f.type))
  | _ => none
def getAt {α : Type} : List α → Nat → Option α
  | [], _ => none
  | x :: _, 0 => some x
  | _ :: r, n + 1 => getAt r n
def fillVc (pl : List (Nat × Nat)) (ch : List (List Value)) : List (Nat × Value) → (List (List Value) → Prop) → Prop
  | [], K => K ch
  | (i, v) :: r, K => match getAt pl i with
    | some (_, n) => match v with
      | .agg cs => cs.size = n ∧ fillVc pl (setAt ch i cs.toList) r K
      | v => match Nat.beq n 1 with
        | true => fillVc pl (setAt ch i [v]) r K
        | false => False
    | none => False
/-- All parts laid out over 'zero'. -/
def partsVc (pl : List (Nat × Nat)) (zero : List Value) (ps : List (Nat × Value)) (K : List Value → Prop) : Prop :=
  match tilesB 0 pl && Nat.beq ((pl.map (·.2)).sum) zero.length with
  | true => fillVc pl (chunk (pl.map (·.2)) zero) ps fun ch => K (flat ch)
  | false => False
def pairs (ρ : Env) : List (Nat × Operand) → Option (List (Nat × Value))
  | [] => some []
  | (i, x) :: r => match opv ρ x, pairs ρ r with
    | some v, some vs => some ((i, v) :: vs)
    | _, _ => none
def withV (o : Option Value) (K : Value → Prop) : Prop := match o with | some v => K v | none => False
def withI (o : Option Value) (K : Int → Prop) : Prop := match o with | some (.int _ n) => K n | _ => False
def fieldOf (P : Program) (t : TypeId) (i : Nat) : Option Field :=
  match P.underlying t with | some (.struct fs) => getAt fs.toList i | _ => none
def callableB (P : Program) (f : FuncId) : Bool :=
  match P.funcs[f]? with | some fn => fn.body.isSome && fn.name != "runtime.NumGoroutine" | none => false
def markH (h : Heap) (a : Addr) : Heap :=
  match h[a.block]? with
  | some (.cells c _ _) => h.modify a.block fun
      | .cells c' elem (lo, hi) => .cells c' elem (if lo == hi then (c.size, c.size + 1) else (min lo c.size, max hi (c.size + 1)))
      | o => o
  | _ => h
/-- Bytes, as cells. -/
def bcs (xs : List UInt8) : List Value := xs.map fun b => .int .u8 (b.toNat : Int)
def convVc (P : Program) (s d : TypeId) (x : Value) (h : Heap) (K : Value → Heap → Prop) : Prop :=
  match P.underlying s, P.underlying d, x with
  | some _, some (.int k), .int _ n => K (.int k (k.wrap n)) h
  | some (.slice _), some (.slice e), .slice (some a) l c =>
    (match Nat.beq s d, P.underlying e with | true, some (.int .u8) => (∃ t n, (match h[a.block]? with | some (.cells c' t' _) => some (t', c'.size) | _ => none) = some (t, n)) ∧ ∀ h', h' = markH h a → K (.slice (some a) l c) h' | _, _ => False)
  | some _, some (.slice e), .string s => (match P.underlying e with
    | some (.int .u8) => s.size ≤ maxLen ∧ ∀ c' b h', s.size ≤ c' → c' ≤ maxLen → b = h.size →
      h' = h.push (.cells ((bcs s.data.toList).toArray ++ Array.replicate (c' - s.size) (.int .u8 0)) e (c', c' + 1)) → K (.slice (some ⟨b, 0, none⟩) s.size c') h'
    | _ => False)
  | some (.slice e), some .string, .slice p l _ => (match P.underlying e with
    | some (.int .u8) => ∃ xs : List UInt8, src h p l = some (bcs xs).toArray ∧ K (.string ⟨xs.toArray⟩) h
    | _ => False)
  | _, _, _ => False
def inL : List Nat → Nat → Bool
  | [], _ => false
  | x :: r, n => Nat.beq x n || inL r n
/-- Nothing that was there has changed. -/
def Ext (h h' : Heap) : Prop := ∀ b, b < h.size → h'[b]? = h[b]?
/-- Functions without a body that the model has an entry for. -/
def externB (P : Program) (f : FuncId) : Bool :=
  match P.funcs[f]? with | some fn => fn.body.isNone && fn.name == "internal/bytealg.Compare" && fn.origin == "" | none => false
def externVc (args : List Value) (h : Heap) (K : Value → Heap → Prop) : Prop :=
  match args with
  | [.slice p l _, .slice q n _] => ∃ xs ys : List UInt8, src h p l = some (bcs xs).toArray ∧ src h q n = some (bcs ys).toArray ∧ K (.int .i64 (Lib.compareBytes xs ys)) h
  | _ => False
/-- A call; 'qs': the functions whose calls only make new memory. -/
def callVc (P : Program) (qs : List Nat) (f : FuncId) (t : TypeId) (args : List Value) (h : Heap) (K : Value → Heap → Prop) : Prop :=
  match callableB P f with
  | true => (match inL qs f with
    | true => CallsH P f args.toArray h fun v h' => Ext h h' ∧ back P t v fun v => K v h'
    | false => CallsH P f args.toArray h fun v h' => back P t v fun v => K v h')
  | false => (match externB P f with | true => externVc args h K | false => False)
def minI (a b : Int) : Int := if b < a then b else a
def maxI (a b : Int) : Int := if b > a then b else a
def foldI (f : Int → Int → Int) : Int → List Value → Option Int
  | a, [] => some a
  | a, .int _ b :: r => foldI f (f a b) r
  | _, _ => none
def builtinVc (P : Program) (b : Builtin) (ts : List TypeId) (args : List Value) (h : Heap) (K : Value → Heap → Prop) : Prop :=
  match b, ts, args with
  | .len, [t], [x] => (match P.underlying t, x with
    | some (.slice _), .slice _ n _ => K (.int .i64 (n : Nat)) h
    | some (.array n _), _ => K (.int .i64 (n : Nat)) h
    | some .string, .string s => K (.int .i64 (s.size : Nat)) h
    | some (.pointer e), _ => (match P.underlying e with | some (.array n _) => K (.int .i64 (n : Nat)) h | _ => False)
    | _, _ => False)
  | .cap, [t], [x] => (match P.underlying t, x with
    | some (.slice _), .slice _ _ n => K (.int .i64 (n : Nat)) h
    | _, _ => False)
  | .min, _, .int k a :: r => (match foldI minI a r with | some n => K (.int k n) h | none => False)
  | .max, _, .int k a :: r => (match foldI maxI a r with | some n => K (.int k n) h | none => False)
  | .append, [t, u], [.slice p l c, .slice q n _] => (match P.underlying t, P.underlying u with
    | some (.slice e), some (.slice _) => (match zeroOf P e with
      | some z => appendP e (szOf P e) (bytesOf P e) z.cells p l c q n h fun p l c h => K (.slice p l c) h
      | none => False)
    | _, _ => False)
  | .copy, [t, _], [.slice p l _, .slice q n _] => (match P.underlying t with
    | some (.slice e) => (match P.info? e with | some _ => copyP (szOf P e) p l q n h fun n h => K (.int .i64 n) h | none => False)
    | _ => False)
  | _, _, _ => False
/-- Where a slice is cut: low, high, max. -/
def cutVc (sz : Nat) (p : Option Addr) (len cap : Nat) (lo hi mx : Option Value) (K : Value → Prop) : Prop :=
  let go (l h m : Int) : Prop := sliceP sz p l h m cap fun p l c => K (.slice p l c)
  let lows (k : Int → Prop) : Prop := match lo with | some (.int _ l) => k l | none => k 0 | _ => False
  let highs (k : Int → Prop) : Prop := match hi with | some (.int _ h) => k h | none => k len | _ => False
  match mx with
  | some (.int _ m) => (match hi with | some _ => lows fun l => highs fun h => go l h m | none => False)
  | none => lows fun l => highs fun h => go l h cap
  | _ => False
def sliceVc (P : Program) (t : TypeId) (x : Value) (lo hi mx : Option Value) (K : Value → Prop) : Prop :=
  match P.underlying t, x with
  | some (.array n e), .pointer (some a) => (match P.info? e with | some i => cutVc i.size (some a) n n lo hi mx K | none => False)
  | some (.slice e), .slice p l c => (match P.info? e with | some i => cutVc i.size p l c lo hi mx K | none => False)
  | _, _ => False
def indexAddrVc (P : Program) (t : TypeId) (x : Value) (i : Int) (K : Value → Prop) : Prop :=
  match P.underlying t, x with
  | some (.array n e), .pointer (some a) => (match P.info? e with | some j => 0 ≤ i ∧ i < (n : Nat) ∧ K (.pointer (some (a.add (i.toNat * j.size)))) | none => False)
  | some (.slice e), .slice p n _ => (match P.info? e with | some j => 0 ≤ i ∧ i < (n : Nat) ∧ deref p fun a => K (.pointer (some (a.add (i.toNat * j.size)))) | none => False)
  | _, _ => False
def indexVc (P : Program) (t : TypeId) (x : Value) (i : Int) (K : Value → Prop) : Prop :=
  match P.underlying t, x with
  | some (.array n e), .agg cs => 0 ≤ i ∧ i < (n : Nat) ∧ partVc P e cs (i.toNat * szOf P e) K
  | some .string, .string s => 0 ≤ i ∧ ∃ b : UInt8, s[i.toNat]? = some b ∧ K (.int .u8 (b.toNat : Int))
  | _, _ => False
def buildVc (P : Program) (t : TypeId) (ps : List (Nat × Value)) (K : Array Value → Prop) : Prop :=
  match P.underlying t, zeroOf P t with
  | some (.struct fs), some z => (match fs.toList.all (fun f => (P.info? f.type).isSome), places P t with
    | true, some l => partsVc l z.cells.toList ps fun l => K l.toArray
    | _, _ => False)
  | some (.array n e), some z => (match P.info? e with | some i => partsVc (evens i.size n 0) z.cells.toList ps fun l => K l.toArray | none => False)
  | _, _ => False
def zerosL (zero : List Value) : Nat → List Value
  | 0 => []
  | n + 1 => zero ++ zerosL zero n
def buildSliceVc (P : Program) (t : TypeId) (n : Nat) (ps : List (Nat × Value)) (h : Heap) (K : Value → Heap → Prop) : Prop :=
  match P.underlying t with
  | some (.slice e) => (match P.info? e, zeroOf P e with
    | some i, some z => (match Nat.ble (n * i.size) 16777216 && Nat.beq z.cells.size i.size && Nat.blt 0 (n * i.size) with
      | true => partsVc (evens i.size n 0) (zerosL z.cells.toList n) ps fun l => newBlk h e l.toArray fun b h' => K (.slice (some ⟨b, 0, none⟩) n n) h'
      | false => match n, ps with
        | 0, [] => newBlk h e #[] fun b h' => K (.slice (some ⟨b, 0, none⟩) 0 0) h'
        | _, _ => False)
    | _, _ => False)
  | _ => False

/-- What an operation does: its value, and the heap behind it. -/
def opVc (P : Program) (qs : List Nat) (op : Op) (ty : TypeId) (ρ : Env) (h : Heap) (K : Value → Heap → Prop) : Prop :=
  match op with
  | .move x => withV (opv ρ x) fun v => K v h
  | .assign x => withV (opv ρ x) fun v => K v h
  | .pick c a b => withV (opv ρ c) fun c => (match c with
    | .bool t => br t (withV (opv ρ a) fun v => K v h) (withV (opv ρ b) fun v => K v h)
    | _ => False)
  | .alloc e => (match zeroOf P e with | some z => newBlk h e z.cells fun b h' => K (.pointer (some ⟨b, 0, none⟩)) h' | none => False)
  | .box e x => withV (opv ρ x) fun v => newBlk h e v.cells fun b h' => K (.pointer (some ⟨b, 0, none⟩)) h'
  | .build t ps => (match pairs ρ ps.toList with | some ps => buildVc P t ps fun cs => K (.agg cs) h | none => False)
  | .buildSlice t n ps => (match pairs ρ ps.toList with | some ps => buildSliceVc P t n ps h K | none => False)
  | .load t x => withV (opv ρ x) fun v => (match v with
    | .pointer (some a) => (match aggB P t with
      | some true => ∃ cs, row h a (szOf P t) = some cs ∧ K (.agg cs) h
      | some false => exTy (tyOf P t) fun x => cell h a = some x ∧ K x h
      | none => False)
    | _ => False)
  | .store t x y => withV (opv ρ x) fun v => withV (opv ρ y) fun u => (match v with
    | .pointer (some a) => (match aggB P t with
      | some true => storeP (some (szOf P t)) h a u fun h' => K undef h'
      | some false => (match Nat.beq (szOf P t) 1 with | true => storeP none h a u fun h' => K undef h' | false => False)
      | none => False)
    | _ => False)
  | .nilCheck x => withV (opv ρ x) fun v => (match v with
    | .pointer p => deref p fun a => K (.pointer (some a)) h
    | _ => False)
  | .binOp op t x y _ => withV (opv ρ x) fun a => withV (opv ρ y) fun b => binVc P op t a b fun v => K v h
  | .unOp op _ x => withV (opv ρ x) fun a => unVc op a fun v => K v h
  | .convert s d x => withV (opv ρ x) fun a => convVc P s d a h K
  | .sliceToArrayPointer t x => withV (opv ρ x) fun v => (match P.underlying t, v with
    | some (.array n _), .slice p l _ => n ≤ l ∧ deref p fun a => K (.pointer (some a)) h
    | _, _ => False)
  | .makeFunc fn first cap => (match opvs ρ first.toList, opvs ρ cap.toList with
    | some a, some b => K (.func fn a.toArray b.toArray) h
    | _, _ => False)
  | .makeSlice t l c => withI (opv ρ l) fun l => withI (opv ρ c) fun c => (match P.underlying t with
    | some (.slice e) => (match zeroOf P e with
      | some z => makeP e (szOf P e) (bytesOf P e) z.cells l c h fun b h => K (.slice (some ⟨b, 0, none⟩) l.toNat c.toNat) h
      | none => False)
    | _ => False)
  | .slice t x lo hi mx => withV (opv ρ x) fun v => (match opvo ρ lo, opvo ρ hi, opvo ρ mx with
    | some lo, some hi, some mx => sliceVc P t v lo hi mx fun u => K u h
    | _, _, _ => False)
  | .fieldAddr t x i => withV (opv ρ x) fun v => (match v, fieldOf P t i with
    | .pointer (some a), some f => (match Nat.beq (szOf P f.type) 0 with | true => False | false => K (.pointer (some (a.add f.offset))) h)
    | _, _ => False)
  | .field t x i => withV (opv ρ x) fun v => (match v, fieldOf P t i with
    | .agg cs, some f => partVc P f.type cs f.offset fun u => K u h
    | _, _ => False)
  | .indexAddr t x i => withV (opv ρ x) fun v => withI (opv ρ i) fun i => indexAddrVc P t v i fun u => K u h
  | .index t x i => withV (opv ρ x) fun v => withI (opv ρ i) fun i => indexVc P t v i fun u => K u h
  | .extract x i => withV (opv ρ x) fun v => (match v with
    | .tuple vs => withV (getAt vs.toList i) fun u => K u h
    | _ => False)
  | .call c => (match opvs ρ c.args.toList with
    | some args => (match c.callee with
      | .value f => withV (opv ρ f) fun v => (match v with
        | .func (.func f) first cap => callVc P qs f ty (first.toList ++ (args ++ cap.toList)) h K
        | _ => False)
      | .builtin b => builtinVc P b c.argTypes.toList args h K
      | _ => False)
    | none => False)
  | _ => False
end Go.Vc

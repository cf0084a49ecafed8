/-
  An abstract machine over frozen values and owned objects, shown sound. Conditions: those that each theorem names.
-/
import Derived.Calls
import Derived.KernelRfl
import Derived.Laws.AppendOwn
import Derived.Laws.Cells
import Derived.Laws.StructEq
import Derived.Laws.BytesString
import Derived.Laws.MakeOwn
import Derived.Laws.RangeString
import Derived.Laws.Slices
import Derived.WideLaws
import Derived.Lib.Strings
import Derived.Laws.OwnMore
import Derived.Lib.OthersKept
import Derived.OrdersIn
import Derived.RangeFuncCalls
namespace Go.Fw

/-- what is told by its contents: never written again -/
inductive FV where
  | v (x : Value)
  | agg (xs : List FV)
  | tup (xs : List FV)
  | sl (sz : Nat) (xs : List FV)
  | p (x : FV) (off : Nat)
  | m (kv : List (Value × FV))
  | clo (f : FuncId) (first cap : List FV)

/-- a value in a slot: frozen, or it leads to an object of the call's own (by name) -/
inductive AV where
  | f (x : FV)
  | agg (xs : List AV)
  | tup (xs : List AV)
  | ptr (id off : Nat)
  | rp (id sz i off : Nat)
  | sl (id sz off len : Nat)
  | mp (id : Nat)
  | it (id : Nat)
  | clo (f : FuncId) (first cap : List AV)
  | g (x : AV)

inductive AO where
  | cells (T : TypeId) (cs : List AV)
  | row (T : TypeId) (sz : Nat) (xs : List FV)
  | map (kv : List (Value × FV))
  /-- a map whose last key has this stamp, and no value yet -/
  | mape (kv : List (Value × FV)) (stamp : Nat)
  | siter (s : List UInt8) (pos : Nat)

abbrev Heap := List (Nat × AO)
structure St where
  t : List (Nat × AV)
  h : Heap
  n : Nat

def lk {β : Type} (n : Nat) : List (Nat × β) → Option β
  | [] => none
  | (m, v) :: l => match n == m with | true => some v | false => lk n l

def hset (n : Nat) (o : AO) : Heap → Heap
  | [] => []
  | (m, x) :: l => match n == m with | true => (n, o) :: l | false => (m, x) :: hset n o l

def hdel (n : Nat) : Heap → Heap
  | [] => []
  | (m, x) :: l => match n == m with | true => hdel n l | false => (m, x) :: hdel n l

def St.put (σ : St) (d : Option Nat) (v : AV) : St := match d with | some d => ⟨(d, v) :: σ.t, σ.h, σ.n⟩ | none => σ

inductive TD where
  | int (k : IntKind) | bool | str | slice (e : TypeId) | array (n : Nat) (e : TypeId)
  | struct (fs : List (Nat × TypeId)) | ptr (e : TypeId) | map (k e : TypeId) | func | iface | other
structure TK where
  sz : Nat
  bytes : Nat
  agg : Bool
  zero : FV
  desc : TD

def FV.cells : FV → List FV
  | .agg xs => xs
  | x => [x]
def AV.cells : AV → List AV
  | .agg xs => xs
  | .f (.agg xs) => xs.map .f
  | x => [x]

def bl (s : ByteArray) : List UInt8 := s.data.toList
abbrev str (l : List UInt8) : Value := .string ⟨⟨l⟩⟩
abbrev AV.s (x : Value) : AV := .f (.v x)
theorem bl_mk (l : List UInt8) : bl ⟨⟨l⟩⟩ = l := rfl

def strip : AV → Bool × AV
  | .g x => (false, (strip x).2)
  | x => (true, x)
def mkg (c : Bool) (x : AV) : AV := bif c then x else .g x
theorem strip_mkg (c : Bool) (v : AV) : strip (mkg c v) = (c && (strip v).1, (strip v).2) := by
  cases c <;> simp [mkg, strip]
theorem mkg_true (v : AV) : mkg true v = v := rfl

def tdOf (P : Program) : TypeDesc → TD
  | .int k => .int k
  | .bool => .bool
  | .string => .str
  | .slice e => .slice e
  | .array n e => .array n e
  | .struct fs => if fs.all (fun f => match P.info? f.type with | some i => i.size != 0 | none => false) then .struct (fs.toList.map fun f => (f.offset, f.type)) else .other
  | .pointer e => .ptr e
  | .map k e => .map k e
  | .func .. => .func
  | .interface _ => .iface
  | _ => .other
def zFV : Value → FV
  | .agg cs => .agg (cs.toList.map .v)
  | x => .v x
def isAggD : TypeDesc → Bool
  | .struct _ => true
  | .array .. => true
  | _ => false
def zKind (d : TypeDesc) : Value → Bool
  | .agg _ => isAggD d
  | .tuple _ => false
  | _ => !isAggD d
def tk (P : Program) (t : TypeId) : Option TK := match P.info? t, P.underlying t with
  | some i, some d => match i.zero with
    | some z => match z.cells.size == i.size && z.cells.all Value.oneCell' && zKind d z with
      | true => some { sz := i.size, bytes := i.bytes, agg := isAggD d, zero := zFV z, desc := tdOf P d }
      | false => none
    | none => none
  | _, _ => none

section
variable (tk : TypeId → Option TK)

def constAV (v : Value) : Option AV := match v with
  | .bool b => some (.s (.bool b))
  | .int k n => some (.s (.int k n))
  | .string s => some (.s (.string s))
  | .pointer none => some (.s (.pointer none))
  | .slice none 0 0 => some (.s (.slice none 0 0))
  | .map none => some (.s (.map none))
  | .nilFunc => some (.s .nilFunc)
  | .nilIface => some (.s .nilIface)
  | _ => none
def evo (σ : St) : Operand → Option AV
  | .tmp t => lk t σ.t
  | .const v => constAV v
  | .func f => some (.clo f [] [])
  | .global _ => none
def evs : Option AV → Option (Bool × AV)
  | some v => some (strip v)
  | none => none
def ev (σ : St) (x : Operand) : Option (Bool × AV) := evs (evo σ x)
def evl (σ : St) : List Operand → Option (Bool × List AV)
  | [] => some (true, [])
  | x :: xs => match ev σ x, evl σ xs with
    | some (c, v), some (d, vs) => some (c && d, v :: vs)
    | _, _ => none

inductive Res where
  | val (need : Prop) (v : AV) (σ : St)
  | call (need : Prop) (f : FuncId) (args : List AV)
  | bad

def bopInt (op : BinOp) (k : IntKind) (a : Int) (k' : IntKind) (b : Int) : Prop × Value := match op with
  | .add => (k = k', .int k (k.wrap (a + b)))
  | .sub => (k = k', .int k (k.wrap (a - b)))
  | .mul => (k = k', .int k (k.wrap (a * b)))
  | .quo => (k = k' ∧ b ≠ 0, .int k (k.wrap (a.tdiv b)))
  | .rem => (k = k' ∧ b ≠ 0, .int k (a.tmod b))
  | .and => (k = k', .int k (k.wrap (BitVec.ofInt k.bits a &&& BitVec.ofInt k.bits b).toNat))
  | .or => (k = k', .int k (k.wrap (BitVec.ofInt k.bits a ||| BitVec.ofInt k.bits b).toNat))
  | .xor => (k = k', .int k (k.wrap (BitVec.ofInt k.bits a ^^^ BitVec.ofInt k.bits b).toNat))
  | .andNot => (k = k', .int k (k.wrap (BitVec.ofInt k.bits a &&& ~~~ BitVec.ofInt k.bits b).toNat))
  | .shl => (0 ≤ b, .int k (k.wrap (a * 2 ^ (min b.toNat k.bits))))
  | .shr => (0 ≤ b, .int k (a.fdiv (2 ^ (min b.toNat k.bits))))
  | .eql => (k = k', .bool (a == b))
  | .neq => (k = k', .bool (a != b))
  | .lss => (k = k', .bool (decide (a < b)))
  | .leq => (k = k', .bool (decide (a ≤ b)))
  | .gtr => (k = k', .bool (decide (a > b)))
  | .geq => (k = k', .bool (decide (a ≥ b)))

def bopStr (op : BinOp) (s t : List UInt8) : Option (Prop × Value) := match op with
  | .add => some (s.length + t.length ≤ 9223372036854775807, str (s ++ t))
  | .eql => some (True, .bool (s == t))
  | .neq => some (True, .bool (!(s == t)))
  | .lss => some (True, .bool (Op.bytesLess s t))
  | .leq => some (True, .bool (Op.bytesLess s t || s == t))
  | .gtr => some (True, .bool (!(Op.bytesLess s t || s == t)))
  | .geq => some (True, .bool (!Op.bytesLess s t))
  | _ => none

def bopBool (op : BinOp) (a b : Bool) : Option (Prop × Value) := match op with
  | .eql => some (True, .bool (a == b))
  | .neq => some (True, .bool (!(a == b)))
  | _ => none

def bopV (op : BinOp) (T : TypeId) : Value → Value → Option (Prop × Value)
  | .int k a, .int k' b => some (bopInt op k a k' b)
  | .string s, .string t => bopStr op (bl s) (bl t)
  | .bool a, .bool b => match tk T with
    | some ⟨_, _, _, _, .bool⟩ => bopBool op a b
    | _ => none
  | _, _ => none

def resV (σ : St) (c : Prop) : Option (Prop × Value) → Res
  | some (n, r) => .val (c ∧ n) (.s r) σ
  | none => .bad

def aBin (σ : St) (op : BinOp) (T : TypeId) : Option (Bool × AV) → Option (Bool × AV) → Res
  | some (c, .f (.v x)), some (d, .f (.v y)) => resV σ (c = true ∧ d = true) (bopV tk op T x y)
  | _, _ => .bad

def aPick (σ : St) : Option (Bool × AV) → Option (Bool × AV) → Option (Bool × AV) → Res
  | some (c1, .f (.v (.bool c))), some (c2, .f (.v (.bool a))), some (c3, .f (.v (.bool b))) =>
    .val (c1 = true ∧ (c = true → c2 = true) ∧ (c = false → c3 = true)) (.s (.bool (bif c then a else b))) σ
  | _, _, _ => .bad

def aMove (σ : St) : Option (Bool × AV) → Res
  | some (c, v) => .val (c = true) v σ
  | none => .bad

def aNot (σ : St) : Option (Bool × AV) → Res
  | some (c, .f (.v (.bool b))) => .val (c = true) (.s (.bool (!b))) σ
  | _ => .bad
def aNeg (σ : St) : Option (Bool × AV) → Res
  | some (c, .f (.v (.int k n))) => .val (c = true) (.s (.int k (k.wrap (0 - n)))) σ
  | _ => .bad
def aXor (σ : St) : Option (Bool × AV) → Res
  | some (c, .f (.v (.int k n))) => .val (c = true) (.s (.int k (k.wrap (BitVec.ofInt k.bits (if k.signed then -1 else k.max) ^^^ BitVec.ofInt k.bits n).toNat))) σ
  | _ => .bad

def fvByte : FV → UInt8
  | .v (.int _ n) => UInt8.ofNat n.toNat
  | _ => 0
def FV.isByte : FV → Prop
  | .v (.int .u8 _) => True
  | _ => False
def u8 (b : UInt8) : FV := .v (.int .u8 b.toNat)

/-- the elements of a slice, of whatever form (sz: how many cells one is to have) -/
def rdSl (σ : St) (sz : Nat) : AV → Option (Prop × List FV)
  | .f (.sl sz' xs) => some (sz' = sz, xs)
  | .f (.v (.slice none 0 0)) => some (True, [])
  | .sl id sz' off len => match lk id σ.h with
    | some (.row _ sz'' xs) => some (sz' = sz ∧ sz'' = sz ∧ off + len ≤ xs.length, (xs.drop off).take len)
    | _ => none
  | _ => none

def aConv (σ : St) : Option (Bool × AV) → Option TK → Option TK → Res
  | some (c, .f (.v (.int _ n))), some ⟨_, _, _, _, .int _⟩, some ⟨_, _, _, _, .int k⟩ => .val (c = true) (.s (.int k (k.wrap n))) σ
  | some (c, .f (.v (.string s))), some ⟨_, _, _, _, .str⟩, some ⟨_, _, _, _, .str⟩ => .val (c = true) (.s (.string s)) σ
  | some (c, .f (.v (.string s))), some ⟨_, _, _, _, .str⟩, some ⟨_, _, _, _, .slice e⟩ => match tk e with
    | some ⟨_, _, _, _, .int .u8⟩ => .val (c = true ∧ (bl s).length < 9223372036854775808) (.f (.sl 1 ((bl s).map u8))) σ
    | _ => .bad
  | some (c, v), some ⟨_, _, _, _, .slice e⟩, some ⟨_, _, _, _, .str⟩ => match tk e, rdSl σ 1 v with
    | some ⟨_, _, _, _, .int .u8⟩, some (n, xs) => .val (c = true ∧ n ∧ ∀ x ∈ xs, FV.isByte x) (.s (str (xs.map fvByte))) σ
    | _, _ => .bad
  | _, _, _ => .bad

def aNil (σ : St) : Option (Bool × AV) → Res
  | some (c, .ptr id off) => .val (c = true) (.ptr id off) σ
  | some (c, .rp id sz i off) => .val (c = true) (.rp id sz i off) σ
  | some (c, .f (.p x off)) => .val (c = true) (.f (.p x off)) σ
  | some (c, .clo f a b) => .val (c = true) (.clo f a b) σ
  | some (c, .f (.clo f a b)) => .val (c = true) (.f (.clo f a b)) σ
  | _ => .bad

def newCells (σ : St) (c : Prop) (T : TypeId) (cs : List AV) : Res := .val c (.ptr σ.n 0) ⟨σ.t, (σ.n, .cells T cs) :: σ.h, σ.n + 1⟩

def aAlloc (σ : St) (T : TypeId) : Option TK → Res
  | some k => newCells σ True T (AV.f k.zero).cells
  | none => .bad
def AV.one : AV → Bool
  | .agg _ => false
  | .tup _ => false
  | .g _ => false
  | .f (.agg _) => false
  | .f (.tup _) => false
  | _ => true
def aBox (σ : St) (T : TypeId) : Option (Bool × AV) → Res
  | some (c, v) => newCells σ (c = true ∧ v.cells.all AV.one = true) T v.cells
  | none => .bad

def ldAgg (a : Bool) (need1 need2 : Prop) (v1 v2 : AV) (σ : St) : Res := match a with | true => .val need1 v1 σ | false => .val need2 v2 σ

def aLoad (σ : St) : Option (Bool × AV) → Option TK → Res
  | some (c, .ptr id off), some k => match lk id σ.h with
    | some (.cells _ cs) => ldAgg k.agg (c = true ∧ off + k.sz ≤ cs.length) (c = true ∧ off < cs.length) (.agg ((cs.drop off).take k.sz)) (cs.getD off (.f k.zero)) σ
    | _ => .bad
  | some (c, .rp id sz i off), some k => match lk id σ.h with
    | some (.row _ sz' xs) => ldAgg k.agg (c = true ∧ sz = sz' ∧ i < xs.length ∧ off + k.sz ≤ sz) (c = true ∧ sz = sz' ∧ i < xs.length ∧ off < sz)
        (.f (.agg (((xs.getD i k.zero).cells.drop off).take k.sz))) (.f ((xs.getD i k.zero).cells.getD off k.zero)) σ
    | _ => .bad
  | some (c, .f (.p x off)), some k =>
    ldAgg k.agg (c = true ∧ off + k.sz ≤ x.cells.length) (c = true ∧ off < x.cells.length) (.f (.agg ((x.cells.drop off).take k.sz))) (.f (x.cells.getD off k.zero)) σ
  | _, _ => .bad

def writeAt {α : Type} (cs : List α) (off : Nat) : List α → List α
  | [] => cs
  | v :: vs => writeAt (cs.set off v) (off + 1) vs

/-- an owned slice is frozen where it is put into something: its name goes -/
def release (σ : St) : AV → Option (Prop × FV × St)
  | .sl id sz off len => match lk id σ.h with
    | some (.row _ sz' xs) => some (sz = sz' ∧ off + len ≤ xs.length, .sl sz ((xs.drop off).take len), ⟨σ.t, hdel id σ.h, σ.n⟩)
    | _ => none
  | .agg xs => match rels σ xs with | some (c, ys, σ') => some (c, .agg ys, σ') | none => none
  | .tup xs => match rels σ xs with | some (c, ys, σ') => some (c, .tup ys, σ') | none => none
  | .clo f a b => match rels σ a with
    | some (c, as, σ1) => match rels σ1 b with
      | some (d, bs, σ2) => some (c ∧ d, .clo f as bs, σ2)
      | none => none
    | none => none
  | .f x => some (True, x, σ)
  | _ => none
where rels (σ : St) : List AV → Option (Prop × List FV × St)
  | [] => some (True, [], σ)
  | x :: xs => match release σ x with
    | some (c, y, σ1) => match rels σ1 xs with
      | some (d, ys, σ2) => some (c ∧ d, y :: ys, σ2)
      | none => none
    | none => none

def FV.okE : FV → Bool
  | .tup _ => false
  | _ => true
def aStoreRow (c : Prop) (id i off sz : Nat) (k : TK) (T : TypeId) (sz' : Nat) (xs : List FV) : Option (Prop × FV × St) → Res
  | some (d, y, σ') => .val (c ∧ d ∧ lk id σ'.h = some (.row T sz' xs) ∧ i < xs.length ∧ off + k.sz ≤ sz ∧ sz = sz' ∧ y.cells.length = k.sz ∧ y.okE = true ∧ k.sz ≠ 0) (.tup [])
      ⟨σ'.t, hset id (.row T sz' (xs.set i (bif sz == 1 then y else .agg (writeAt (xs.getD i k.zero).cells off y.cells)))) σ'.h, σ'.n⟩
  | none => .bad
def aStore (σ : St) : Option (Bool × AV) → Option (Bool × AV) → Option TK → Res
  | some (c, .ptr id off), some (d, v), some k => match lk id σ.h with
    | some (.cells U cs) => .val (c = true ∧ d = true ∧ v.cells.length = k.sz ∧ off + k.sz ≤ cs.length ∧ v.cells.all AV.one = true) (.tup []) ⟨σ.t, hset id (.cells U (writeAt cs off v.cells)) σ.h, σ.n⟩
    | _ => .bad
  | some (c, .rp id sz i off), some (d, v), some k => match lk id σ.h with
    | some (.row T sz' xs) => aStoreRow (c = true ∧ d = true) id i off sz k T sz' xs (release σ v)
    | _ => .bad
  | _, _, _ => .bad

def fldAt (i : Nat) : Option TK → Option (Nat × TypeId)
  | some ⟨_, _, _, _, .struct fs⟩ => fs[i]?
  | _ => none
def aFieldAddr (σ : St) : Option (Bool × AV) → Option (Nat × TypeId) → Res
  | some (c, .ptr id off), some (o, _) => .val (c = true) (.ptr id (off + o)) σ
  | some (c, .rp id sz i off), some (o, _) => .val (c = true) (.rp id sz i (off + o)) σ
  | some (c, .f (.p x off)), some (o, _) => .val (c = true) (.f (.p x (off + o))) σ
  | _, _ => .bad

def partOf (σ : St) (c : Prop) (cs : List AV) (o : Nat) : Option TK → Res
  | some k => ldAgg k.agg (c ∧ o + k.sz ≤ cs.length) (c ∧ o < cs.length) (.agg ((cs.drop o).take k.sz)) (cs.getD o (.f k.zero)) σ
  | none => .bad
def aField (σ : St) : Option (Bool × AV) → Option (Nat × TypeId) → Res
  | some (c, .agg cs), some (o, e) => partOf σ (c = true) cs o (tk e)
  | some (c, .f (.agg cs)), some (o, e) => match tk e with
    | some k => ldAgg k.agg (c = true ∧ o + k.sz ≤ cs.length) (c = true ∧ o < cs.length) (.f (.agg ((cs.drop o).take k.sz))) (.f (cs.getD o k.zero)) σ
    | none => .bad
  | _, _ => .bad

def idxAddrE (σ : St) (c : Prop) (n : Int) : AV → Option TK → Res
  | .f (.sl sz xs), some k => .val (c ∧ 0 ≤ n ∧ n < xs.length ∧ k.sz = sz) (.f (.p (xs.getD n.toNat k.zero) 0)) σ
  | .sl id sz off len, some k => .val (c ∧ 0 ≤ n ∧ n < len ∧ k.sz = sz) (.rp id sz (off + n.toNat) 0) σ
  | _, _ => .bad
def arrAddrE (σ : St) (c : Prop) (n : Int) (len : Nat) : AV → Option TK → Res
  | .ptr id off, some k => .val (c ∧ 0 ≤ n ∧ n < len) (.ptr id (off + n.toNat * k.sz)) σ
  | .rp id sz i off, some k => .val (c ∧ 0 ≤ n ∧ n < len) (.rp id sz i (off + n.toNat * k.sz)) σ
  | .f (.p x off), some k => .val (c ∧ 0 ≤ n ∧ n < len) (.f (.p x (off + n.toNat * k.sz))) σ
  | _, _ => .bad
def aIndexAddr (σ : St) : Option (Bool × AV) → Option (Bool × AV) → Option TK → Res
  | some (c, v), some (d, .f (.v (.int _ n))), some ⟨_, _, _, _, .slice e⟩ => idxAddrE σ (c = true ∧ d = true) n v (tk e)
  | some (c, v), some (d, .f (.v (.int _ n))), some ⟨_, _, _, _, .array len e⟩ => arrAddrE σ (c = true ∧ d = true) n len v (tk e)
  | _, _, _ => .bad

def arrIdx (σ : St) (c : Prop) (n : Int) (len : Nat) (cs : List AV) : Option TK → Res
  | some k => ldAgg k.agg (c ∧ 0 ≤ n ∧ n < len ∧ n.toNat * k.sz + k.sz ≤ cs.length) (c ∧ 0 ≤ n ∧ n < len ∧ n.toNat * k.sz < cs.length) (.agg ((cs.drop (n.toNat * k.sz)).take k.sz)) (cs.getD (n.toNat * k.sz) (.f k.zero)) σ
  | none => .bad
def aIndex (σ : St) : Option (Bool × AV) → Option (Bool × AV) → Option TK → Res
  | some (c, .f (.v (.string s))), some (d, .f (.v (.int _ n))), some ⟨_, _, _, _, .str⟩ =>
    .val (c = true ∧ d = true ∧ 0 ≤ n ∧ n < (bl s).length) (.s (.int .u8 ((bl s).getD n.toNat 0).toNat)) σ
  | some (c, .agg cs), some (d, .f (.v (.int _ n))), some ⟨_, _, _, _, .array len e⟩ => arrIdx σ (c = true ∧ d = true) n len cs (tk e)
  | some (c, .f (.agg cs)), some (d, .f (.v (.int _ n))), some ⟨_, _, _, _, .array len e⟩ => arrIdx σ (c = true ∧ d = true) n len (cs.map .f) (tk e)
  | _, _, _ => .bad

/-- the bounds of a slice expression: what must hold, from, to -/
def bnds (σ : St) (len : Nat) : Option Operand → Option Operand → Option (Prop × Nat × Nat)
  | none, none => some (True, 0, len)
  | some l, none => match ev σ l with
    | some (c, .f (.v (.int _ l))) => some (c = true ∧ 0 ≤ l ∧ l ≤ len, l.toNat, len)
    | _ => none
  | none, some h => match ev σ h with
    | some (c, .f (.v (.int _ h))) => some (c = true ∧ 0 ≤ h ∧ h ≤ len, 0, h.toNat)
    | _ => none
  | some l, some h => match ev σ l, ev σ h with
    | some (c, .f (.v (.int _ l))), some (d, .f (.v (.int _ h))) => some (c = true ∧ d = true ∧ 0 ≤ l ∧ l ≤ h ∧ h ≤ len, l.toNat, h.toNat)
    | _, _ => none
def slStr (σ : St) (c : Prop) (s : List UInt8) : Option (Prop × Nat × Nat) → Res
  | some (n, l, h) => .val (c ∧ n) (.s (str ((s.take h).drop l))) σ
  | none => .bad
def slF (σ : St) (c : Prop) (sz : Nat) (xs : List FV) : Option (Prop × Nat × Nat) → Option TK → Res
  | some (n, l, h), some k => .val (c ∧ n ∧ k.sz = sz) (.f (.sl sz ((xs.take h).drop l))) σ
  | _, _ => .bad
def slO (σ : St) (c : Prop) (id sz off : Nat) : Option (Prop × Nat × Nat) → Option TK → Res
  | some (n, l, h), some k => .val (c ∧ n ∧ k.sz = sz) (.sl id sz (off + l) (h - l)) σ
  | _, _ => .bad
def aSlice (σ : St) (lo hi : Option Operand) : Option (Bool × AV) → Option TK → Res
  | some (c, .f (.v (.string s))), some ⟨_, _, _, _, .str⟩ => slStr σ (c = true) (bl s) (bnds σ (bl s).length lo hi)
  | some (c, .f (.sl sz xs)), some ⟨_, _, _, _, .slice e⟩ => slF σ (c = true) sz xs (bnds σ xs.length lo hi) (tk e)
  | some (c, .sl id sz off len), some ⟨_, _, _, _, .slice e⟩ => slO σ (c = true) id sz off (bnds σ len lo hi) (tk e)
  | _, _ => .bad

def aExtract (σ : St) (i : Nat) : Option (Bool × AV) → Res
  | some (c, .tup vs) => aMove σ (match vs[i]? with | some v => some (c, v) | none => none)
  | some (c, .f (.tup vs)) => aMove σ (match vs[i]? with | some v => some (c, .f v) | none => none)
  | _ => .bad

def bldParts (σ : St) (fs : List (Nat × TypeId)) : List (Nat × Operand) → Prop → List AV → Option (Prop × List AV)
  | [], need, cs => some (need, cs)
  | (i, x) :: ps, need, cs => match ev σ x, fs[i]? with
    | some (c, v), some (o, e) => match tk e with
      | some ke => bldParts σ fs ps (need ∧ c = true ∧ v.cells.length = ke.sz ∧ o + ke.sz ≤ cs.length ∧ v.cells.all AV.one = true) (writeAt cs o v.cells)
      | none => none
    | _, _ => none
def aggRes (σ : St) : Option (Prop × List AV) → Res
  | some (need, cs) => .val need (.agg cs) σ
  | none => .bad
def arrFs (n : Nat) (sz : Nat) (e : TypeId) : List (Nat × TypeId) := (List.range n).map fun i => (i * sz, e)
def aBuild (σ : St) (ps : List (Nat × Operand)) : Option TK → Res
  | some ⟨_, _, _, z, .struct fs⟩ => aggRes σ (bldParts tk σ fs ps True (AV.f z).cells)
  | some ⟨_, _, _, z, .array n e⟩ => match tk e with
    | some k => aggRes σ (bldParts tk σ (arrFs n k.sz e) ps True (AV.f z).cells)
    | none => .bad
  | _ => .bad

/-- the parts of a slice's literal, as frozen elements -/
def bslParts (σ : St) (sz : Nat) : List (Nat × Operand) → Prop → List FV → Option (Prop × List FV × St)
  | [], need, xs => some (need, xs, σ)
  | (i, x) :: ps, need, xs => match ev σ x with
    | some (c, v) => match release σ v with
      | some (d, y, σ') => bslParts σ' sz ps (need ∧ c = true ∧ d ∧ i < xs.length ∧ y.cells.length = sz ∧ y.okE = true) (xs.set i y)
      | none => none
    | none => none
def bslRes (T : TypeId) (sz len : Nat) : Option (Prop × List FV × St) → Res
  | some (need, xs, σ) => .val (need ∧ len * sz ≤ 16777216 ∧ len ≤ 16777216) (.sl σ.n sz 0 len) ⟨σ.t, (σ.n, .row T sz xs) :: σ.h, σ.n + 1⟩
  | none => .bad
def bslE (σ : St) (len : Nat) (ps : List (Nat × Operand)) (e : TypeId) : Option TK → Res
  | some k => bslRes e k.sz len (bslParts σ k.sz ps True (List.replicate len k.zero))
  | none => .bad
def aBuildSlice (σ : St) (len : Nat) (ps : List (Nat × Operand)) : Option TK → Res
  | some ⟨_, _, _, _, .slice e⟩ => bslE σ len ps e (tk e)
  | _ => .bad

def mkSl (σ : St) (c : Prop) (l cp : Int) (e : TypeId) : Option TK → Res
  | some k => .val (c ∧ 0 ≤ l ∧ l ≤ cp ∧ cp * k.bytes ≤ 281474976710656 ∧ cp ≤ 281474976710656 ∧ k.sz ≠ 0) (.sl σ.n k.sz 0 l.toNat) ⟨σ.t, (σ.n, .row e k.sz (List.replicate l.toNat k.zero)) :: σ.h, σ.n + 1⟩
  | none => .bad
def aMakeSlice (σ : St) : Option (Bool × AV) → Option (Bool × AV) → Option TK → Res
  | some (c, .f (.v (.int _ l))), some (d, .f (.v (.int _ cp))), some ⟨_, _, _, _, .slice e⟩ => mkSl σ (c = true ∧ d = true) l cp e (tk e)
  | _, _, _ => .bad

def aLen (σ : St) : Option (Bool × AV) → Option TK → Res
  | some (c, .f (.v (.string s))), some ⟨_, _, _, _, .str⟩ => .val (c = true) (.s (.int .i64 (bl s).length)) σ
  | some (c, .f (.sl _ xs)), some ⟨_, _, _, _, .slice _⟩ => .val (c = true) (.s (.int .i64 xs.length)) σ
  | some (c, .f (.v (.slice none 0 0))), some ⟨_, _, _, _, .slice _⟩ => .val (c = true) (.s (.int .i64 0)) σ
  | some (c, .sl _ _ _ len), some ⟨_, _, _, _, .slice _⟩ => .val (c = true) (.s (.int .i64 len)) σ
  | _, _ => .bad

def apRow (σ : St) (c : Prop) (bytes : Nat) (T : TypeId) (sz : Nat) (xs ys : List FV) (h : Heap) : Res :=
  .val (c ∧ (xs.length + ys.length) * bytes ≤ 140737488355328 ∧ xs.length + ys.length ≤ 140737488355328) (.sl σ.n sz 0 (xs.length + ys.length)) ⟨σ.t, (σ.n, .row T sz (xs ++ ys)) :: h, σ.n + 1⟩
def apE (σ : St) (c : Prop) (e : TypeId) (k : TK) : AV → Option (Prop × List FV) → Res
  | .f (.v (.slice none 0 0)), some (n, ys) => apRow σ (c ∧ n ∧ k.sz ≠ 0) k.bytes e k.sz [] ys σ.h
  | .sl id sz off len, some (n, ys) => match lk id σ.h with
    | some (.row T sz' xs) => apRow σ (c ∧ n ∧ k.sz ≠ 0 ∧ off = 0 ∧ len ≤ xs.length ∧ sz = k.sz ∧ sz' = k.sz ∧ T = e) k.bytes e k.sz (xs.take len) ys (hdel id σ.h)
    | _ => .bad
  | _, _ => .bad
def apT (σ : St) (c : Prop) (e : TypeId) (s x : AV) : Option TK → Res
  | some k => apE σ c e k s (rdSl σ k.sz x)
  | none => .bad
def aAppend (σ : St) (T U : TypeId) : Option (Bool × AV) → Option (Bool × AV) → Option TK → Res
  | some (c, s), some (d, x), some ⟨_, _, _, _, .slice e⟩ => apT σ (T = U ∧ c = true ∧ d = true) e s x (tk e)
  | _, _, _ => .bad

def aRange (σ : St) : Option (Bool × AV) → Option TK → Res
  | some (c, .f (.v (.string s))), some ⟨_, _, _, _, .str⟩ => .val (c = true) (.it σ.n) ⟨σ.t, (σ.n, .siter (bl s) 0) :: σ.h, σ.n + 1⟩
  | _, _ => .bad
def dec (s : List UInt8) (pos : Nat) : Nat × Nat := Utf8.decode ⟨⟨s⟩⟩ pos
def nextS (σ : St) (c : Prop) (id : Nat) (s : List UInt8) (pos : Nat) : Bool → Res
  | true => .val (c ∧ pos < s.length) (.tup [.s (.bool true), .s (.int .i64 pos), .s (.int .i32 (dec s pos).1)]) ⟨σ.t, hset id (.siter s (pos + (dec s pos).2)) σ.h, σ.n⟩
  | false => .val (c ∧ ¬ pos < s.length) (.tup [.s (.bool false)]) σ
def aNext (σ : St) : Option (Bool × AV) → Bool → Res
  | some (c, .it id), true => match lk id σ.h with
    | some (.siter s pos) => nextS σ (c = true) id s pos (decide (pos < s.length))
    | _ => .bad
  | _, _ => .bad

def aMkFunc (σ : St) (fn : Fn) : Option (Bool × List AV) → Option (Bool × List AV) → Res
  | some (c, a), some (d, b) => match fn with
    | .func f => .val (c = true ∧ d = true) (.clo f a b) σ
    | _ => .bad
  | _, _ => .bad

def aCallV : Option (Bool × AV) → Option (Bool × List AV) → Res
  | some (c, .clo f first cap), some (d, vs) => .call (c = true ∧ d = true) f (first ++ (vs ++ cap))
  | some (c, .f (.clo f first cap)), some (d, vs) => .call (c = true ∧ d = true) f (first.map .f ++ (vs ++ cap.map .f))
  | _, _ => .bad

def aop (σ : St) (op : Op) : Res := match op with
  | .move x => aMove σ (ev σ x)
  | .assign x => aMove σ (ev σ x)
  | .pick c a b => aPick σ (ev σ c) (ev σ a) (ev σ b)
  | .binOp op T x y _ => aBin tk σ op T (ev σ x) (ev σ y)
  | .unOp .not _ x => aNot σ (ev σ x)
  | .unOp .neg _ x => aNeg σ (ev σ x)
  | .unOp .xor _ x => aXor σ (ev σ x)
  | .convert s d x => aConv tk σ (ev σ x) (tk s) (tk d)
  | .nilCheck x => aNil σ (ev σ x)
  | .alloc T => aAlloc σ T (tk T)
  | .box T x => aBox σ T (ev σ x)
  | .load T x => aLoad σ (ev σ x) (tk T)
  | .store T x y => aStore σ (ev σ x) (ev σ y) (tk T)
  | .fieldAddr S x i => aFieldAddr σ (ev σ x) (fldAt i (tk S))
  | .field S x i => aField tk σ (ev σ x) (fldAt i (tk S))
  | .indexAddr T x i => aIndexAddr tk σ (ev σ x) (ev σ i) (tk T)
  | .index T x i => aIndex tk σ (ev σ x) (ev σ i) (tk T)
  | .slice T x lo hi none => aSlice tk σ lo hi (ev σ x) (tk T)
  | .extract x i => aExtract σ i (ev σ x)
  | .build T ps => aBuild tk σ ps.toList (tk T)
  | .buildSlice T len ps => aBuildSlice tk σ len ps.toList (tk T)
  | .makeSlice T l c => aMakeSlice tk σ (ev σ l) (ev σ c) (tk T)
  | .range T x => aRange σ (ev σ x) (tk T)
  | .next it isS => aNext σ (ev σ it) isS
  | .makeFunc fn first cap => aMkFunc σ fn (evl σ first.toList) (evl σ cap.toList)
  | .call c => match c.callee with
    | .builtin .len => match c.args.toList, c.argTypes.toList with
      | [x], [t] => aLen σ (ev σ x) (tk t)
      | _, _ => .bad
    | .builtin .append => match c.args.toList, c.argTypes.toList with
      | [s, x], [t, u] => aAppend tk σ t u (ev σ s) (ev σ x) (tk t)
      | _, _ => .bad
    | .value f => aCallV (ev σ f) (evl σ c.args.toList)
    | _ => .bad
  | _ => .bad

def gd (want : Bool) : Option (Bool × AV) → Option Bool
  | some (c, .f (.v (.bool b))) => some (c && (match want with | true => b | false => !b))
  | _ => none
def guardOf (ops : List Oper) (σ : St) : Option (Nat × Bool) → Option Bool
  | none => some true
  | some (j, want) => match (ops[j]?).bind (·.dst) with
    | some d => gd want (ev σ (.tmp d))
    | none => none
end
end Go.Fw

namespace Go.Fw

/-- the blocks of owned objects, by name; a nil row has none -/
structure Loc where
  b : Option Nat
  cap : Nat

mutual
/-- a frozen value: what it leads to lies in blocks of S -/
def FR (S : Nat → Prop) (w : World) : FV → Value → Prop
  | .v x, y => y = x ∧ x.oneCell' = true
  | .agg xs, y => ∃ ys, y = .agg ys ∧ FRs S w xs ys.toList ∧ ∀ z ∈ ys.toList, z.oneCell' = true
  | .tup xs, y => ∃ ys, y = .tuple ys ∧ FRs S w xs ys.toList
  | .sl sz xs, y => (xs = [] ∧ ∃ a c, y = .slice a 0 c) ∨
      ∃ b o c cs T fz, y = .slice (some ⟨b, o, none⟩) xs.length c ∧ S b ∧ w.heap[b]? = some (.cells cs T fz) ∧ FRrow S w sz xs (cs.toList.drop o) ∧ xs.length ≤ c
  | .p x off, y => ∃ b o cs T fz z, y = .pointer (some ⟨b, o + off, none⟩) ∧ S b ∧ w.heap[b]? = some (.cells cs T fz) ∧ FR S w x z ∧
      (cs.toList.drop o).take z.cells.size = z.cells.toList ∧ ∀ c ∈ z.cells.toList, c.oneCell' = true
  | .m kv, y => ∃ b es clk, y = .map (some b) ∧ S b ∧ w.heap[b]? = some (.map es clk) ∧ FRm S w kv es.toList
  | .clo f first cap, y => ∃ fs cs, y = .func (.func f) fs cs ∧ FRs S w first fs.toList ∧ FRs S w cap cs.toList
def FRs (S : Nat → Prop) (w : World) : List FV → List Value → Prop
  | [], ys => ys = []
  | x :: xs, ys => ∃ y ys', ys = y :: ys' ∧ FR S w x y ∧ FRs S w xs ys'
def FRrow (S : Nat → Prop) (w : World) (sz : Nat) : List FV → List Value → Prop
  | [], _ => True
  | x :: xs, ys => (∃ y, FR S w x y ∧ y.cells.toList = ys.take sz ∧ y.cells.size = sz ∧ ∀ c ∈ y.cells.toList, c.oneCell' = true) ∧ FRrow S w sz xs (ys.drop sz)
def FRm (S : Nat → Prop) (w : World) : List (Value × FV) → List MapEntry → Prop
  | [], es => es = []
  | (k, x) :: kv, es => ∃ e es', es = e :: es' ∧ e.key = k ∧ FR S w x e.val ∧ FRm S w kv es'
end

mutual
theorem FR.mono {S S' : Nat → Prop} {w w' : World} (hS : ∀ b, S b → S' b) (hw : ∀ b, S b → w'.heap[b]? = w.heap[b]?) : ∀ {x : FV} {y : Value}, FR S w x y → FR S' w' x y
  | .v _, _, h => by simpa only [FR] using h
  | .agg xs, _, h => by simp only [FR] at h ⊢; obtain ⟨ys, e, h1, h2⟩ := h; exact ⟨ys, e, FRs.mono hS hw h1, h2⟩
  | .tup xs, _, h => by simp only [FR] at h ⊢; obtain ⟨ys, e, h1⟩ := h; exact ⟨ys, e, FRs.mono hS hw h1⟩
  | .sl sz xs, _, h => by
    simp only [FR] at h ⊢
    rcases h with h | ⟨b, o, c, cs, T, fz, e, hb, hh, hr, hle⟩
    · exact .inl h
    · exact .inr ⟨b, o, c, cs, T, fz, e, hS b hb, by rw [hw b hb]; exact hh, FRrow.mono hS hw hr, hle⟩
  | .p x off, _, h => by
    simp only [FR] at h ⊢
    obtain ⟨b, o, cs, T, fz, z, e, hb, hh, hx, ht⟩ := h
    exact ⟨b, o, cs, T, fz, z, e, hS b hb, by rw [hw b hb]; exact hh, FR.mono hS hw hx, ht⟩
  | .m kv, _, h => by
    simp only [FR] at h ⊢
    obtain ⟨b, es, clk, e, hb, hh, hm⟩ := h
    exact ⟨b, es, clk, e, hS b hb, by rw [hw b hb]; exact hh, FRm.mono hS hw hm⟩
  | .clo f a c, _, h => by
    simp only [FR] at h ⊢
    obtain ⟨fs, cs, e, h1, h2⟩ := h
    exact ⟨fs, cs, e, FRs.mono hS hw h1, FRs.mono hS hw h2⟩
theorem FRs.mono {S S' : Nat → Prop} {w w' : World} (hS : ∀ b, S b → S' b) (hw : ∀ b, S b → w'.heap[b]? = w.heap[b]?) : ∀ {xs : List FV} {ys : List Value}, FRs S w xs ys → FRs S' w' xs ys
  | [], _, h => by simpa only [FRs] using h
  | x :: xs, _, h => by
    simp only [FRs] at h ⊢
    obtain ⟨y, ys', e, h1, h2⟩ := h
    exact ⟨y, ys', e, FR.mono hS hw h1, FRs.mono hS hw h2⟩
theorem FRrow.mono {S S' : Nat → Prop} {w w' : World} (hS : ∀ b, S b → S' b) (hw : ∀ b, S b → w'.heap[b]? = w.heap[b]?) {sz : Nat} : ∀ {xs : List FV} {ys : List Value}, FRrow S w sz xs ys → FRrow S' w' sz xs ys
  | [], _, _ => by simp only [FRrow]
  | x :: xs, _, h => by
    simp only [FRrow] at h ⊢
    obtain ⟨⟨y, h1, h2, h3⟩, h4⟩ := h
    exact ⟨⟨y, FR.mono hS hw h1, h2, h3⟩, FRrow.mono hS hw h4⟩
theorem FRm.mono {S S' : Nat → Prop} {w w' : World} (hS : ∀ b, S b → S' b) (hw : ∀ b, S b → w'.heap[b]? = w.heap[b]?) : ∀ {kv : List (Value × FV)} {es : List MapEntry}, FRm S w kv es → FRm S' w' kv es
  | [], _, h => by simpa only [FRm] using h
  | (k, x) :: kv, _, h => by
    simp only [FRm] at h ⊢
    obtain ⟨e, es', e1, e2, h1, h2⟩ := h
    exact ⟨e, es', e1, e2, FR.mono hS hw h1, FRm.mono hS hw h2⟩
end

mutual
def VR (S : Nat → Prop) (ι : Nat → Loc) (n : Nat) (w : World) : AV → Value → Prop
  | .f x, y => FR S w x y
  | .agg xs, y => ∃ ys, y = .agg ys ∧ VRs S ι n w xs ys.toList ∧ ∀ z ∈ ys.toList, z.oneCell' = true
  | .tup xs, y => ∃ ys, y = .tuple ys ∧ VRs S ι n w xs ys.toList
  | .ptr id off, y => id < n ∧ ∃ b, (ι id).b = some b ∧ y = .pointer (some ⟨b, off, none⟩)
  | .rp id sz i off, y => id < n ∧ ∃ b, (ι id).b = some b ∧ y = .pointer (some ⟨b, i * sz + off, none⟩)
  | .sl id sz off len, y => id < n ∧ (((ι id).b = none ∧ off = 0 ∧ len = 0 ∧ (ι id).cap = 0 ∧ y = .slice none 0 0) ∨
      ∃ b o, (ι id).b = some b ∧ off + len ≤ (ι id).cap ∧ (off < (ι id).cap → o = off * sz) ∧ (off = 0 → o = 0) ∧ y = .slice (some ⟨b, o, none⟩) len ((ι id).cap - off))
  | .mp id, y => id < n ∧ ∃ b, (ι id).b = some b ∧ y = .map (some b)
  | .it id, y => id < n ∧ ∃ b, (ι id).b = some b ∧ y = .pointer (some ⟨b, 0, none⟩)
  | .clo f first cap, y => ∃ fs cs, y = .func (.func f) fs cs ∧ VRs S ι n w first fs.toList ∧ VRs S ι n w cap cs.toList
  | .g _, y => y = undef
def VRs (S : Nat → Prop) (ι : Nat → Loc) (n : Nat) (w : World) : List AV → List Value → Prop
  | [], ys => ys = []
  | x :: xs, ys => ∃ y ys', ys = y :: ys' ∧ VR S ι n w x y ∧ VRs S ι n w xs ys'
end

mutual
theorem VR.mono {S S' : Nat → Prop} {ι ι' : Nat → Loc} {n n' : Nat} {w w' : World} (hS : ∀ b, S b → S' b) (hw : ∀ b, S b → w'.heap[b]? = w.heap[b]?) (hn : n ≤ n') (hι : ∀ id, id < n → ι' id = ι id) :
    ∀ {x : AV} {y : Value}, VR S ι n w x y → VR S' ι' n' w' x y
  | .f _, _, h => by simp only [VR] at h ⊢; exact FR.mono hS hw h
  | .agg xs, _, h => by simp only [VR] at h ⊢; obtain ⟨ys, e, h1, h2⟩ := h; exact ⟨ys, e, VRs.mono hS hw hn hι h1, h2⟩
  | .tup xs, _, h => by simp only [VR] at h ⊢; obtain ⟨ys, e, h1⟩ := h; exact ⟨ys, e, VRs.mono hS hw hn hι h1⟩
  | .ptr id off, _, h => by simp only [VR] at h ⊢; rw [hι id h.1]; exact ⟨Nat.lt_of_lt_of_le h.1 hn, h.2⟩
  | .rp id sz i off, _, h => by simp only [VR] at h ⊢; rw [hι id h.1]; exact ⟨Nat.lt_of_lt_of_le h.1 hn, h.2⟩
  | .sl id sz off len, _, h => by simp only [VR] at h ⊢; rw [hι id h.1]; exact ⟨Nat.lt_of_lt_of_le h.1 hn, h.2⟩
  | .mp id, _, h => by simp only [VR] at h ⊢; rw [hι id h.1]; exact ⟨Nat.lt_of_lt_of_le h.1 hn, h.2⟩
  | .it id, _, h => by simp only [VR] at h ⊢; rw [hι id h.1]; exact ⟨Nat.lt_of_lt_of_le h.1 hn, h.2⟩
  | .clo f a c, _, h => by
    simp only [VR] at h ⊢
    obtain ⟨fs, cs, e, h1, h2⟩ := h
    exact ⟨fs, cs, e, VRs.mono hS hw hn hι h1, VRs.mono hS hw hn hι h2⟩
  | .g _, _, h => by simp only [VR] at h ⊢; exact h
theorem VRs.mono {S S' : Nat → Prop} {ι ι' : Nat → Loc} {n n' : Nat} {w w' : World} (hS : ∀ b, S b → S' b) (hw : ∀ b, S b → w'.heap[b]? = w.heap[b]?) (hn : n ≤ n') (hι : ∀ id, id < n → ι' id = ι id) :
    ∀ {xs : List AV} {ys : List Value}, VRs S ι n w xs ys → VRs S' ι' n' w' xs ys
  | [], _, h => by simpa only [VRs] using h
  | x :: xs, _, h => by
    simp only [VRs] at h ⊢
    obtain ⟨y, ys', e, h1, h2⟩ := h
    exact ⟨y, ys', e, VR.mono hS hw hn hι h1, VRs.mono hS hw hn hι h2⟩
end

/-- an owned object, as its block has it -/
def OR (S : Nat → Prop) (ι : Nat → Loc) (n : Nat) (w : World) (l : Loc) : AO → Prop
  | .cells T cs => ∃ b vs, l.b = some b ∧ w.heap[b]? = some (.cells vs T (0, 0)) ∧ VRs S ι n w cs vs.toList ∧ ∀ z ∈ vs.toList, z.oneCell' = true
  | .row T sz xs => (l.b = none ∧ l.cap = 0 ∧ xs = []) ∨
      ∃ b vs, l.b = some b ∧ w.heap[b]? = some (.cells vs T (0, 0)) ∧ xs.length ≤ l.cap ∧ l.cap ≤ maxLen ∧ vs.size = l.cap * sz ∧ FRrow S w sz xs vs.toList
  | .map kv => ∃ (b : Nat) (es : Array MapEntry) (clk : Nat), l.b = some b ∧ w.heap[b]? = some (.map es clk) ∧ FRm S w kv es.toList ∧ ∀ e ∈ es.toList, e.born < clk
  | .mape kv st => ∃ (b : Nat) (es : Array MapEntry) (clk : Nat) (e0 : MapEntry), l.b = some b ∧ w.heap[b]? = some (.map (es.push e0) clk) ∧ FRm S w kv (es.push e0).toList ∧ e0.born = st ∧ st < clk ∧ ∀ e ∈ es.toList, e.born < st
  | .siter s pos => ∃ b, l.b = some b ∧ w.heap[b]? = some (.stringIter ⟨⟨s⟩⟩ pos)

theorem OR.mono {S S' : Nat → Prop} {ι ι' : Nat → Loc} {n n' : Nat} {w w' : World} (hS : ∀ b, S b → S' b) (hw : ∀ b, S b → w'.heap[b]? = w.heap[b]?) (hn : n ≤ n') (hι : ∀ id, id < n → ι' id = ι id)
    {l : Loc} {o : AO} (hl : ∀ b, l.b = some b → w'.heap[b]? = w.heap[b]?) (h : OR S ι n w l o) : OR S' ι' n' w' l o := by
  cases o with
  | cells T cs => obtain ⟨b, vs, e, hb, h1, h2⟩ := h; exact ⟨b, vs, e, by rw [hl b e]; exact hb, VRs.mono hS hw hn hι h1, h2⟩
  | row T sz xs =>
    rcases h with h | ⟨b, vs, e, hb, h1, h2, h3, h4⟩
    · exact .inl h
    · exact .inr ⟨b, vs, e, by rw [hl b e]; exact hb, h1, h2, h3, FRrow.mono hS hw h4⟩
  | map kv => obtain ⟨b, es, clk, e, hb, h1, h2⟩ := h; exact ⟨b, es, clk, e, by rw [hl b e]; exact hb, FRm.mono hS hw h1, h2⟩
  | mape kv st => obtain ⟨b, es, clk, e0, e, hb, h1, h2⟩ := h; exact ⟨b, es, clk, e0, e, by rw [hl b e]; exact hb, FRm.mono hS hw h1, h2⟩
  | siter s pos => obtain ⟨b, e, hb⟩ := h; exact ⟨b, e, by rw [hl b e]; exact hb⟩

/-- where the call began: the world, the names that came in with their blocks, what is frozen and what is owned -/
structure Ent where
  w : World
  ι : Nat → Loc
  n : Nat
  own : Nat → Prop
  S : Nat → Prop
  defs : List Deferred

/-- memory: objects and frozen blocks, and how it stands to where the call began -/
structure Mem (E : Ent) (h : Heap) (n : Nat) (ι : Nat → Loc) (S : Nat → Prop) (w : World) : Prop where
  obj : ∀ id o, lk id h = some o → id < n ∧ OR S ι n w (ι id) o
  own : ∀ id o b, lk id h = some o → (ι id).b = some b → b < w.heap.size ∧ ¬ S b ∧ (E.own b ∨ E.w.heap.size ≤ b)
  inj : ∀ id id' o o' b, lk id h = some o → lk id' h = some o' → (ι id).b = some b → (ι id').b = some b → id = id'
  slt : ∀ b, S b → b < w.heap.size
  ssub : ∀ b, S b → E.S b ∨ (E.own b ∨ E.w.heap.size ≤ b)
  ssup : ∀ b, E.S b → S b
  keep : ∀ b, b < E.w.heap.size → ¬ E.own b → w.heap[b]? = E.w.heap[b]?
  size : E.w.heap.size ≤ w.heap.size
  os : w.os = E.w.os
  tape : w.tape = E.w.tape
  output : w.output = E.w.output
  names : E.n ≤ n
  same : ∀ id, id < E.n → ι id = E.ι id

structure Sim (E : Ent) (N : Nat) (σ : St) (ι : Nat → Loc) (S : Nat → Prop) (a : Act) (w : World) : Prop where
  mem : Mem E σ.h σ.n ι S w
  tsz : a.tmps.size = N
  tm : ∀ t v, lk t σ.t = some v → VR S ι σ.n w v (a.tmps.getD t undef)
  def0 : a.defers = E.defs

end Go.Fw

namespace Go.Fw

theorem tk_spec {P : Program} {t : TypeId} {k : TK} (h : tk P t = some k) : ∃ i d z, P.info? t = some i ∧ P.underlying t = some d ∧ i.zero = some z ∧
    k.sz = i.size ∧ k.bytes = i.bytes ∧ k.zero = zFV z ∧ k.desc = tdOf P d ∧ z.cells.size = i.size ∧ (∀ c ∈ z.cells.toList, c.oneCell' = true) ∧
    ((k.agg = true ∧ (∃ cs, z = .agg cs) ∧ isAggD d = true) ∨ (k.agg = false ∧ z.oneCell' = true ∧ isAggD d = false ∧ i.size = 1)) := by
  unfold tk at h
  split at h
  · rename_i i d hi hd
    split at h
    · rename_i z hz
      split at h
      · rename_i hc
        simp only [Option.some.injEq] at h
        subst h
        simp only [Bool.and_eq_true, beq_iff_eq, Array.all_eq_true'] at hc
        obtain ⟨⟨h1, h2⟩, h3⟩ := hc
        refine ⟨i, d, z, hi, hd, hz, rfl, rfl, rfl, rfl, h1, fun c hc => h2 c (Array.mem_toList_iff.1 hc), ?_⟩
        cases z <;> simp only [zKind, Bool.not_eq_true', Bool.false_eq_true] at h3 <;> first
          | exact .inr ⟨h3, rfl, h3, h1.symm⟩
          | exact .inl ⟨h3, ⟨_, rfl⟩, h3⟩
      · cases h
    · cases h
  · cases h

theorem zFV_sound (S : Nat → Prop) (w : World) : ∀ (z : Value), (∀ c ∈ z.cells.toList, c.oneCell' = true) → FR S w (zFV z) z
  | .agg cs, h => by
    simp only [zFV, FR]
    refine ⟨cs, rfl, ?_, h⟩
    have h' : ∀ c ∈ cs.toList, c.oneCell' = true := h
    clear h
    generalize cs.toList = l at h'
    induction l with
    | nil => simp [FRs]
    | cons c l ih =>
      simp only [List.map_cons, FRs]
      exact ⟨c, l, rfl, ⟨rfl, h' c (by simp)⟩, ih fun c hc => h' c (by simp [hc])⟩
  | .bool _, h => by simpa [zFV, FR] using h _ (by simp [Value.cells])
  | .int .., h => by simpa [zFV, FR] using h _ (by simp [Value.cells])
  | .float .., h => by simpa [zFV, FR] using h _ (by simp [Value.cells])
  | .complex .., h => by simpa [zFV, FR] using h _ (by simp [Value.cells])
  | .string _, h => by simpa [zFV, FR] using h _ (by simp [Value.cells])
  | .pointer _, h => by simpa [zFV, FR] using h _ (by simp [Value.cells])
  | .slice .., h => by simpa [zFV, FR] using h _ (by simp [Value.cells])
  | .map _, h => by simpa [zFV, FR] using h _ (by simp [Value.cells])
  | .chan _, h => by simpa [zFV, FR] using h _ (by simp [Value.cells])
  | .func .., h => by simpa [zFV, FR] using h _ (by simp [Value.cells])
  | .nilFunc, h => by simpa [zFV, FR] using h _ (by simp [Value.cells])
  | .iface .., h => by simpa [zFV, FR] using h _ (by simp [Value.cells])
  | .nilIface, h => by simpa [zFV, FR] using h _ (by simp [Value.cells])
  | .tuple xs, h => by have := h (.tuple xs) (by simp [Value.cells]); simp [Value.oneCell'] at this

/- the cells of a frozen value -/
theorem FR.one_or {S : Nat → Prop} {w : World} {x : FV} {y : Value} (h : FR S w x y) :
    (∃ xs ys, x = .agg xs ∧ y = .agg ys ∧ FRs S w xs ys.toList ∧ ∀ z ∈ ys.toList, z.oneCell' = true) ∨ (∃ xs ys, x = .tup xs ∧ y = .tuple ys) ∨ (x.cells = [x] ∧ y.cells = #[y] ∧ y.oneCell' = true) := by
  cases x with
  | v x => simp only [FR] at h; obtain ⟨rfl, h1⟩ := h; exact .inr (.inr ⟨rfl, by cases y <;> first | rfl | simp [Value.oneCell'] at h1, h1⟩)
  | agg xs => simp only [FR] at h; obtain ⟨ys, e, h1, h2⟩ := h; exact .inl ⟨xs, ys, rfl, e, h1, h2⟩
  | tup xs => simp only [FR] at h; obtain ⟨ys, e, h1⟩ := h; exact .inr (.inl ⟨xs, ys, rfl, e⟩)
  | sl sz xs =>
    simp only [FR] at h
    rcases h with ⟨_, a, c, rfl⟩ | ⟨b, o, c, cs, T, fz, rfl, _⟩ <;> exact .inr (.inr ⟨rfl, rfl, rfl⟩)
  | p x off => simp only [FR] at h; obtain ⟨b, o, cs, T, fz, z, rfl, _⟩ := h; exact .inr (.inr ⟨rfl, rfl, rfl⟩)
  | m kv => simp only [FR] at h; obtain ⟨b, es, clk, rfl, _⟩ := h; exact .inr (.inr ⟨rfl, rfl, rfl⟩)
  | clo f a c => simp only [FR] at h; obtain ⟨fs, cs, rfl, _⟩ := h; exact .inr (.inr ⟨rfl, rfl, rfl⟩)

theorem FRs.length {S : Nat → Prop} {w : World} : ∀ {xs : List FV} {ys : List Value}, FRs S w xs ys → ys.length = xs.length
  | [], _, h => by simp only [FRs] at h; simp [h]
  | x :: xs, _, h => by
    simp only [FRs] at h
    obtain ⟨y, ys', rfl, _, h2⟩ := h
    simp [FRs.length h2]
theorem VRs.length {S : Nat → Prop} {ι : Nat → Loc} {n : Nat} {w : World} : ∀ {xs : List AV} {ys : List Value}, VRs S ι n w xs ys → ys.length = xs.length
  | [], _, h => by simp only [VRs] at h; simp [h]
  | x :: xs, _, h => by
    simp only [VRs] at h
    obtain ⟨y, ys', rfl, _, h2⟩ := h
    simp [VRs.length h2]
theorem VRs.get {S : Nat → Prop} {ι : Nat → Loc} {n : Nat} {w : World} : ∀ {xs : List AV} {ys : List Value}, VRs S ι n w xs ys → ∀ {i : Nat} {x : AV}, xs[i]? = some x → ∃ y, ys[i]? = some y ∧ VR S ι n w x y
  | [], _, _, i, x, h => by simp at h
  | x :: xs, _, h, i, z, hz => by
    simp only [VRs] at h
    obtain ⟨y, ys', rfl, h1, h2⟩ := h
    cases i with
    | zero => simp at hz; subst hz; exact ⟨y, by simp, h1⟩
    | succ i => simpa using VRs.get h2 (i := i) (by simpa using hz)
theorem FRs.get {S : Nat → Prop} {w : World} : ∀ {xs : List FV} {ys : List Value}, FRs S w xs ys → ∀ {i : Nat} {x : FV}, xs[i]? = some x → ∃ y, ys[i]? = some y ∧ FR S w x y
  | [], _, _, i, x, h => by simp at h
  | x :: xs, _, h, i, z, hz => by
    simp only [FRs] at h
    obtain ⟨y, ys', rfl, h1, h2⟩ := h
    cases i with
    | zero => simp at hz; subst hz; exact ⟨y, by simp, h1⟩
    | succ i => simpa using FRs.get h2 (i := i) (by simpa using hz)
theorem VRs_map_f {S : Nat → Prop} {ι : Nat → Loc} {n : Nat} {w : World} : ∀ {xs : List FV} {ys : List Value}, VRs S ι n w (xs.map .f) ys ↔ FRs S w xs ys
  | [], _ => by simp [VRs, FRs]
  | x :: xs, _ => by
    simp only [List.map_cons, VRs, FRs]
    constructor
    · rintro ⟨y, ys', rfl, h1, h2⟩; exact ⟨y, ys', rfl, by simpa [VR] using h1, VRs_map_f.1 h2⟩
    · rintro ⟨y, ys', rfl, h1, h2⟩; exact ⟨y, ys', rfl, by simpa [VR] using h1, VRs_map_f.2 h2⟩
theorem VRs.drop {S : Nat → Prop} {ι : Nat → Loc} {n : Nat} {w : World} : ∀ {xs : List AV} {ys : List Value} (k : Nat), VRs S ι n w xs ys → VRs S ι n w (xs.drop k) (ys.drop k)
  | _, _, 0, h => by simpa using h
  | [], _, k + 1, h => by simp only [VRs] at h; subst h; simp [VRs]
  | x :: xs, _, k + 1, h => by
    simp only [VRs] at h
    obtain ⟨y, ys', rfl, _, h2⟩ := h
    simpa using VRs.drop k h2
theorem VRs.take {S : Nat → Prop} {ι : Nat → Loc} {n : Nat} {w : World} : ∀ {xs : List AV} {ys : List Value} (k : Nat), VRs S ι n w xs ys → VRs S ι n w (xs.take k) (ys.take k)
  | _, _, 0, h => by simp [VRs]
  | [], _, k + 1, h => by simp only [VRs] at h; subst h; simp [VRs]
  | x :: xs, _, k + 1, h => by
    simp only [VRs] at h
    obtain ⟨y, ys', rfl, h1, h2⟩ := h
    simp only [List.take_succ_cons, VRs]
    exact ⟨y, ys'.take k, rfl, h1, VRs.take k h2⟩
theorem FRs.drop {S : Nat → Prop} {w : World} {xs : List FV} {ys : List Value} (k : Nat) (h : FRs S w xs ys) : FRs S w (xs.drop k) (ys.drop k) := by
  have := VRs.drop (ι := fun _ => ⟨none, 0⟩) (n := 0) k (VRs_map_f.2 h)
  rw [← List.map_drop] at this
  exact VRs_map_f.1 this
theorem FRs.take {S : Nat → Prop} {w : World} {xs : List FV} {ys : List Value} (k : Nat) (h : FRs S w xs ys) : FRs S w (xs.take k) (ys.take k) := by
  have := VRs.take (ι := fun _ => ⟨none, 0⟩) (n := 0) k (VRs_map_f.2 h)
  rw [← List.map_take] at this
  exact VRs_map_f.1 this
theorem FRs.append {S : Nat → Prop} {w : World} : ∀ {xs xs' : List FV} {ys ys' : List Value}, FRs S w xs ys → FRs S w xs' ys' → FRs S w (xs ++ xs') (ys ++ ys')
  | [], _, _, _, h, h' => by simp only [FRs] at h; subst h; simpa using h'
  | x :: xs, _, _, _, h, h' => by
    simp only [FRs] at h
    obtain ⟨y, ys, rfl, h1, h2⟩ := h
    simp only [List.cons_append, FRs]
    exact ⟨y, _, rfl, h1, FRs.append h2 h'⟩
theorem VRs.append {S : Nat → Prop} {ι : Nat → Loc} {n : Nat} {w : World} : ∀ {xs xs' : List AV} {ys ys' : List Value}, VRs S ι n w xs ys → VRs S ι n w xs' ys' → VRs S ι n w (xs ++ xs') (ys ++ ys')
  | [], _, _, _, h, h' => by simp only [VRs] at h; subst h; simpa using h'
  | x :: xs, _, _, _, h, h' => by
    simp only [VRs] at h
    obtain ⟨y, ys, rfl, h1, h2⟩ := h
    simp only [List.cons_append, VRs]
    exact ⟨y, _, rfl, h1, VRs.append h2 h'⟩

/- rows -/
theorem FRrow.take {S : Nat → Prop} {w : World} {sz : Nat} : ∀ {xs : List FV} {ys : List Value} (k : Nat), FRrow S w sz xs ys → FRrow S w sz (xs.take k) ys
  | _, _, 0, _ => by simp [FRrow]
  | [], _, _ + 1, _ => by simp [FRrow]
  | x :: xs, _, k + 1, h => by
    simp only [FRrow, List.take_succ_cons] at h ⊢
    exact ⟨h.1, FRrow.take k h.2⟩
theorem FRrow.drop {S : Nat → Prop} {w : World} {sz : Nat} : ∀ {xs : List FV} {ys : List Value} (k : Nat), FRrow S w sz xs ys → FRrow S w sz (xs.drop k) (ys.drop (k * sz))
  | _, _, 0, h => by simpa using h
  | [], _, _ + 1, _ => by simp [FRrow]
  | x :: xs, ys, k + 1, h => by
    simp only [FRrow, List.drop_succ_cons] at h ⊢
    have := FRrow.drop k h.2
    rwa [List.drop_drop, show sz + k * sz = (k + 1) * sz by rw [Nat.add_mul, Nat.one_mul, Nat.add_comm]] at this
theorem FRrow.get {S : Nat → Prop} {w : World} {sz : Nat} : ∀ {xs : List FV} {ys : List Value}, FRrow S w sz xs ys → ∀ {i : Nat} {x : FV}, xs[i]? = some x → ∃ y, FR S w x y ∧ y.cells.toList = (ys.drop (i * sz)).take sz ∧ y.cells.size = sz ∧ ∀ c ∈ y.cells.toList, c.oneCell' = true
  | [], _, _, i, x, h => by simp at h
  | x :: xs, ys, h, i, z, hz => by
    simp only [FRrow] at h
    cases i with
    | zero => simp at hz; subst hz; simpa using h.1
    | succ i =>
      obtain ⟨y, h1, h2, h3⟩ := FRrow.get h.2 (i := i) (by simpa using hz)
      rw [List.drop_drop, show sz + i * sz = (i + 1) * sz by rw [Nat.add_mul, Nat.one_mul, Nat.add_comm]] at h2
      exact ⟨y, h1, h2, h3⟩
theorem FRrow.congr {S : Nat → Prop} {w : World} {sz : Nat} : ∀ {xs : List FV} {ys zs : List Value}, FRrow S w sz xs ys → ys.take (xs.length * sz) = zs.take (xs.length * sz) → FRrow S w sz xs zs
  | [], _, _, _, _ => by simp [FRrow]
  | x :: xs, ys, zs, h, e => by
    simp only [FRrow] at h ⊢
    simp only [List.length_cons, Nat.add_mul, Nat.one_mul] at e
    have e1 : ys.take sz = zs.take sz := by
      have := congrArg (List.take sz) e
      simpa [List.take_take, Nat.min_eq_left (show sz ≤ xs.length * sz + sz by omega)] using this
    have e2 : (ys.drop sz).take (xs.length * sz) = (zs.drop sz).take (xs.length * sz) := by
      have := congrArg (List.drop sz) e
      simpa [List.drop_take] using this
    refine ⟨?_, h.2.congr e2⟩
    obtain ⟨y, h1, h2, h3⟩ := h.1
    exact ⟨y, h1, by rw [h2, e1], h3⟩
theorem FR.cells {S : Nat → Prop} {w : World} {x : FV} {y : Value} (h : FR S w x y) : FRs S w x.cells y.cells.toList := by
  rcases FR.one_or h with ⟨xs, ys, rfl, rfl, h1, _⟩ | ⟨xs, ys, rfl, rfl⟩ | ⟨h1, h2, _⟩
  · exact h1
  · simp only [FV.cells, Value.cells, FRs]; exact ⟨_, _, rfl, h, rfl⟩
  · rw [h1, h2]; simp only [FRs]; exact ⟨_, _, rfl, h, rfl⟩
theorem FRrow.append {S : Nat → Prop} {w : World} {sz : Nat} : ∀ {xs xs' : List FV} {ys ys' : List Value}, ys.length = xs.length * sz → FRrow S w sz xs ys → FRrow S w sz xs' ys' → FRrow S w sz (xs ++ xs') (ys ++ ys')
  | [], _, ys, _, hl, _, h' => by
    have : ys = [] := List.eq_nil_of_length_eq_zero (by simpa using hl)
    subst this; simpa using h'
  | x :: xs, xs', ys, ys', hl, h, h' => by
    simp only [FRrow, List.cons_append] at h ⊢
    simp only [List.length_cons, Nat.add_mul, Nat.one_mul] at hl
    refine ⟨?_, ?_⟩
    · obtain ⟨y, h1, h2, h3⟩ := h.1
      exact ⟨y, h1, by rw [h2, List.take_append_of_le_length (by omega)], h3⟩
    · rw [List.drop_append_of_le_length (by omega)]
      exact FRrow.append (by simp; omega) h.2 h'

/- reading a cell -/
theorem cell_of {w : World} {b o : Nat} {cs : Array Value} {T : TypeId} {fz : Nat × Nat} {y : Value} (h : w.heap[b]? = some (.cells cs T fz)) (hy : cs.toList[o]? = some y) : w.cell? ⟨b, o, none⟩ = some y := by
  simp only [World.cell?, h, Option.isSome_none, Bool.false_eq_true, if_false]
  simpa using hy

theorem lk_cons {β : Type} (n m : Nat) (v : β) (l : List (Nat × β)) : lk n ((m, v) :: l) = if n = m then some v else lk n l := by
  simp only [lk]
  by_cases h : n = m
  · simp [h]
  · have : (n == m) = false := by simpa using h
    simp [h, this]
theorem lk_hset (n : Nat) (o : AO) : ∀ (h : Heap) (m : Nat), lk m (hset n o h) = if m = n then (lk n h).map (fun _ => o) else lk m h
  | [], m => by simp [hset, lk]
  | (k, x) :: l, m => by
    have ih := lk_hset n o l m
    by_cases hk : n = k
    · subst hk
      simp only [hset, beq_self_eq_true, lk_cons]
      by_cases hm : m = n <;> simp [hm]
    · have : (n == k) = false := by simpa using hk
      simp only [hset, this, lk_cons, ih]
      by_cases hm : m = k
      · subst hm
        simp [Ne.symm hk]
      · by_cases hmn : m = n
        · subst hmn; simp [hm]
        · simp [hm, hmn]
theorem lk_hdel (n : Nat) : ∀ (h : Heap) (m : Nat), lk m (hdel n h) = if m = n then none else lk m h
  | [], m => by simp [hdel, lk]
  | (k, x) :: l, m => by
    have ih := lk_hdel n l m
    by_cases hk : n = k
    · subst hk
      simp only [hdel, beq_self_eq_true, lk_cons, ih]
      by_cases hm : m = n <;> simp [hm]
    · have : (n == k) = false := by simpa using hk
      simp only [hdel, this, lk_cons, ih]
      by_cases hm : m = k
      · subst hm
        simp [Ne.symm hk]
      · by_cases hmn : m = n
        · subst hmn; simp [hm]
        · simp [hm, hmn]

/- operands -/
theorem strip_true {v v' : AV} (h : strip v = (true, v')) : v' = v ∧ ∀ x, v ≠ .g x := by
  cases v <;> simp [strip] at h <;> first | (subst h; exact ⟨rfl, by simp⟩) | skip

section
variable {P : Program} {E : Ent} {N : Nat} {σ : St} {ι : Nat → Loc} {S : Nat → Prop} {a : Act} {w : World}

theorem evo_sound (hs : Sim E N σ ι S a w) {x : Operand} {v : AV} (h : evo σ x = some v) : VR S ι σ.n w v (a.eval x) := by
  cases x with
  | tmp t => exact hs.tm t v h
  | const c =>
    simp only [evo, constAV] at h
    split at h <;> simp at h <;> subst h <;> simp [Act.eval, VR, FR, Value.oneCell']
  | global g => simp [evo] at h
  | func f => simp [evo] at h; subst h; exact ⟨#[], #[], rfl, by simp [VRs], by simp [VRs]⟩
theorem ev_sound (hs : Sim E N σ ι S a w) {x : Operand} {c : Bool} {v : AV} (h : ev σ x = some (c, v)) (hc : c = true) : VR S ι σ.n w v (a.eval x) := by
  subst hc
  unfold ev evs at h
  split at h
  · rename_i u hu
    simp only [Option.some.injEq] at h
    obtain ⟨rfl, _⟩ := strip_true h
    exact evo_sound hs hu
  · cases h
theorem evl_sound (hs : Sim E N σ ι S a w) : ∀ {xs : List Operand} {c : Bool} {vs : List AV}, evl σ xs = some (c, vs) → c = true → VRs S ι σ.n w vs (xs.map a.eval)
  | [], c, vs, h, _ => by simp [evl] at h; obtain ⟨_, rfl⟩ := h; simp [VRs]
  | x :: xs, c, vs, h, hc => by
    simp only [evl] at h
    split at h
    · rename_i c1 v d vs' h1 h2
      simp only [Option.some.injEq, Prod.mk.injEq] at h
      obtain ⟨rfl, rfl⟩ := h
      simp only [Bool.and_eq_true] at hc
      simp only [List.map_cons, VRs]
      exact ⟨_, _, rfl, ev_sound hs h1 hc.1, evl_sound hs h2 hc.2⟩
    · cases h
end
end Go.Fw

set_option linter.unusedVariables false
namespace Go.Fw
section
variable {P : Program} {E : Ent} {N : Nat} {σ : St} {ι : Nat → Loc} {S : Nat → Prop} {a : Act} {w w' : World}

/-- a step that turns no block that was there -/
structure Quiet (w w' : World) : Prop where
  heap : ∀ b, b < w.heap.size → w'.heap[b]? = w.heap[b]?
  size : w.heap.size ≤ w'.heap.size
  os : w'.os = w.os
  tape : w'.tape = w.tape
  output : w'.output = w.output
theorem Quiet.refl (w : World) : Quiet w w := ⟨fun _ _ => rfl, Nat.le_refl _, rfl, rfl, rfl⟩
theorem Quiet.trans {w1 w2 w3 : World} (h : Quiet w1 w2) (k : Quiet w2 w3) : Quiet w1 w3 :=
  ⟨fun b hb => (k.heap b (Nat.lt_of_lt_of_le hb h.size)).trans (h.heap b hb), Nat.le_trans h.size k.size, k.os.trans h.os, k.tape.trans h.tape, k.output.trans h.output⟩
theorem Quiet.drew (w : World) : Quiet w w.drew := ⟨fun _ _ => rfl, Nat.le_refl _, rfl, rfl, rfl⟩
theorem Quiet.alloc (w : World) (o : Obj) : Quiet w (w.alloc o) :=
  ⟨fun b hb => by show (w.heap.push o)[b]? = _; rw [Array.getElem?_push, if_neg (by omega)], by simp, rfl, rfl, rfl⟩

theorem Mem.quiet {h : Heap} {n : Nat} (hm : Mem E h n ι S w) (q : Quiet w w') : Mem E h n ι S w' where
  obj id o hl := ⟨(hm.obj id o hl).1, (hm.obj id o hl).2.mono (fun _ h => h) (fun b hb => q.heap b (hm.slt b hb)) (Nat.le_refl _) (fun _ _ => rfl) (fun b hb => q.heap b (hm.own id o b hl hb).1)⟩
  own id o b hl hb := ⟨Nat.lt_of_lt_of_le (hm.own id o b hl hb).1 q.size, (hm.own id o b hl hb).2⟩
  inj := hm.inj
  slt b hb := Nat.lt_of_lt_of_le (hm.slt b hb) q.size
  ssub := hm.ssub
  ssup := hm.ssup
  keep b hb ho := (q.heap b (Nat.lt_of_lt_of_le hb hm.size)).trans (hm.keep b hb ho)
  size := Nat.le_trans hm.size q.size
  os := q.os.trans hm.os
  tape := q.tape.trans hm.tape
  output := q.output.trans hm.output
  names := hm.names
  same := hm.same
theorem Sim.quiet (hs : Sim E N σ ι S a w) (q : Quiet w w') : Sim E N σ ι S a w' where
  mem := hs.mem.quiet q
  tsz := hs.tsz
  tm t v h := (hs.tm t v h).mono (fun _ h => h) (fun b hb => q.heap b (hs.mem.slt b hb)) (Nat.le_refl _) (fun _ _ => rfl)
  def0 := hs.def0

/-- more blocks are told to be frozen: those that the call made and does not own -/
theorem Mem.more {h : Heap} {n : Nat} (hm : Mem E h n ι S w) {S' : Nat → Prop} (hS : ∀ b, S b → S' b)
    (hn : ∀ b, S' b → S b ∨ (b < w.heap.size ∧ (E.own b ∨ E.w.heap.size ≤ b) ∧ ∀ id o, lk id h = some o → (ι id).b ≠ some b)) : Mem E h n ι S' w where
  obj id o hl := ⟨(hm.obj id o hl).1, (hm.obj id o hl).2.mono hS (fun b hb => rfl) (Nat.le_refl _) (fun _ _ => rfl) (fun b hb => rfl)⟩
  own id o b hl hb := ⟨(hm.own id o b hl hb).1, fun h' => (hn b h').elim (hm.own id o b hl hb).2.1 (fun h'' => h''.2.2 id o hl hb), (hm.own id o b hl hb).2.2⟩
  inj := hm.inj
  slt b hb := (hn b hb).elim (hm.slt b) (·.1)
  ssub b hb := (hn b hb).elim (hm.ssub b) (fun h => .inr h.2.1)
  ssup b hb := hS b (hm.ssup b hb)
  keep := hm.keep
  size := hm.size
  os := hm.os
  tape := hm.tape
  output := hm.output
  names := hm.names
  same := hm.same
theorem Sim.more (hs : Sim E N σ ι S a w) {S' : Nat → Prop} (hS : ∀ b, S b → S' b)
    (hn : ∀ b, S' b → S b ∨ (b < w.heap.size ∧ (E.own b ∨ E.w.heap.size ≤ b) ∧ ∀ id o, lk id σ.h = some o → (ι id).b ≠ some b)) : Sim E N σ ι S' a w where
  mem := hs.mem.more hS hn
  tsz := hs.tsz
  tm t v h := (hs.tm t v h).mono hS (fun b _ => rfl) (Nat.le_refl _) (fun _ _ => rfl)
  def0 := hs.def0

def ext (ι : Nat → Loc) (n : Nat) (l : Loc) : Nat → Loc := fun id => if id = n then l else ι id
theorem ext_old {ι : Nat → Loc} {n : Nat} {l : Loc} {id : Nat} (h : id < n) : ext ι n l id = ι id := by simp [ext, Nat.ne_of_lt h]
theorem ext_new {ι : Nat → Loc} {n : Nat} {l : Loc} : ext ι n l n = l := by simp [ext]

/-- a new name, for a block that is no one's -/
theorem Mem.name {h : Heap} {n : Nat} (hm : Mem E h n ι S w) {l : Loc} {o : AO} (hb : ∀ b, l.b = some b → b < w.heap.size ∧ ¬ S b ∧ (E.own b ∨ E.w.heap.size ≤ b) ∧ ∀ id o, lk id h = some o → (ι id).b ≠ some b)
    (ho : OR S (ext ι n l) (n + 1) w l o) : Mem E ((n, o) :: h) (n + 1) (ext ι n l) S w where
  obj id o' hl := by
    rw [lk_cons] at hl
    split at hl
    · rename_i e; subst e
      simp only [Option.some.injEq] at hl; subst hl
      rw [ext_new]; exact ⟨Nat.lt_succ_self _, ho⟩
    · have := hm.obj id o' hl
      rw [ext_old this.1]
      exact ⟨Nat.lt_succ_of_lt this.1, this.2.mono (fun _ h => h) (fun _ _ => rfl) (Nat.le_succ _) (fun id hid => ext_old hid) (fun _ _ => rfl)⟩
  own id o' b hl hb' := by
    rw [lk_cons] at hl
    split at hl
    · rename_i e; subst e
      rw [ext_new] at hb'
      exact ⟨(hb b hb').1, (hb b hb').2.1, (hb b hb').2.2.1⟩
    · rw [ext_old (hm.obj id o' hl).1] at hb'
      exact hm.own id o' b hl hb'
  inj id id' o1 o2 b h1 h2 b1 b2 := by
    rw [lk_cons] at h1 h2
    split at h1 <;> split at h2
    · rename_i e1 e2; rw [e1, e2]
    · rename_i e1 e2
      rw [e1, ext_new] at b1
      rw [ext_old (hm.obj id' o2 h2).1] at b2
      exact absurd b2 ((hb b b1).2.2.2 id' o2 h2)
    · rename_i e1 e2
      rw [e2, ext_new] at b2
      rw [ext_old (hm.obj id o1 h1).1] at b1
      exact absurd b1 ((hb b b2).2.2.2 id o1 h1)
    · rw [ext_old (hm.obj id' o2 h2).1] at b2
      rw [ext_old (hm.obj id o1 h1).1] at b1
      exact hm.inj id id' o1 o2 b h1 h2 b1 b2
  slt := hm.slt
  ssub := hm.ssub
  ssup := hm.ssup
  keep := hm.keep
  size := hm.size
  os := hm.os
  tape := hm.tape
  output := hm.output
  names := Nat.le_succ_of_le hm.names
  same id hid := by rw [ext_old (Nat.lt_of_lt_of_le hid hm.names)]; exact hm.same id hid
theorem Sim.name (hs : Sim E N σ ι S a w) {l : Loc} {o : AO} (hb : ∀ b, l.b = some b → b < w.heap.size ∧ ¬ S b ∧ (E.own b ∨ E.w.heap.size ≤ b) ∧ ∀ id o, lk id σ.h = some o → (ι id).b ≠ some b)
    (ho : OR S (ext ι σ.n l) (σ.n + 1) w l o) : Sim E N ⟨σ.t, (σ.n, o) :: σ.h, σ.n + 1⟩ (ext ι σ.n l) S a w where
  mem := hs.mem.name hb ho
  tsz := hs.tsz
  tm t v h := (hs.tm t v h).mono (fun _ h => h) (fun b _ => rfl) (Nat.le_succ _) (fun id hid => ext_old hid)
  def0 := hs.def0

/-- a block that was just made, named -/
theorem Sim.alloc (hs : Sim E N σ ι S a w) {ob : Obj} {cap : Nat} {o : AO} (ho : OR S (ext ι σ.n ⟨some w.heap.size, cap⟩) (σ.n + 1) (w.alloc ob) ⟨some w.heap.size, cap⟩ o) :
    Sim E N ⟨σ.t, (σ.n, o) :: σ.h, σ.n + 1⟩ (ext ι σ.n ⟨some w.heap.size, cap⟩) S a (w.alloc ob) := by
  refine (hs.quiet (Quiet.alloc w ob)).name ?_ ho
  intro b hb
  simp only [Option.some.injEq] at hb; subst hb
  refine ⟨by simp, fun h => absurd (hs.mem.slt _ h) (by omega), .inr hs.mem.size, fun id o' hl e => absurd (hs.mem.own id o' _ hl e).1 (by omega)⟩
theorem heap_new (w : World) (ob : Obj) : (w.alloc ob).heap[w.heap.size]? = some ob := heap_alloc_new w ob

/-- an object's name goes -/
theorem Mem.del {h : Heap} {n : Nat} (hm : Mem E h n ι S w) (id : Nat) : Mem E (hdel id h) n ι S w where
  obj i o hl := by rw [lk_hdel] at hl; split at hl; · cases hl
                   · exact hm.obj i o hl
  own i o b hl := by rw [lk_hdel] at hl; split at hl; · cases hl
                     · exact hm.own i o b hl
  inj i i' o o' b h1 h2 := by
    rw [lk_hdel] at h1 h2
    split at h1; · cases h1
    · split at h2; · cases h2
      · exact hm.inj i i' o o' b h1 h2
  slt := hm.slt
  ssub := hm.ssub
  ssup := hm.ssup
  keep := hm.keep
  size := hm.size
  os := hm.os
  tape := hm.tape
  output := hm.output
  names := hm.names
  same := hm.same
theorem Sim.del (hs : Sim E N σ ι S a w) (id : Nat) : Sim E N ⟨σ.t, hdel id σ.h, σ.n⟩ ι S a w where
  mem := hs.mem.del id
  tsz := hs.tsz
  tm := hs.tm
  def0 := hs.def0

/-- an object is written: its block alone turns -/
structure Only (w w' : World) (b0 : Nat) : Prop where
  heap : ∀ b, b ≠ b0 → w'.heap[b]? = w.heap[b]?
  size : w'.heap.size = w.heap.size
  os : w'.os = w.os
  tape : w'.tape = w.tape
  output : w'.output = w.output
theorem Mem.put {h : Heap} {n : Nat} (hm : Mem E h n ι S w) {id b0 : Nat} {o o' : AO} (hl : lk id h = some o) (hb : (ι id).b = some b0) (hq : Only w w' b0) (ho : OR S ι n w' (ι id) o') :
    Mem E (hset id o' h) n ι S w' where
  obj i oi hi := by
    rw [lk_hset] at hi
    split at hi
    · rename_i e; subst e
      rw [hl] at hi; simp at hi; subst hi
      exact ⟨(hm.obj i o hl).1, ho⟩
    · rename_i hne
      refine ⟨(hm.obj i oi hi).1, (hm.obj i oi hi).2.mono (fun _ h => h) (fun b hb' => hq.heap b fun e => ?_) (Nat.le_refl _) (fun _ _ => rfl) (fun b hb' => hq.heap b fun e => ?_)⟩
      · subst e; exact (hm.own id o b hl hb).2.1 hb'
      · subst e; exact hne (hm.inj i id oi o b hi hl hb' hb)
  own i oi b hi hb' := by
    have : ∃ o'', lk i h = some o'' := by
      rw [lk_hset] at hi
      split at hi
      · rename_i e; subst e; exact ⟨o, hl⟩
      · exact ⟨oi, hi⟩
    obtain ⟨o'', h2⟩ := this
    rw [hq.size]; exact hm.own i o'' b h2 hb'
  inj i i' o1 o2 b h1 h2 b1 b2 := by
    have key : ∀ j oj, lk j (hset id o' h) = some oj → ∃ o'', lk j h = some o'' := by
      intro j oj hj
      rw [lk_hset] at hj
      split at hj
      · rename_i e; subst e; exact ⟨o, hl⟩
      · exact ⟨oj, hj⟩
    obtain ⟨_, k1⟩ := key i o1 h1
    obtain ⟨_, k2⟩ := key i' o2 h2
    exact hm.inj i i' _ _ b k1 k2 b1 b2
  slt b hb' := by rw [hq.size]; exact hm.slt b hb'
  ssub := hm.ssub
  ssup := hm.ssup
  keep b hb' hno := by
    rw [hq.heap b]
    · exact hm.keep b hb' hno
    · intro e; subst e
      rcases (hm.own id o b hl hb).2.2 with h' | h'
      · exact hno h'
      · omega
  size := by rw [hq.size]; exact hm.size
  os := hq.os.trans hm.os
  tape := hq.tape.trans hm.tape
  output := hq.output.trans hm.output
  names := hm.names
  same := hm.same
theorem Sim.upd (hs : Sim E N σ ι S a w) {id b0 : Nat} {o o' : AO} (hl : lk id σ.h = some o) (hb : (ι id).b = some b0) (hq : Only w w' b0) (ho : OR S ι σ.n w' (ι id) o') :
    Sim E N ⟨σ.t, hset id o' σ.h, σ.n⟩ ι S a w' where
  mem := hs.mem.put hl hb hq ho
  tsz := hs.tsz
  tm t v h := (hs.tm t v h).mono (fun _ h => h) (fun b hb' => hq.heap b fun e => by subst e; exact (hs.mem.own id o b hl hb).2.1 hb') (Nat.le_refl _) (fun _ _ => rfl)
  def0 := hs.def0

theorem Mem.congr {h h' : Heap} {n : Nat} (hm : Mem E h n ι S w) (e : ∀ m, lk m h' = lk m h) : Mem E h' n ι S w where
  obj id o hl := hm.obj id o (by rw [← e]; exact hl)
  own id o b hl := hm.own id o b (by rw [← e]; exact hl)
  inj id id' o o' b h1 h2 := hm.inj id id' o o' b (by rw [← e]; exact h1) (by rw [← e]; exact h2)
  slt := hm.slt
  ssub := hm.ssub
  ssup := hm.ssup
  keep := hm.keep
  size := hm.size
  os := hm.os
  tape := hm.tape
  output := hm.output
  names := hm.names
  same := hm.same
theorem Sim.congr {h' : Heap} (hs : Sim E N σ ι S a w) (e : ∀ m, lk m h' = lk m σ.h) : Sim E N ⟨σ.t, h', σ.n⟩ ι S a w where
  mem := hs.mem.congr e
  tsz := hs.tsz
  tm := hs.tm
  def0 := hs.def0

/-- a slot is written -/
theorem Sim.put (hs : Sim E N σ ι S a w) {d : Option Nat} {v : AV} {y : Value} (hd : ∀ d', d = some d' → d' < N) (hv : VR S ι σ.n w v y) : Sim E N (σ.put d v) ι S (a.put d y) w := by
  cases d with
  | none => exact hs
  | some d =>
    refine ⟨hs.mem, by simpa [Act.put] using hs.tsz, ?_, hs.def0⟩
    intro t v' hl
    show VR S ι σ.n w v' _
    simp only [St.put] at hl
    rw [lk_cons] at hl
    have hlt := hd d rfl
    split at hl
    · rename_i e; subst e
      simp only [Option.some.injEq] at hl; subst hl
      have : t < a.tmps.size := by rw [hs.tsz]; exact hlt
      simpa [Act.put, Array.getD, this] using hv
    · rename_i hne
      have h := hs.tm t v' hl
      have : (a.tmps.setIfInBounds d y).getD t undef = a.tmps.getD t undef := by
        simp only [Array.getD_eq_getD_getElem?, Array.getElem?_setIfInBounds, if_neg (fun e => hne (Eq.symm e) : ¬ d = t)]
      simpa [Act.put, this] using h

/-- what an operation comes to -/
def Good (P : Program) (E : Ent) (N : Nat) (a : Act) (w : World) (s : Sem Next) (v : AV) (σ' : St) : Prop :=
  ∃ y w' ι' S', (s.run P w = .ok (.value y) w' ∨ (s.run P w = .ok .skip w' ∧ y = undef)) ∧ Sim E N σ' ι' S' a w' ∧ VR S' ι' σ'.n w' v y
theorem Good.same {s : Sem Next} {v : AV} {y : Value} (hs : Sim E N σ ι S a w) (hr : s.run P w = .ok (.value y) w) (hv : VR S ι σ.n w v y) : Good P E N a w s v σ :=
  ⟨y, w, ι, S, .inl hr, hs, hv⟩
/-- what an operation comes to that leaves the world as it is -/
def GoodS (P : Program) (σ : St) (ι : Nat → Loc) (S : Nat → Prop) (w : World) (s : Sem Next) (v : AV) (σ' : St) : Prop :=
  σ' = σ ∧ ∃ y, s.run P w = .ok (.value y) w ∧ VR S ι σ.n w v y
theorem GoodS.same {s : Sem Next} {v : AV} {y : Value} (hs : Sim E N σ ι S a w) (hr : s.run P w = .ok (.value y) w) (hv : VR S ι σ.n w v y) : GoodS P σ ι S w s v σ := ⟨rfl, y, hr, hv⟩
theorem GoodS.good {σ' : St} {s : Sem Next} {v : AV} (hs : Sim E N σ ι S a w) (h : GoodS P σ ι S w s v σ') : Good P E N a w s v σ' := by
  obtain ⟨rfl, y, hr, hv⟩ := h
  exact .same hs hr hv
end
end Go.Fw

set_option linter.unusedVariables false
namespace Go.Fw
section
variable {P : Program} {E : Ent} {N : Nat} {σ σ' : St} {ι : Nat → Loc} {S : Nat → Prop} {a : Act} {w : World} {need : Prop} {v : AV}

theorem val_inj {n n' : Prop} {v v' : AV} {s s' : St} (h : Res.val n v s = .val n' v' s') : n = n' ∧ v = v' ∧ s = s' := by injection h with a b c; exact ⟨a, b, c⟩

theorem s_move (hs : Sim E N σ ι S a w) {x : Operand} (h : aMove σ (ev σ x) = .val need v σ') (hn : need) : σ' = σ ∧ VR S ι σ.n w v (a.eval x) := by
  unfold aMove at h
  split at h
  · rename_i c u hu
    obtain ⟨rfl, rfl, rfl⟩ := val_inj h
    exact ⟨rfl, ev_sound hs hu hn⟩
  · cases h

theorem vr_bool {b : Bool} {y : Value} {n : Nat} (h : VR S ι n w (.f (.v (.bool b))) y) : y = .bool b := by simp only [VR, FR] at h; exact h.1
theorem vr_int {k : IntKind} {m : Int} {y : Value} {n : Nat} (h : VR S ι n w (.f (.v (.int k m))) y) : y = .int k m := by simp only [VR, FR] at h; exact h.1
theorem vr_v {x y : Value} {n : Nat} (h : VR S ι n w (.f (.v x)) y) : y = x := by simp only [VR, FR] at h; exact h.1
theorem mk_v {x : Value} {n : Nat} (h : x.oneCell' = true) : VR S ι n w (.s x) x := by simp only [VR, FR]; exact ⟨trivial, h⟩

theorem s_pick (hs : Sim E N σ ι S a w) {o : Oper} {x y z : Operand} (ho : o.op = .pick x y z) (h : aPick σ (ev σ x) (ev σ y) (ev σ z) = .val need v σ') (hn : need) : GoodS P σ ι S w (execOp a.eval o) v σ' := by
  unfold aPick at h
  split at h
  · rename_i c1 c c2 p c3 q h1 h2 h3
    obtain ⟨rfl, rfl, rfl⟩ := val_inj h
    have e1 := vr_bool (ev_sound hs h1 hn.1)
    cases c with
    | true =>
      have e2 := vr_bool (ev_sound hs h2 (hn.2.1 rfl))
      exact .same hs (y := .bool p) (by simp [execOp, ho, e1, e2, asBool]) (mk_v rfl)
    | false =>
      have e2 := vr_bool (ev_sound hs h3 (hn.2.2 rfl))
      exact .same hs (y := .bool q) (by simp [execOp, ho, e1, e2, asBool]) (mk_v rfl)
  · cases h

theorem toListBytes (s : ByteArray) : s.toList = bl s := ByteArray.toList_eq s

theorem bopInt_run (op : BinOp) (T : TypeId) (k k' : IntKind) (x y : Int) (hn : (bopInt op k x k' y).1) : (binOp op T (.int k x) (.int k' y)).run P w = .ok (bopInt op k x k' y).2 w := by
  cases op <;> simp only [bopInt] at hn ⊢
  case shl => simp [binOp, Op.shift, Int.not_lt.2 hn]
  case shr => simp [binOp, Op.shift, Int.not_lt.2 hn]
  case quo => obtain ⟨rfl, h2⟩ := hn; simp [binOp, Op.intDiv, h2]
  case rem => obtain ⟨rfl, h2⟩ := hn; simp [binOp, Op.intDiv, h2]
  all_goals (subst hn; simp [binOp, Op.intArith, Op.intBits, Op.intCmp])

theorem bopInt_one (op : BinOp) (k k' : IntKind) (x y : Int) : (bopInt op k x k' y).2.oneCell' = true := by cases op <;> rfl

theorem size_bl (s : ByteArray) : s.size = (bl s).length := by simp [bl]
theorem append_bl (s t : ByteArray) : s ++ t = ⟨⟨bl s ++ bl t⟩⟩ := by
  apply ByteArray.ext
  apply Array.ext'
  simp [bl]
theorem bopStr_run {op : BinOp} {T : TypeId} {s t : ByteArray} {n : Prop} {r : Value} (h : bopStr op (bl s) (bl t) = some (n, r)) (hn : n) : (binOp op T (.string s) (.string t)).run P w = .ok r w ∧ r.oneCell' = true := by
  cases op <;> simp only [bopStr, Option.some.injEq, Prod.mk.injEq, reduceCtorEq] at h <;> obtain ⟨rfl, rfl⟩ := h <;> refine ⟨?_, rfl⟩ <;> simp [binOp, Op.stringOp, toListBytes]
  have hle : ¬ (9223372036854775807 : Int) < (s.size : Int) + (t.size : Int) := by rw [size_bl, size_bl]; omega
  rw [if_neg (by simpa [IntKind.max, IntKind.bits, IntKind.signed] using hle), append_bl]

theorem s_bin (hs : Sim E N σ ι S a w) {o : Oper} {op : BinOp} {T U : TypeId} {x y : Operand} (ho : o.op = .binOp op T x y U) (h : aBin (tk P) σ op T (ev σ x) (ev σ y) = .val need v σ') (hn : need) : GoodS P σ ι S w (execOp a.eval o) v σ' := by
  unfold aBin at h
  split at h
  · rename_i c p d q h1 h2
    unfold resV at h
    split at h
    · rename_i n r hb
      obtain ⟨rfl, rfl, rfl⟩ := val_inj h
      obtain ⟨⟨hc, hd⟩, hn⟩ := hn
      have e1 := vr_v (ev_sound hs h1 hc)
      have e2 := vr_v (ev_sound hs h2 hd)
      have key : (eqGuard op T x y p q).run P w = .ok () w ∧ (binOp op T p q).run P w = .ok r w ∧ r.oneCell' = true := by
        unfold bopV at hb
        split at hb
        · simp only [Option.some.injEq] at hb
          rw [Prod.ext_iff] at hb
          obtain ⟨hb1, hb2⟩ := hb
          simp only at hb1 hb2
          subst hb1 hb2
          refine ⟨by cases op <;> simp [eqGuard], bopInt_run op T _ _ _ _ hn, bopInt_one _ _ _ _ _⟩
        · exact ⟨by cases op <;> simp [eqGuard], bopStr_run hb hn⟩
        · split at hb
          · rename_i hk
            obtain ⟨i, dd, z, hi, hu, hz, _, _, _, hdesc, _⟩ := tk_spec hk
            have hdb : dd = .bool := by
              cases dd <;> simp [tdOf] at hdesc
              · rfl
              · split at hdesc <;> cases hdesc
            subst hdb
            refine ⟨by cases op <;> simp [eqGuard], ?_⟩
            cases op <;> simp only [bopBool, Option.some.injEq, Prod.mk.injEq, reduceCtorEq] at hb <;> obtain ⟨rfl, rfl⟩ := hb
            · exact ⟨run_eql_bool _ _ _ _ hu, rfl⟩
            · exact ⟨run_neq_bool _ _ _ _ hu, rfl⟩
          · cases hb
        · cases hb
      refine .same hs (y := r) ?_ (mk_v key.2.2)
      simp [execOp, ho, e1, e2, key.1, key.2.1]
    · cases h
  · cases h

/- loads -/
theorem add_off (b o n : Nat) : (⟨b, o, none⟩ : Addr).add n = ⟨b, o + n, none⟩ := by
  unfold Addr.add; split <;> simp_all
theorem isAgg_run {t : TypeId} {d : TypeDesc} (hu : P.underlying t = some d) : (isAgg t).run P w = .ok (isAggD d) w := by
  unfold isAgg
  simp only [Sem.run_bind, run_underlying hu, Result.andThen_ok]
  cases d <;> rfl
theorem sizeOf_run {t : TypeId} {i : TypeInfo} (hi : P.info? t = some i) : (sizeOf t).run P w = .ok i.size w := by
  simp [sizeOf, typeInfo, hi]
theorem load_agg {t : TypeId} {k : TK} (hk : tk P t = some k) (ha : k.agg = true) {b o : Nat} {vs : Array Value} {T : TypeId} {fz : Nat × Nat} (hb : w.heap[b]? = some (.cells vs T fz)) (hle : ((vs.toList.drop o).take k.sz).length = k.sz) :
    (loadVar t ⟨b, o, none⟩).run P w = .ok (.agg ((vs.toList.drop o).take k.sz).toArray) w := by
  obtain ⟨i, d, z, hi, hu, hz, hsz, _, _, _, _, _, h⟩ := tk_spec hk
  have hd : isAggD d = true := by
    rcases h with h | h
    · exact h.2.2
    · rw [h.1] at ha; cases ha
  unfold loadVar
  simp only [Sem.run_bind, isAgg_run hu, hd, Result.andThen_ok, if_true, sizeOf_run hi]
  have hlen : ((vs.toList.drop o).take k.sz).length = i.size := by rw [hle, hsz]
  have := run_loadCells_list (P := P) w ⟨b, o, none⟩ ((vs.toList.drop o).take k.sz) (fun j v hj => by
    rw [add_off]
    refine cell_of hb ?_
    rw [List.getElem?_take] at hj
    split at hj
    · simpa using hj
    · cases hj)
  rw [hlen] at this
  simp [this]
theorem load_one {t : TypeId} {k : TK} (hk : tk P t = some k) (ha : k.agg = false) {b o : Nat} {vs : Array Value} {T : TypeId} {fz : Nat × Nat} (hb : w.heap[b]? = some (.cells vs T fz)) {y : Value} (hy : vs.toList[o]? = some y) :
    (loadVar t ⟨b, o, none⟩).run P w = .ok y w := by
  obtain ⟨i, d, z, hi, hu, hz, hsz, _, _, _, _, _, h⟩ := tk_spec hk
  have hd : isAggD d = false := by
    rcases h with h | h
    · rw [h.1] at ha; cases ha
    · exact h.2.2.1
  unfold loadVar
  simp [isAgg_run hu, hd, cell_of hb hy]

theorem sub_get {α : Type} {l : List α} {n off : Nat} {z : α} (h : (l.take n)[off]? = some z) : l[off]? = some z := by
  rw [List.getElem?_take] at h
  split at h
  · exact h
  · cases h
theorem getD_of_lt {α : Type} {l : List α} {i : Nat} (h : i < l.length) (d : α) : l[i]? = some (l.getD i d) := by simp [List.getD, List.getElem?_eq_getElem h]
theorem take_drop_take {α : Type} (l : List α) (n off sz : Nat) (h : off + sz ≤ n) : ((l.take n).drop off).take sz = (l.drop off).take sz := by
  rw [List.drop_take, List.take_take, Nat.min_eq_left (by omega)]

theorem load_core (hs : Sim E N σ ι S a w) {T : TypeId} {x : Operand} (h : aLoad σ (ev σ x) (tk P T) = .val need v σ') (hn : need) :
    σ' = σ ∧ ∃ y b o, a.eval x = .pointer (some ⟨b, o, none⟩) ∧ (loadVar T ⟨b, o, none⟩).run P w = .ok y w ∧ VR S ι σ.n w v y := by
  unfold aLoad at h
  split at h
  · rename_i c id off k h1 hk
    split at h
    · rename_i U cs hl
      obtain ⟨hid, b, vs, hb, hh, hv, hone⟩ := hs.mem.obj id _ hl
      unfold ldAgg at h
      split at h <;> rename_i ha <;> obtain ⟨rfl, rfl, rfl⟩ := val_inj h <;> have e1 := ev_sound hs h1 hn.1 <;> simp only [VR] at e1 <;> obtain ⟨_, b', hb', e1⟩ := e1 <;> rw [hb] at hb' <;> simp only [Option.some.injEq] at hb' <;> subst hb'
      · have hlen := hv.length
        refine ⟨rfl, .agg ((vs.toList.drop off).take k.sz).toArray, _, _, e1, ?_, ?_⟩
        · exact load_agg hk ha hh (show ((vs.toList.drop off).take k.sz).length = k.sz by rw [List.length_take, List.length_drop, hlen]; omega)
        · simp only [VR]
          exact ⟨_, rfl, (hv.drop off).take k.sz, fun z hz => hone z (List.mem_of_mem_drop (List.mem_of_mem_take hz))⟩
      · obtain ⟨y, hy, hvy⟩ := hv.get (getD_of_lt hn.2 (.f k.zero))
        refine ⟨rfl, y, _, _, e1, ?_, hvy⟩
        exact load_one hk ha hh hy
    · cases h
  · rename_i c id sz i off k h1 hk
    split at h
    · rename_i U sz' xs hl
      obtain ⟨hid, ho'⟩ := hs.mem.obj id _ hl
      unfold ldAgg at h
      split at h <;> rename_i ha <;> obtain ⟨rfl, rfl, rfl⟩ := val_inj h <;> have e1 := ev_sound hs h1 hn.1 <;> simp only [VR] at e1 <;> obtain ⟨_, b', hb', e1⟩ := e1 <;> obtain ⟨_, rfl, hi, hoff⟩ := hn
      · rcases ho' with ⟨hb, _⟩ | ⟨b, vs, hb, hh, hlc, hcm, hvs, hr⟩
        · rw [hb] at hb'; cases hb'
        rw [hb] at hb'; simp only [Option.some.injEq] at hb'; subst hb'
        obtain ⟨y, hy1, hy2, hy3, hy4⟩ := hr.get (getD_of_lt hi k.zero)
        have hsub : (vs.toList.drop (i * sz + off)).take k.sz = (y.cells.toList.drop off).take k.sz := by
          rw [hy2, take_drop_take _ _ _ _ hoff, List.drop_drop]
        refine ⟨rfl, .agg ((vs.toList.drop (i * sz + off)).take k.sz).toArray, _, _, e1, ?_, ?_⟩
        · have hle : ((vs.toList.drop (i * sz + off)).take k.sz).length = k.sz := by
            rw [hsub, List.length_take, List.length_drop, Array.length_toList]; omega
          exact load_agg hk ha hh hle
        · simp only [VR, FR]
          rw [hsub]
          exact ⟨_, rfl, (hy1.cells.drop off).take k.sz, fun z hz => hy4 z (List.mem_of_mem_drop (List.mem_of_mem_take hz))⟩
      · rcases ho' with ⟨hb, _⟩ | ⟨b, vs, hb, hh, hlc, hcm, hvs, hr⟩
        · rw [hb] at hb'; cases hb'
        rw [hb] at hb'; simp only [Option.some.injEq] at hb'; subst hb'
        obtain ⟨y, hy1, hy2, hy3, hy4⟩ := hr.get (getD_of_lt hi k.zero)
        have hc := hy1.cells
        have hl' := hc.length
        obtain ⟨z, hz, hvz⟩ := hc.get (getD_of_lt (show off < (xs.getD i k.zero).cells.length by rw [← hl']; simp only [Array.length_toList]; omega) k.zero)
        have hz' : vs.toList[i * sz + off]? = some z := by
          rw [hy2] at hz
          have := sub_get hz
          rwa [List.getElem?_drop] at this
        refine ⟨rfl, z, _, _, e1, ?_, by simpa only [VR] using hvz⟩
        exact load_one hk ha hh hz'
    · cases h
  · rename_i c x off k h1 hk
    unfold ldAgg at h
    split at h <;> rename_i ha <;> obtain ⟨rfl, rfl, rfl⟩ := val_inj h <;> have e1 := ev_sound hs h1 hn.1 <;> simp only [VR, FR] at e1 <;> obtain ⟨b, o', cs, T', fz, y, e1, hb, hh, hy1, hy2, hy4⟩ := e1 <;> have hl' := hy1.cells.length
    · have hoff : off + k.sz ≤ y.cells.size := by have := hn.2; simp only [Array.length_toList] at hl'; omega
      have hsub : (cs.toList.drop (o' + off)).take k.sz = (y.cells.toList.drop off).take k.sz := by
        rw [← hy2, take_drop_take _ _ _ _ hoff, List.drop_drop]
      refine ⟨rfl, .agg ((cs.toList.drop (o' + off)).take k.sz).toArray, _, _, e1, ?_, ?_⟩
      · have hle : ((cs.toList.drop (o' + off)).take k.sz).length = k.sz := by
          rw [hsub, List.length_take, List.length_drop, Array.length_toList]; omega
        exact load_agg hk ha hh hle
      · simp only [VR, FR]
        rw [hsub]
        exact ⟨_, rfl, (hy1.cells.drop off).take k.sz, fun z hz => hy4 z (List.mem_of_mem_drop (List.mem_of_mem_take hz))⟩
    · obtain ⟨z, hz, hvz⟩ := hy1.cells.get (getD_of_lt hn.2 k.zero)
      have hz' : cs.toList[o' + off]? = some z := by
        rw [← hy2] at hz
        have := sub_get hz
        rwa [List.getElem?_drop] at this
      refine ⟨rfl, z, _, _, e1, ?_, by simpa only [VR] using hvz⟩
      exact load_one hk ha hh hz'
  · cases h

theorem s_load (hs : Sim E N σ ι S a w) {o : Oper} {T : TypeId} {x : Operand} (ho : o.op = .load T x) (h : aLoad σ (ev σ x) (tk P T) = .val need v σ') (hn : need) : GoodS P σ ι S w (execOp a.eval o) v σ' := by
  obtain ⟨rfl, y, b, off, e1, hr, hv⟩ := load_core hs h hn
  refine .same hs (y := y) ?_ hv
  simp [execOp, ho, e1, Instr.loadAt, Instr.sureAddr, hr]
end
end Go.Fw

set_option linter.unusedVariables false
namespace Go.Fw
section
variable {P : Program} {E : Ent} {N : Nat} {σ σ' : St} {ι : Nat → Loc} {S : Nat → Prop} {a : Act} {w : World} {need : Prop} {v : AV}

theorem tdOf_struct {d : TypeDesc} {fs : List (Nat × TypeId)} (h : tdOf P d = .struct fs) :
    ∃ arr, d = .struct arr ∧ fs = arr.toList.map (fun f => (f.offset, f.type)) ∧ ∀ f ∈ arr.toList, ∃ i, P.info? f.type = some i ∧ i.size ≠ 0 := by
  cases d <;> simp only [tdOf, reduceCtorEq] at h
  rename_i arr
  split at h
  · rename_i hall
    simp only [TD.struct.injEq] at h
    refine ⟨arr, rfl, h.symm, fun f hf => ?_⟩
    rw [Array.all_eq_true'] at hall
    have := hall f (Array.mem_toList_iff.1 hf)
    split at this
    · rename_i i hi; exact ⟨i, hi, by simpa using this⟩
    · cases this
  · cases h
theorem tdOf_int {d : TypeDesc} {k : IntKind} (h : tdOf P d = .int k) : d = .int k := by
  cases d <;> simp only [tdOf, reduceCtorEq, TD.int.injEq] at h
  · rw [h]
  · split at h <;> cases h
theorem tdOf_str {d : TypeDesc} (h : tdOf P d = .str) : d = .string := by
  cases d <;> simp only [tdOf, reduceCtorEq] at h
  · rfl
  · split at h <;> cases h
theorem tdOf_slice {d : TypeDesc} {e : TypeId} (h : tdOf P d = .slice e) : d = .slice e := by
  cases d <;> simp only [tdOf, reduceCtorEq, TD.slice.injEq] at h
  · rw [h]
  · split at h <;> cases h
theorem tdOf_array {d : TypeDesc} {n : Nat} {e : TypeId} (h : tdOf P d = .array n e) : d = .array n e := by
  cases d <;> simp only [tdOf, reduceCtorEq, TD.array.injEq] at h
  · rw [h.1, h.2]
  · split at h <;> cases h
theorem tk_desc {t : TypeId} {sz bytes : Nat} {ag : Bool} {z : FV} {td : TD} (hk : tk P t = some ⟨sz, bytes, ag, z, td⟩) : ∃ d, P.underlying t = some d ∧ tdOf P d = td := by
  obtain ⟨i, d, z, hi, hu, _, _, _, _, hd, _⟩ := tk_spec hk
  exact ⟨d, hu, hd.symm⟩
theorem tk_sz {t : TypeId} {k : TK} (hk : tk P t = some k) : (sizeOf t).run P w = .ok k.sz w := by
  obtain ⟨i, d, z, hi, hu, _, hsz, _⟩ := tk_spec hk
  rw [hsz]; exact sizeOf_run hi

theorem s_fieldAddr (hs : Sim E N σ ι S a w) {o : Oper} {T : TypeId} {x : Operand} {i : Nat} (ho : o.op = .fieldAddr T x i) (h : aFieldAddr σ (ev σ x) (fldAt i (tk P T)) = .val need v σ') (hn : need) : GoodS P σ ι S w (execOp a.eval o) v σ' := by
  have key : ∀ {o' : Nat} {e : TypeId} {b off : Nat}, fldAt i (tk P T) = some (o', e) → (Instr.fieldAt T (.pointer (some ⟨b, off, none⟩)) i).run P w = .ok (.pointer (some ⟨b, off + o', none⟩)) w := by
    intro o' e b off hf
    unfold fldAt at hf
    split at hf
    · rename_i fs hk
      obtain ⟨d, hu, hd⟩ := tk_desc hk
      obtain ⟨arr, rfl, rfl, hall⟩ := tdOf_struct hd
      rw [List.getElem?_map] at hf
      cases hg : arr.toList[i]? with
      | none => rw [hg] at hf; cases hf
      | some f =>
        rw [hg] at hf
        simp only [Option.map_some, Option.some.injEq, Prod.mk.injEq] at hf
        obtain ⟨rfl, rfl⟩ := hf
        obtain ⟨inf, hi, hsz⟩ := hall f (List.mem_of_getElem? hg)
        have hg' : arr[i]? = some f := by simpa using hg
        simp [Instr.fieldAt, run_underlying hu, hg', Instr.sureAddr, fieldPlace, sizeOf_run hi, hsz, add_off]
    · cases hf
  unfold aFieldAddr at h
  split at h
  · rename_i c id off o' e h1 hf
    obtain ⟨rfl, rfl, rfl⟩ := val_inj h
    have e1 := ev_sound hs h1 hn
    simp only [VR] at e1
    obtain ⟨hid, b, hb, e1⟩ := e1
    refine .same hs (y := .pointer (some ⟨b, off + o', none⟩)) ?_ (by simp only [VR]; exact ⟨hid, b, hb, rfl⟩)
    simp [execOp, ho, e1, key hf]
  · rename_i c id sz j off o' e h1 hf
    obtain ⟨rfl, rfl, rfl⟩ := val_inj h
    have e1 := ev_sound hs h1 hn
    simp only [VR] at e1
    obtain ⟨hid, b, hb, e1⟩ := e1
    refine .same hs (y := .pointer (some ⟨b, j * sz + off + o', none⟩)) ?_ (by simp only [VR]; exact ⟨hid, b, hb, by rw [Nat.add_assoc]⟩)
    simp [execOp, ho, e1, key hf]
  · rename_i c x' off o' e h1 hf
    obtain ⟨rfl, rfl, rfl⟩ := val_inj h
    have e1 := ev_sound hs h1 hn
    simp only [VR, FR] at e1
    obtain ⟨b, oo, cs, T', fz, z, e1, hb, hh, hz⟩ := e1
    refine .same hs (y := .pointer (some ⟨b, oo + off + o', none⟩)) ?_ (by simp only [VR, FR]; exact ⟨b, oo, cs, T', fz, z, by rw [Nat.add_assoc], hb, hh, hz⟩)
    simp [execOp, ho, e1, key hf]
  · cases h

theorem arr_drop {vs : Array Value} {o n : Nat} : (vs.extract o (o + n)) = ((vs.toList.drop o).take n).toArray := by
  apply Array.ext'
  simp
theorem part_agg {t : TypeId} {k : TK} (hk : tk P t = some k) (ha : k.agg = true) (vs : Array Value) (o : Nat) : (part t vs o).run P w = .ok (.agg ((vs.toList.drop o).take k.sz).toArray) w := by
  obtain ⟨i, d, z, hi, hu, hz, hsz, _, _, _, _, _, h⟩ := tk_spec hk
  have hd : isAggD d = true := by
    rcases h with h | h
    · exact h.2.2
    · rw [h.1] at ha; cases ha
  unfold part
  simp only [Sem.run_bind, isAgg_run hu, hd, Result.andThen_ok, if_true, sizeOf_run hi, arr_drop, hsz]
  rfl
theorem part_one {t : TypeId} {k : TK} (hk : tk P t = some k) (ha : k.agg = false) {vs : Array Value} {o : Nat} {y : Value} (hy : vs.toList[o]? = some y) : (part t vs o).run P w = .ok y w := by
  obtain ⟨i, d, z, hi, hu, hz, hsz, _, _, _, _, _, h⟩ := tk_spec hk
  have hd : isAggD d = false := by
    rcases h with h | h
    · rw [h.1] at ha; cases ha
    · exact h.2.2.1
  have hy' : vs[o]? = some y := by simpa using hy
  unfold part
  simp [isAgg_run hu, hd, hy']

/-- a part of a struct's or an array's value -/
theorem partOf_sound (hs : Sim E N σ ι S a w) {e : TypeId} {cs : List AV} {vs : Array Value} {o : Nat} {k : TK} (hk : tk P e = some k)
    (hv : VRs S ι σ.n w cs vs.toList) (hone : ∀ z ∈ vs.toList, z.oneCell' = true) {n1 n2 : Prop} (h1 : n1 → o + k.sz ≤ cs.length) (h2 : n2 → o < cs.length)
    (h : ldAgg k.agg n1 n2 (.agg ((cs.drop o).take k.sz)) (cs.getD o (.f k.zero)) σ = .val need v σ') (hn : need) : σ' = σ ∧ ∃ y, (part e vs o).run P w = .ok y w ∧ VR S ι σ.n w v y := by
  unfold ldAgg at h
  split at h <;> rename_i ha <;> obtain ⟨rfl, rfl, rfl⟩ := val_inj h
  · refine ⟨rfl, _, part_agg hk ha vs o, ?_⟩
    simp only [VR]
    exact ⟨_, rfl, (hv.drop o).take k.sz, fun z hz => hone z (List.mem_of_mem_drop (List.mem_of_mem_take hz))⟩
  · obtain ⟨y, hy, hvy⟩ := hv.get (getD_of_lt (h2 hn) (.f k.zero))
    exact ⟨rfl, y, part_one hk ha hy, hvy⟩
theorem partOf_soundF (hs : Sim E N σ ι S a w) {e : TypeId} {cs : List FV} {vs : Array Value} {o : Nat} {k : TK} (hk : tk P e = some k)
    (hv : FRs S w cs vs.toList) (hone : ∀ z ∈ vs.toList, z.oneCell' = true) {n1 n2 : Prop} (h1 : n1 → o + k.sz ≤ cs.length) (h2 : n2 → o < cs.length)
    (h : ldAgg k.agg n1 n2 (.f (.agg ((cs.drop o).take k.sz))) (.f (cs.getD o k.zero)) σ = .val need v σ') (hn : need) : σ' = σ ∧ ∃ y, (part e vs o).run P w = .ok y w ∧ VR S ι σ.n w v y := by
  unfold ldAgg at h
  split at h <;> rename_i ha <;> obtain ⟨rfl, rfl, rfl⟩ := val_inj h
  · refine ⟨rfl, _, part_agg hk ha vs o, ?_⟩
    simp only [VR, FR]
    exact ⟨_, rfl, (hv.drop o).take k.sz, fun z hz => hone z (List.mem_of_mem_drop (List.mem_of_mem_take hz))⟩
  · obtain ⟨y, hy, hvy⟩ := hv.get (getD_of_lt (h2 hn) k.zero)
    exact ⟨rfl, y, part_one hk ha hy, by simpa only [VR] using hvy⟩

theorem s_field (hs : Sim E N σ ι S a w) {o : Oper} {T : TypeId} {x : Operand} {i : Nat} (ho : o.op = .field T x i) (h : aField (tk P) σ (ev σ x) (fldAt i (tk P T)) = .val need v σ') (hn : need) : GoodS P σ ι S w (execOp a.eval o) v σ' := by
  have key : ∀ {o' : Nat} {e : TypeId} {vs : Array Value} {y : Value}, fldAt i (tk P T) = some (o', e) → (part e vs o').run P w = .ok y w → (Instr.field T (.agg vs) i).run P w = .ok y w := by
    intro o' e vs y hf hp
    unfold fldAt at hf
    split at hf
    · rename_i fs hk
      obtain ⟨d, hu, hd⟩ := tk_desc hk
      obtain ⟨arr, rfl, rfl, hall⟩ := tdOf_struct hd
      rw [List.getElem?_map] at hf
      cases hg : arr.toList[i]? with
      | none => rw [hg] at hf; cases hf
      | some f =>
        rw [hg] at hf
        simp only [Option.map_some, Option.some.injEq, Prod.mk.injEq] at hf
        obtain ⟨rfl, rfl⟩ := hf
        have hg' : arr[i]? = some f := by simpa using hg
        simp [Instr.field, run_underlying hu, hg', asAgg, hp]
    · cases hf
  unfold aField at h
  split at h
  · rename_i c cs o' e h1 hf
    unfold partOf at h
    split at h
    · rename_i k hk
      have hc : c = true := by
        unfold ldAgg at h
        split at h <;> (obtain ⟨rfl, rfl, rfl⟩ := val_inj h; exact hn.1)
      have e1 := ev_sound hs h1 hc
      simp only [VR] at e1
      obtain ⟨vs, e1, hv, hone⟩ := e1
      obtain ⟨rfl, y, hp, hvy⟩ := partOf_sound hs hk hv hone (fun h => h.2) (fun h => h.2) h hn
      exact .same hs (by simp [execOp, ho, e1, key hf hp]) hvy
    · cases h
  · rename_i c cs o' e h1 hf
    split at h
    · rename_i k hk
      have hc : c = true := by
        unfold ldAgg at h
        split at h <;> (obtain ⟨rfl, rfl, rfl⟩ := val_inj h; exact hn.1)
      have e1 := ev_sound hs h1 hc
      simp only [VR, FR] at e1
      obtain ⟨vs, e1, hv, hone⟩ := e1
      obtain ⟨rfl, y, hp, hvy⟩ := partOf_soundF hs hk hv hone (fun h => h.2) (fun h => h.2) h hn
      exact .same hs (by simp [execOp, ho, e1, key hf hp]) hvy
    · cases h
  · cases h

theorem s_indexAddr (hs : Sim E N σ ι S a w) {o : Oper} {T : TypeId} {x i : Operand} (ho : o.op = .indexAddr T x i) (h : aIndexAddr (tk P) σ (ev σ x) (ev σ i) (tk P T) = .val need v σ') (hn : need) : GoodS P σ ι S w (execOp a.eval o) v σ' := by
  unfold aIndexAddr at h
  split at h
  · rename_i c u d kk n _ _ _ _ e h1 h2 hk
    obtain ⟨dd, hu, hd⟩ := tk_desc hk
    have hd := tdOf_slice hd; subst hd
    unfold idxAddrE at h
    split at h
    · rename_i sz xs k hke
      obtain ⟨rfl, rfl, rfl⟩ := val_inj h
      obtain ⟨⟨hc, hdd⟩, h0, hlt, hsz⟩ := hn
      have e1 := ev_sound hs h1 hc
      have e2 := vr_int (ev_sound hs h2 hdd)
      have hlt' : n.toNat < xs.length := by omega
      simp only [VR, FR] at e1
      rcases e1 with ⟨rfl, _⟩ | ⟨b, oo, cp, cs, T', fz, e1, hb, hh, hr, _⟩
      · simp at hlt'
      obtain ⟨y, hy1, hy2, hy3, hy4⟩ := hr.get (getD_of_lt hlt' k.zero)
      refine .same hs (y := .pointer (some ⟨b, oo + n.toNat * sz, none⟩)) ?_ ?_
      · simp [execOp, ho, e1, e2, Instr.indexAt, asIntOf, run_underlying hu, h0, hlt, tk_sz hke, hsz, add_off]
      · simp only [VR, FR]
        refine ⟨b, oo + n.toNat * sz, cs, T', fz, y, by simp, hb, hh, hy1, ?_, hy4⟩
        rw [hy2, hy3, List.drop_drop]
    · rename_i id sz off len k hke
      obtain ⟨rfl, rfl, rfl⟩ := val_inj h
      obtain ⟨⟨hc, hdd⟩, h0, hlt, hsz⟩ := hn
      have e1 := ev_sound hs h1 hc
      have e2 := vr_int (ev_sound hs h2 hdd)
      have hlt' : n.toNat < len := by omega
      simp only [VR] at e1
      obtain ⟨hid, ⟨_, _, rfl, _⟩ | ⟨b, oo, hb, hcap, hoo, _, e1⟩⟩ := e1
      · omega
      have hoo := hoo (by omega)
      subst hoo
      refine .same hs (y := .pointer (some ⟨b, off * sz + n.toNat * sz, none⟩)) ?_ ?_
      · simp [execOp, ho, e1, e2, Instr.indexAt, asIntOf, run_underlying hu, h0, hlt, tk_sz hke, hsz, add_off]
      · simp only [VR]
        exact ⟨hid, b, hb, by rw [Nat.add_zero, Nat.add_mul]⟩
    · cases h
  · rename_i c u d kk n _ _ _ _ len e h1 h2 hk
    obtain ⟨dd, hu, hd⟩ := tk_desc hk
    have hd := tdOf_array hd; subst hd
    unfold arrAddrE at h
    split at h
    · rename_i id off k hke
      obtain ⟨rfl, rfl, rfl⟩ := val_inj h
      obtain ⟨⟨hc, hdd⟩, h0, hlt⟩ := hn
      have e1 := ev_sound hs h1 hc
      have e2 := vr_int (ev_sound hs h2 hdd)
      simp only [VR] at e1
      obtain ⟨hid, b, hb, e1⟩ := e1
      refine .same hs (y := .pointer (some ⟨b, off + n.toNat * k.sz, none⟩)) ?_ (by simp only [VR]; exact ⟨hid, b, hb, rfl⟩)
      simp [execOp, ho, e1, e2, Instr.indexAt, asIntOf, run_underlying hu, h0, hlt, tk_sz hke, add_off, Instr.sureAddr]
    · rename_i id sz j off k hke
      obtain ⟨rfl, rfl, rfl⟩ := val_inj h
      obtain ⟨⟨hc, hdd⟩, h0, hlt⟩ := hn
      have e1 := ev_sound hs h1 hc
      have e2 := vr_int (ev_sound hs h2 hdd)
      simp only [VR] at e1
      obtain ⟨hid, b, hb, e1⟩ := e1
      refine .same hs (y := .pointer (some ⟨b, j * sz + off + n.toNat * k.sz, none⟩)) ?_ (by simp only [VR]; exact ⟨hid, b, hb, by rw [Nat.add_assoc]⟩)
      simp [execOp, ho, e1, e2, Instr.indexAt, asIntOf, run_underlying hu, h0, hlt, tk_sz hke, add_off, Instr.sureAddr]
    · rename_i x' off k hke
      obtain ⟨rfl, rfl, rfl⟩ := val_inj h
      obtain ⟨⟨hc, hdd⟩, h0, hlt⟩ := hn
      have e1 := ev_sound hs h1 hc
      have e2 := vr_int (ev_sound hs h2 hdd)
      simp only [VR, FR] at e1
      obtain ⟨b, oo, cs, T', fz, z, e1, hb, hh, hz⟩ := e1
      refine .same hs (y := .pointer (some ⟨b, oo + off + n.toNat * k.sz, none⟩)) ?_ (by simp only [VR, FR]; exact ⟨b, oo, cs, T', fz, z, by rw [Nat.add_assoc], hb, hh, hz⟩)
      simp [execOp, ho, e1, e2, Instr.indexAt, asIntOf, run_underlying hu, h0, hlt, tk_sz hke, add_off, Instr.sureAddr]
    · cases h
  · cases h

theorem s_index (hs : Sim E N σ ι S a w) {o : Oper} {T : TypeId} {x i : Operand} (ho : o.op = .index T x i) (h : aIndex (tk P) σ (ev σ x) (ev σ i) (tk P T) = .val need v σ') (hn : need) : GoodS P σ ι S w (execOp a.eval o) v σ' := by
  have arr : ∀ {c d : Bool} {kk : IntKind} {n : Int} {len : Nat} {e : TypeId} {cs : List AV} {vs : Array Value} {q1 q2 : Nat} {q3 : Bool} {q4 : FV}, tk P T = some ⟨q1, q2, q3, q4, .array len e⟩ → arrIdx σ (c = true ∧ d = true) n len cs (tk P e) = .val need v σ' →
      (c = true → a.eval x = .agg vs ∧ VRs S ι σ.n w cs vs.toList ∧ ∀ z ∈ vs.toList, z.oneCell' = true) → (d = true → a.eval i = .int kk n) → GoodS P σ ι S w (execOp a.eval o) v σ' := by
    intro c d kk n len e cs vs q1 q2 q3 q4 hk h ex ei
    obtain ⟨dd, hu, hd⟩ := tk_desc hk
    have hd := tdOf_array hd; subst hd
    unfold arrIdx at h
    split at h
    · rename_i k hke
      have hcd : (c = true ∧ d = true) ∧ 0 ≤ n ∧ n < len := by
        unfold ldAgg at h
        split at h <;> (obtain ⟨rfl, rfl, rfl⟩ := val_inj h; exact ⟨hn.1, hn.2.1, hn.2.2.1⟩)
      obtain ⟨⟨hc, hdd⟩, h0, hlt⟩ := hcd
      obtain ⟨ex1, hv, hone⟩ := ex hc
      have ei1 := ei hdd
      obtain ⟨rfl, y, hp, hvy⟩ := partOf_sound hs hke hv hone (fun h => h.2.2.2) (fun h => h.2.2.2) h hn
      exact .same hs (by simp [execOp, ho, ex1, ei1, Instr.index, asIntOf, run_underlying hu, h0, hlt, tk_sz hke, hp]) hvy
    · cases h
  unfold aIndex at h
  split at h
  · rename_i c s d kk n _ _ _ _ h1 h2 hk
    obtain ⟨rfl, rfl, rfl⟩ := val_inj h
    obtain ⟨hc, hdd, h0, hlt⟩ := hn
    obtain ⟨dd, hu, hd⟩ := tk_desc hk
    have hd := tdOf_str hd; subst hd
    have e1 := vr_v (ev_sound hs h1 hc)
    have e2 := vr_int (ev_sound hs h2 hdd)
    have hlt' : n.toNat < (bl s).length := by omega
    have hg : s[n.toNat]? = some ((bl s).getD n.toNat 0) := by
      have hsz : n.toNat < s.size := by rw [size_bl]; exact hlt'
      rw [getElem?_pos s n.toNat hsz, Option.some.injEq]
      simp only [bl, List.getD]
      rw [List.getElem?_eq_getElem (by simpa [bl] using hlt')]
      rfl
    exact .same hs (y := .int .u8 ((bl s).getD n.toNat 0).toNat) (by simp only [execOp, ho, e1, e2, Instr.index, asIntOf, Sem.run_bind, Sem.run_pure, Result.andThen_ok, run_underlying hu, h0, if_true, hg]) (mk_v rfl)
  · rename_i c cs d kk n _ _ _ _ len e h1 h2 hk
    by_cases hc : c = true
    · have e1 := ev_sound hs h1 hc
      simp only [VR] at e1
      obtain ⟨vs, e1, hv, hone⟩ := e1
      exact arr hk h (fun _ => ⟨e1, hv, hone⟩) (fun hd => vr_int (ev_sound hs h2 hd))
    · exact arr (vs := #[]) hk h (fun h => absurd h hc) (fun hd => vr_int (ev_sound hs h2 hd))
  · rename_i c cs d kk n _ _ _ _ len e h1 h2 hk
    by_cases hc : c = true
    · have e1 := ev_sound hs h1 hc
      simp only [VR, FR] at e1
      obtain ⟨vs, e1, hv, hone⟩ := e1
      exact arr hk h (fun _ => ⟨e1, VRs_map_f.2 hv, hone⟩) (fun hd => vr_int (ev_sound hs h2 hd))
    · exact arr (vs := #[]) hk h (fun h => absurd h hc) (fun hd => vr_int (ev_sound hs h2 hd))
  · cases h

theorem s_extract (hs : Sim E N σ ι S a w) {o : Oper} {x : Operand} {i : Nat} (ho : o.op = .extract x i) (h : aExtract σ i (ev σ x) = .val need v σ') (hn : need) : GoodS P σ ι S w (execOp a.eval o) v σ' := by
  unfold aExtract at h
  split at h
  · rename_i c vs h1
    unfold aMove at h
    split at h
    · rename_i c' u hu
      split at hu
      · rename_i u' hg
        simp only [Option.some.injEq, Prod.mk.injEq] at hu
        obtain ⟨rfl, rfl⟩ := hu
        obtain ⟨rfl, rfl, rfl⟩ := val_inj h
        have e1 := ev_sound hs h1 hn
        simp only [VR] at e1
        obtain ⟨ys, e1, hv⟩ := e1
        obtain ⟨y, hy, hvy⟩ := hv.get hg
        have hy' : ys[i]? = some y := by simpa using hy
        exact .same hs (y := y) (by simp [execOp, ho, e1, Instr.extract, hy']) hvy
      · cases hu
    · cases h
  · rename_i c vs h1
    unfold aMove at h
    split at h
    · rename_i c' u hu
      split at hu
      · rename_i u' hg
        simp only [Option.some.injEq, Prod.mk.injEq] at hu
        obtain ⟨rfl, rfl⟩ := hu
        obtain ⟨rfl, rfl, rfl⟩ := val_inj h
        have e1 := ev_sound hs h1 hn
        simp only [VR, FR] at e1
        obtain ⟨ys, e1, hv⟩ := e1
        obtain ⟨y, hy, hvy⟩ := hv.get hg
        have hy' : ys[i]? = some y := by simpa using hy
        exact .same hs (y := y) (by simp [execOp, ho, e1, Instr.extract, hy']) (by simpa only [VR] using hvy)
      · cases hu
    · cases h
  · cases h

theorem s_len (hs : Sim E N σ ι S a w) {o : Oper} {T U : TypeId} {x : Operand} (ho : execOp a.eval o = (do let v ← builtin .len #[T] U #[] #[a.eval x]; pure v)) (h : aLen σ (ev σ x) (tk P T) = .val need v σ') (hn : need) : GoodS P σ ι S w (execOp a.eval o) v σ' := by
  rw [ho]
  unfold aLen at h
  split at h
  · rename_i c s _ _ _ _ h1 hk
    obtain ⟨rfl, rfl, rfl⟩ := val_inj h
    obtain ⟨dd, hu, hd⟩ := tk_desc hk
    have hd := tdOf_str hd; subst hd
    have e1 := vr_v (ev_sound hs h1 hn)
    exact .same hs (y := .int .i64 (bl s).length) (by simp [builtin, Builtin.len_, e1, run_underlying hu, goInt, size_bl]) (mk_v rfl)
  · rename_i c sz xs _ _ _ _ e h1 hk
    obtain ⟨rfl, rfl, rfl⟩ := val_inj h
    obtain ⟨dd, hu, hd⟩ := tk_desc hk
    have hd := tdOf_slice hd; subst hd
    have e1 := ev_sound hs h1 hn
    simp only [VR, FR] at e1
    refine .same hs (y := .int .i64 xs.length) ?_ (mk_v rfl)
    rcases e1 with ⟨rfl, a', c', e1⟩ | ⟨b, oo, cp, cs, T', fz, e1, _⟩ <;> simp [builtin, Builtin.len_, e1, run_underlying hu, goInt]
  · rename_i c _ _ _ _ e h1 hk
    obtain ⟨rfl, rfl, rfl⟩ := val_inj h
    obtain ⟨dd, hu, hd⟩ := tk_desc hk
    have hd := tdOf_slice hd; subst hd
    have e1 := vr_v (ev_sound hs h1 hn)
    exact .same hs (y := .int .i64 0) (by simp [builtin, Builtin.len_, e1, run_underlying hu, goInt]) (mk_v rfl)
  · rename_i c id sz off len _ _ _ _ e h1 hk
    obtain ⟨rfl, rfl, rfl⟩ := val_inj h
    obtain ⟨dd, hu, hd⟩ := tk_desc hk
    have hd := tdOf_slice hd; subst hd
    have e1 := ev_sound hs h1 hn
    simp only [VR] at e1
    refine .same hs (y := .int .i64 len) ?_ (mk_v rfl)
    obtain ⟨_, ⟨_, _, rfl, _, e1⟩ | ⟨b, oo, _, _, _, _, e1⟩⟩ := e1 <;> simp [builtin, Builtin.len_, e1, run_underlying hu, goInt]
  · cases h
end
end Go.Fw

set_option linter.unusedVariables false
namespace Go.Fw
section
variable {P : Program} {E : Ent} {N : Nat} {σ σ' : St} {ι : Nat → Loc} {S : Nat → Prop} {a : Act} {w : World} {need : Prop} {v : AV}

theorem s_not (hs : Sim E N σ ι S a w) {o : Oper} {T : TypeId} {x : Operand} (ho : o.op = .unOp .not T x) (h : aNot σ (ev σ x) = .val need v σ') (hn : need) : GoodS P σ ι S w (execOp a.eval o) v σ' := by
  unfold aNot at h
  split at h
  · rename_i c b h1
    obtain ⟨rfl, rfl, rfl⟩ := val_inj h
    have e1 := vr_v (ev_sound hs h1 hn)
    exact .same hs (y := .bool (!b)) (by simp [execOp, ho, e1, Op.unary]) (mk_v rfl)
  · cases h
theorem s_neg (hs : Sim E N σ ι S a w) {o : Oper} {T : TypeId} {x : Operand} (ho : o.op = .unOp .neg T x) (h : aNeg σ (ev σ x) = .val need v σ') (hn : need) : GoodS P σ ι S w (execOp a.eval o) v σ' := by
  unfold aNeg at h
  split at h
  · rename_i c k n h1
    obtain ⟨rfl, rfl, rfl⟩ := val_inj h
    have e1 := vr_v (ev_sound hs h1 hn)
    exact .same hs (y := .int k (k.wrap (0 - n))) (by simp [execOp, ho, e1, Op.unary, Op.intArith]) (mk_v rfl)
  · cases h
theorem s_xor (hs : Sim E N σ ι S a w) {o : Oper} {T : TypeId} {x : Operand} (ho : o.op = .unOp .xor T x) (h : aXor σ (ev σ x) = .val need v σ') (hn : need) : GoodS P σ ι S w (execOp a.eval o) v σ' := by
  unfold aXor at h
  split at h
  · rename_i c k n h1
    obtain ⟨rfl, rfl, rfl⟩ := val_inj h
    have e1 := vr_v (ev_sound hs h1 hn)
    exact .same hs (y := .int k (k.wrap (BitVec.ofInt k.bits (if k.signed then -1 else k.max) ^^^ BitVec.ofInt k.bits n).toNat)) (by simp [execOp, ho, e1, Op.unary, Op.intBits]) (mk_v rfl)
  · cases h
theorem s_nil (hs : Sim E N σ ι S a w) {o : Oper} {x : Operand} (ho : o.op = .nilCheck x) (h : aNil σ (ev σ x) = .val need v σ') (hn : need) : GoodS P σ ι S w (execOp a.eval o) v σ' := by
  unfold aNil at h
  split at h <;> first | (cases h; done) | skip
  · rename_i c id off h1
    obtain ⟨rfl, rfl, rfl⟩ := val_inj h
    have e0 := ev_sound hs h1 hn
    have e1 := e0
    simp only [VR] at e1
    obtain ⟨_, b, _, e1⟩ := e1
    rw [e1] at e0
    exact .same hs (by simp [execOp, ho, e1]) e0
  · rename_i c id sz i off h1
    obtain ⟨rfl, rfl, rfl⟩ := val_inj h
    have e0 := ev_sound hs h1 hn
    have e1 := e0
    simp only [VR] at e1
    obtain ⟨_, b, _, e1⟩ := e1
    rw [e1] at e0
    exact .same hs (by simp [execOp, ho, e1]) e0
  · rename_i c x' off h1
    obtain ⟨rfl, rfl, rfl⟩ := val_inj h
    have e0 := ev_sound hs h1 hn
    have e1 := e0
    simp only [VR, FR] at e1
    obtain ⟨b, oo, cs, T', fz, z, e1, _⟩ := e1
    rw [e1] at e0
    exact .same hs (by simp [execOp, ho, e1]) e0
  · rename_i c f p q h1
    obtain ⟨rfl, rfl, rfl⟩ := val_inj h
    have e0 := ev_sound hs h1 hn
    have e1 := e0
    simp only [VR] at e1
    obtain ⟨fs, cs, e1, _⟩ := e1
    rw [e1] at e0
    exact .same hs (by simp [execOp, ho, e1]) e0
  · rename_i c f p q h1
    obtain ⟨rfl, rfl, rfl⟩ := val_inj h
    have e0 := ev_sound hs h1 hn
    have e1 := e0
    simp only [VR, FR] at e1
    obtain ⟨fs, cs, e1, _⟩ := e1
    rw [e1] at e0
    exact .same hs (by simp [execOp, ho, e1]) e0

theorem rdSl_sound (hs : Sim E N σ ι S a w) {sz : Nat} {x : AV} {xs : List FV} {n : Prop} {y : Value} (h : rdSl σ sz x = some (n, xs)) (hn : n) (hv : VR S ι σ.n w x y) :
    (∃ p c, y = .slice p 0 c ∧ xs = []) ∨ (∃ b o c cs T fz, y = .slice (some ⟨b, o, none⟩) xs.length c ∧ w.heap[b]? = some (.cells cs T fz) ∧ FRrow S w sz xs (cs.toList.drop o)) := by
  unfold rdSl at h
  split at h
  · rename_i sz' ys
    simp only [Option.some.injEq, Prod.mk.injEq] at h; obtain ⟨rfl, rfl⟩ := h
    subst hn
    simp only [VR, FR] at hv
    rcases hv with ⟨rfl, p, c, e⟩ | ⟨b, o, c, cs, T, fz, e, _, hh, hr, _⟩
    · exact .inl ⟨p, c, e, rfl⟩
    · exact .inr ⟨b, o, c, cs, T, fz, e, hh, hr⟩
  · simp only [Option.some.injEq, Prod.mk.injEq] at h; obtain ⟨_, rfl⟩ := h
    exact .inl ⟨none, 0, vr_v hv, rfl⟩
  · rename_i id sz' off len
    split at h
    · rename_i T sz'' ys hl
      simp only [Option.some.injEq, Prod.mk.injEq] at h; obtain ⟨rfl, rfl⟩ := h
      obtain ⟨rfl, rfl, hle⟩ := hn
      simp only [VR] at hv
      obtain ⟨hid, ho⟩ := hs.mem.obj id _ hl
      obtain ⟨_, ⟨hb, _, rfl, _, e⟩ | ⟨b, o, hb, hcap, hoo, _, e⟩⟩ := hv
      · exact .inl ⟨none, 0, e, by simp⟩
      · rcases ho with ⟨hb', _⟩ | ⟨b', vs, hb', hh, hlc, hcm, hvs, hr⟩
        · rw [hb] at hb'; cases hb'
        · rw [hb] at hb'; simp only [Option.some.injEq] at hb'; subst hb'
          by_cases h0 : len = 0
          · subst h0; exact .inl ⟨_, _, e, by simp⟩
          · have hlen : ((ys.drop off).take len).length = len := by simp; omega
            have := hoo (by omega); subst this
            exact .inr ⟨b, off * sz'', _, vs, T, _, by rw [hlen]; exact e, hh, (hr.drop off).take len⟩
    · cases h
  · cases h

/-- a slice's cells, loaded -/
theorem row_cells {sz : Nat} : ∀ {xs : List FV} {ys : List Value}, FRrow S w sz xs ys → (∀ x ∈ xs, FV.isByte x) → sz = 1 → ∃ ns : List Int, ys.take xs.length = ns.map (Value.int .u8) ∧ xs = ns.map (fun m => FV.v (.int .u8 m))
  | [], _, _, _, _ => ⟨[], by simp⟩
  | x :: xs, ys, h, hb, e => by
    subst e
    simp only [FRrow] at h
    obtain ⟨⟨y, h1, h2, h3, _⟩, h4⟩ := h
    obtain ⟨ns, e1, e2⟩ := row_cells h4 (fun x hx => hb x (by simp [hx])) rfl
    have hx := hb x (by simp)
    cases x with
    | v q =>
      cases q with
      | int k m =>
        cases k <;> simp only [FV.isByte] at hx
        simp only [FR] at h1
        obtain ⟨rfl, _⟩ := h1
        simp only [Value.cells] at h2
        refine ⟨m :: ns, ?_, by simp [e2]⟩
        cases ys with
        | nil => simp at h2
        | cons y ys => simp at h2 e1 ⊢; exact ⟨h2.symm, e1⟩
      | _ => simp [FV.isByte] at hx
    | _ => simp [FV.isByte] at hx

theorem push_fold : ∀ (ns : List Int) (s : ByteArray), ns.foldl (fun r n => r.push (UInt8.ofNat n.toNat)) s = ⟨⟨bl s ++ ns.map (fun n => UInt8.ofNat n.toNat)⟩⟩
  | [], s => by simp [bl]
  | n :: ns, s => by
    rw [List.foldl_cons, push_fold ns]
    simp [bl]

theorem elem_u8 {e : TypeId} {q1 q2 : Nat} {q3 : Bool} {q4 : FV} (hk : tk P e = some ⟨q1, q2, q3, q4, .int .u8⟩) : P.underlying e = some (.int .u8) ∧ (q1 = 1) := by
  obtain ⟨i, d, z, hi, hu, hz, hsz, _, _, hd, _, _, h⟩ := tk_spec hk
  have := tdOf_int hd.symm; subst this
  refine ⟨hu, ?_⟩
  rcases h with h | h
  · simp [isAggD] at h
  · simp only at hsz; rw [hsz]; exact h.2.2.2

def vu8 (b : UInt8) : Value := .int .u8 b.toNat
theorem FRrow_u8 (S : Nat → Prop) (w : World) : ∀ (l : List UInt8) (r : List Value), FRrow S w 1 (l.map u8) (l.map vu8 ++ r)
  | [], _ => by simp [FRrow]
  | b :: l, r => by
    simp only [List.map_cons, FRrow, List.cons_append]
    refine ⟨⟨vu8 b, by simp [u8, vu8, FR, Value.oneCell'], by simp [vu8, Value.cells], rfl, by simp [vu8, Value.cells, Value.oneCell']⟩, ?_⟩
    simpa using FRrow_u8 S w l r

theorem run_stringToBytes (e : TypeId) (s : ByteArray) : ∃ cap w', (Conv.stringToBytes e s).run P w = .ok (.slice (some ⟨w.heap.size, 0, none⟩) s.size cap) w' ∧ Quiet w w' ∧ w.heap.size < w'.heap.size ∧ s.size ≤ cap ∧
    ∃ r fz, w'.heap[w.heap.size]? = some (.cells (((bl s).map vu8) ++ r).toArray e fz) := by
  have hcells : ∀ k : Nat, (s.data.map fun b => Value.int .u8 b.toNat) ++ Array.replicate k (Value.int .u8 0) = (((bl s).map vu8) ++ List.replicate k (Value.int .u8 0)).toArray := by
    intro k
    apply Array.ext'
    simp [bl, vu8]
  let cap := (Question.appendCap s.size 0 e).cut (w.tape w.drawn (.appendCap s.size 0 e))
  let cells : Array Value := (((bl s).map vu8) ++ List.replicate (cap - s.size) (Value.int .u8 0)).toArray
  have hsh : (w.drew.alloc (.cells cells e)).shape? w.heap.size = some (e, cells.size) := by
    simp only [World.shape?, show (w.drew.alloc (Obj.cells cells e)).heap[w.heap.size]? = some (.cells cells e) from heap_alloc_new w.drew _]
  refine ⟨cap, (w.drew.alloc (.cells cells e)).freeze ⟨w.heap.size, cells.size, none⟩ 1, ?_, ?_, ?_, by simp [cap, Question.cut], List.replicate (cap - s.size) (Value.int .u8 0), (cells.size, cells.size + 1), ?_⟩
  · simp only [Conv.stringToBytes, Sem.run_bind, run_choose, Question.forced, Bool.false_eq_true, if_false, Result.andThen_ok, newRow, run_newObj, Sem.run_pure, markStringish, run_shape, hcells, World.drew_eq, World.alloc_eq]
    have : ({ w with drawn := w.drawn + 1 } : World) = w.drew := rfl
    simp only [show w.drew.heap.size = w.heap.size from rfl]
    rw [show (w.drew.alloc (Obj.cells (((bl s).map vu8) ++ List.replicate ((Question.appendCap s.size 0 e).cut (w.tape w.drawn (.appendCap s.size 0 e)) - s.size) (Value.int .u8 0)).toArray e)).shape? w.heap.size = some (e, cells.size) from hsh]
    rfl
  · refine (Quiet.drew w).trans ⟨fun b hb => ?_, ?_, rfl, rfl, rfl⟩
    · have hb' : b < w.heap.size := hb
      simp only [World.freeze, Nat.one_ne_zero, if_false, Array.getElem?_modify]
      rw [if_neg (by omega)]
      exact (Quiet.alloc w.drew (.cells cells e)).heap b hb
    · simp [World.freeze]
  · simp [World.freeze]
  · simp only [World.freeze, Nat.one_ne_zero, if_false, Array.getElem?_modify, if_true, show (w.drew.alloc (Obj.cells cells e)).heap[w.heap.size]? = some (.cells cells e) from heap_alloc_new w.drew _]
    simp [cells]

theorem s_conv (hs : Sim E N σ ι S a w) {o : Oper} {T U : TypeId} {x : Operand} (ho : o.op = .convert T U x) (h : aConv (tk P) σ (ev σ x) (tk P T) (tk P U) = .val need v σ') (hn : need) : Good P E N a w (execOp a.eval o) v σ' := by
  unfold aConv at h
  split at h
  · rename_i c kk n _ _ _ _ _ _ _ _ _ k h1 hT hU
    obtain ⟨rfl, rfl, rfl⟩ := val_inj h
    obtain ⟨d1, hu1, hd1⟩ := tk_desc hT
    obtain ⟨d2, hu2, hd2⟩ := tk_desc hU
    have := tdOf_int hd1; subst this
    have := tdOf_int hd2; subst this
    have e1 := vr_v (ev_sound hs h1 hn)
    exact .same hs (y := .int k (k.wrap n)) (by simp [execOp, ho, e1, convert, run_underlying hu1, run_underlying hu2, Conv.intToInt]) (mk_v rfl)
  · rename_i c s _ _ _ _ _ _ _ _ h1 hT hU
    obtain ⟨rfl, rfl, rfl⟩ := val_inj h
    obtain ⟨d1, hu1, hd1⟩ := tk_desc hT
    obtain ⟨d2, hu2, hd2⟩ := tk_desc hU
    have := tdOf_str hd1; subst this
    have := tdOf_str hd2; subst this
    have e1 := vr_v (ev_sound hs h1 hn)
    exact .same hs (y := .string s) (by simp [execOp, ho, e1, convert, run_underlying hu1, run_underlying hu2]) (mk_v rfl)
  · rename_i c s _ _ _ _ _ _ _ _ e h1 hT hU
    split at h
    · rename_i hke
      obtain ⟨rfl, rfl, rfl⟩ := val_inj h
      obtain ⟨hc, hlen⟩ := hn
      obtain ⟨d1, hu1, hd1⟩ := tk_desc hT
      obtain ⟨d2, hu2, hd2⟩ := tk_desc hU
      have := tdOf_str hd1; subst this
      have := tdOf_slice hd2; subst this
      obtain ⟨hue, _⟩ := elem_u8 hke
      have e1 := vr_v (ev_sound hs h1 hc)
      obtain ⟨cap, w', hr, hq, hsz, hcap, r, fz, hh⟩ := run_stringToBytes (P := P) (w := w) e s
      have hs' := hs.quiet hq
      refine ⟨.slice (some ⟨w.heap.size, 0, none⟩) s.size cap, w', ι, fun b => S b ∨ b = w.heap.size, .inl ?_, hs'.more (fun b hb => .inl hb) ?_, ?_⟩
      · simp [execOp, ho, e1, convert, run_underlying hu1, run_underlying hu2, run_underlying hue, hr]
      · rintro b (hb | rfl)
        · exact .inl hb
        · refine .inr ⟨hsz, .inr hs.mem.size, fun id oo hl e => absurd (hs.mem.own id oo _ hl e).1 (by omega)⟩
      · simp only [VR, FR]
        refine .inr ⟨w.heap.size, 0, cap, _, e, fz, by rw [List.length_map, size_bl], .inr rfl, hh, by simpa using FRrow_u8 _ _ (bl s) r, ?_⟩
        rw [List.length_map, ← size_bl]; exact hcap
    · cases h
  · rename_i c u _ _ _ _ e _ _ _ _ _ h1 hT hU
    split at h
    · rename_i _ _ _ _ _ n xs hke hrd
      obtain ⟨rfl, rfl, rfl⟩ := val_inj h
      obtain ⟨hc, hn, hby⟩ := hn
      obtain ⟨d1, hu1, hd1⟩ := tk_desc hT
      obtain ⟨d2, hu2, hd2⟩ := tk_desc hU
      have := tdOf_slice hd1; subst this
      have := tdOf_str hd2; subst this
      obtain ⟨hue, _⟩ := elem_u8 hke
      have e1 := ev_sound hs h1 hc
      refine .same hs (y := str (xs.map fvByte)) ?_ (mk_v rfl)
      obtain ⟨p, cp, ey, rfl⟩ | ⟨b, oo, cp, cs, T', fz, ey, hh, hr⟩ := rdSl_sound hs hrd hn e1
      · simp only [execOp, ho, ey, Sem.run_bind, run_convert_bytes_string w _ _ _ _ _ _ hu1 hue hu2]
        cases p with
        | none => simp [Conv.bytesToString]; rfl
        | some p => rw [run_bytesToString w p 0 cp [] (by simp [loadCells, loadCellsFrom])]; simp; rfl
      · cases xs with
        | nil =>
          simp only [execOp, ho, ey, Sem.run_bind, run_convert_bytes_string w _ _ _ _ _ _ hu1 hue hu2, List.length_nil]
          rw [run_bytesToString w _ 0 cp [] (by simp [loadCells, loadCellsFrom])]; simp; rfl
        | cons x xs =>
          obtain ⟨ns, en, ex⟩ := row_cells hr hby rfl
          have hload : (loadCells ⟨b, oo, none⟩ (x :: xs).length).run P w = .ok (ns.map (Value.int .u8)).toArray w := by
            have hl : (x :: xs).length = (ns.map (Value.int .u8)).length := by rw [ex]; simp
            rw [hl]
            refine run_loadCells_list (P := P) w _ _ fun j q hj => ?_
            rw [add_off]
            refine cell_of hh ?_
            rw [← en] at hj
            have := sub_get hj
            rwa [List.getElem?_drop] at this
          simp only [execOp, ho, ey, Sem.run_bind, run_convert_bytes_string w _ _ _ _ _ _ hu1 hue hu2]
          rw [run_bytesToString w _ _ cp ns hload, push_fold, ex]
          simp [bl, fvByte, Function.comp_def]
    · cases h
  · cases h
end
end Go.Fw

set_option linter.unusedVariables false
namespace Go.Fw
section
variable {P : Program} {E : Ent} {N : Nat} {σ σ' : St} {ι : Nat → Loc} {S : Nat → Prop} {a : Act} {w : World} {need : Prop} {v : AV}

theorem bnds_sound (hs : Sim E N σ ι S a w) {len cap : Nat} {lo hi : Option Operand} {n : Prop} {l h : Nat} (isSlice : Bool) (hb : bnds σ len lo hi = some (n, l, h)) (hn : n) (hc : len ≤ cap) :
    (Instr.sliceBounds isSlice len cap (lo.map a.eval) (hi.map a.eval) none).run P w = .ok (l, h, cap) w ∧ l ≤ h ∧ h ≤ len := by
  unfold bnds at hb
  split at hb
  · simp only [Option.some.injEq, Prod.mk.injEq] at hb
    obtain ⟨rfl, rfl, rfl⟩ := hb
    simp [Instr.sliceBounds]
  · rename_i lx
    split at hb
    · rename_i c kk m h1
      simp only [Option.some.injEq, Prod.mk.injEq] at hb
      obtain ⟨rfl, rfl, rfl⟩ := hb
      have e1 := vr_v (ev_sound hs h1 hn.1)
      refine ⟨?_, by omega, by omega⟩
      simp [Instr.sliceBounds, e1, run_sliceBound w kk m len _ hn.2.1 hn.2.2]
    · cases hb
  · rename_i hx
    split at hb
    · rename_i c kk m h1
      simp only [Option.some.injEq, Prod.mk.injEq] at hb
      obtain ⟨rfl, rfl, rfl⟩ := hb
      have e1 := vr_v (ev_sound hs h1 hn.1)
      refine ⟨?_, by omega, by omega⟩
      simp [Instr.sliceBounds, e1, run_sliceBound w kk m cap _ hn.2.1 (by omega)]
    · cases hb
  · rename_i lx hx
    split at hb
    · rename_i c kk m d kk' m' h1 h2
      simp only [Option.some.injEq, Prod.mk.injEq] at hb
      obtain ⟨rfl, rfl, rfl⟩ := hb
      have e1 := vr_v (ev_sound hs h1 hn.1)
      have e2 := vr_v (ev_sound hs h2 hn.2.1)
      refine ⟨?_, by omega, by omega⟩
      simp [Instr.sliceBounds, e1, e2, run_sliceBound w kk' m' cap _ (by omega) (by omega), run_sliceBound w kk m m'.toNat _ hn.2.2.1 (by omega)]
    · cases hb

theorem extract_bl (s : ByteArray) (l h : Nat) (hle : l ≤ h) : s.extract l h = ⟨⟨((bl s).take h).drop l⟩⟩ := by
  apply ByteArray.ext
  apply Array.ext'
  have := Lib.extract_data s l h
  rw [this, List.drop_take]
  rfl

theorem s_slice (hs : Sim E N σ ι S a w) {o : Oper} {T : TypeId} {x : Operand} {lo hi : Option Operand} (ho : o.op = .slice T x lo hi none) (h : aSlice (tk P) σ lo hi (ev σ x) (tk P T) = .val need v σ') (hn : need) : GoodS P σ ι S w (execOp a.eval o) v σ' := by
  unfold aSlice at h
  split at h
  · rename_i c s _ _ _ _ h1 hk
    obtain ⟨dd, hu, hd⟩ := tk_desc hk
    have := tdOf_str hd; subst this
    unfold slStr at h
    split at h
    · rename_i n l hh hb
      obtain ⟨rfl, rfl, rfl⟩ := val_inj h
      have e1 := vr_v (ev_sound hs h1 hn.1)
      obtain ⟨hr, hlh, _⟩ := bnds_sound (P := P) (cap := (bl s).length) hs false hb hn.2 (Nat.le_refl _)
      refine .same hs (y := str (((bl s).take hh).drop l)) ?_ (mk_v rfl)
      rw [← size_bl] at hr
      simp only [execOp, ho, e1, Instr.sliceAt, Sem.run_bind, run_underlying hu, Result.andThen_ok, Instr.slice, Option.map_none, Option.isSome_none, Bool.false_eq_true, if_false, hr, Sem.run_pure, extract_bl s l hh hlh]
    · cases h
  · rename_i c sz xs _ _ _ _ e h1 hk
    obtain ⟨dd, hu, hd⟩ := tk_desc hk
    have := tdOf_slice hd; subst this
    unfold slF at h
    split at h
    · rename_i n l hh k hb hke
      obtain ⟨rfl, rfl, rfl⟩ := val_inj h
      obtain ⟨hc, hnb, hsz⟩ := hn
      have e1 := ev_sound hs h1 hc
      simp only [VR, FR] at e1
      have hrun : ∀ {p : Option Addr} {cap : Nat}, xs.length ≤ cap → a.eval x = .slice p xs.length cap → (execOp a.eval o).run P w = .ok (.value (.slice (if cap = l then p else p.map (·.add (l * sz))) (hh - l) (cap - l))) w := by
        intro p cap hcap ex
        obtain ⟨hr, hlh, _⟩ := bnds_sound (P := P) (cap := cap) hs true hb hnb hcap
        simp only [execOp, ho, ex, Instr.sliceAt, Sem.run_bind, run_underlying hu, Result.andThen_ok, Instr.slice, Option.map_none, hr, tk_sz hke, hsz, Sem.run_pure]
      rcases e1 with ⟨rfl, p, cap, ex⟩ | ⟨b, oo, cap, cs, T', fz, ex, hb', hh', hr, hle⟩
      · refine .same hs (hrun (by simp) ex) ?_
        obtain ⟨_, hlh, hhl⟩ := bnds_sound (P := P) (cap := 0) hs true hb hnb (by simp)
        simp only [List.length_nil, Nat.le_zero] at hhl
        subst hhl
        have : l = 0 := by omega
        subst this
        simp only [VR, FR]
        exact .inl ⟨by simp, _, _, rfl⟩
      · refine .same hs (hrun hle ex) ?_
        obtain ⟨_, hlh, hhl⟩ := bnds_sound (P := P) (cap := cap) hs true hb hnb hle
        simp only [VR, FR]
        by_cases he : ((xs.take hh).drop l) = []
        · have := congrArg List.length he
          simp at this
          exact .inl ⟨he, (if cap = l then some ⟨b, oo, none⟩ else Option.map (fun x : Addr => x.add (l * sz)) (some ⟨b, oo, none⟩)), cap - l, by rw [show hh - l = 0 by omega]⟩
        · right
          have hlen : ((xs.take hh).drop l).length = hh - l := by simp; omega
          have hne : l < hh := by
            rcases Nat.lt_or_ge l hh with h | h
            · exact h
            · exact absurd (List.eq_nil_of_length_eq_zero (by rw [hlen]; omega)) he
          refine ⟨b, oo + l * sz, cap - l, cs, T', fz, ?_, hb', hh', ?_, by rw [hlen]; omega⟩
          · rw [if_neg (by omega), hlen]; simp [add_off]
          · have := (hr.take hh).drop l
            rwa [List.drop_drop] at this
    · cases h
  · rename_i c id sz off len _ _ _ _ e h1 hk
    obtain ⟨dd, hu, hd⟩ := tk_desc hk
    have := tdOf_slice hd; subst this
    unfold slO at h
    split at h
    · rename_i n l hh k hb hke
      obtain ⟨rfl, rfl, rfl⟩ := val_inj h
      obtain ⟨hc, hnb, hsz⟩ := hn
      have e1 := ev_sound hs h1 hc
      simp only [VR] at e1
      obtain ⟨hid, ⟨hbn, rfl, rfl, hcap, ex⟩ | ⟨b, oo, hbn, hcap, hoo, hoz, ex⟩⟩ := e1
      · obtain ⟨hr, hlh, hhl⟩ := bnds_sound (P := P) (cap := 0) hs true hb hnb (by simp)
        have h0 : hh = 0 := by omega
        subst h0
        have : l = 0 := by omega
        subst this
        refine .same hs (y := .slice none 0 0) ?_ (by simp [VR, hid, hbn, hcap])
        simp [execOp, ho, ex, Instr.sliceAt, run_underlying hu, Instr.slice, hr, tk_sz hke, hsz]
      · obtain ⟨hr, hlh, hhl⟩ := bnds_sound (P := P) (cap := (ι id).cap - off) hs true hb hnb (by omega)
        refine .same hs (y := .slice (if (ι id).cap - off = l then some ⟨b, oo, none⟩ else (some (⟨b, oo, none⟩ : Addr)).map (·.add (l * sz))) (hh - l) ((ι id).cap - off - l)) ?_ ?_
        · simp only [execOp, ho, ex, Instr.sliceAt, Sem.run_bind, run_underlying hu, Result.andThen_ok, Instr.slice, Option.map_none, hr, tk_sz hke, hsz, Sem.run_pure]
        · simp only [VR]
          refine ⟨hid, .inr ?_⟩
          by_cases heq : (ι id).cap - off = l
          · rw [if_pos heq]
            refine ⟨b, oo, hbn, by omega, by omega, fun h0 => hoz (by omega), by rw [show (ι id).cap - off - l = (ι id).cap - (off + l) by omega]⟩
          · rw [if_neg heq]
            have hoo := hoo (by omega)
            refine ⟨b, oo + l * sz, hbn, by omega, fun _ => by rw [hoo, Nat.add_mul], fun h0 => ?_, by simp [add_off, Nat.sub_sub]⟩
            have h1 : off = 0 := by omega
            have h2 : l = 0 := by omega
            rw [hoo, h1, h2]; simp
    · cases h
  · cases h

/- writing a stretch of a list -/
theorem writeAt_len {α : Type} : ∀ (vs cs : List α) (off : Nat), (writeAt cs off vs).length = cs.length
  | [], cs, off => rfl
  | v :: vs, cs, off => by rw [writeAt, writeAt_len vs]; simp
theorem writeAt_map {α β : Type} (f : α → β) : ∀ (vs cs : List α) (off : Nat), (writeAt cs off vs).map f = writeAt (cs.map f) off (vs.map f)
  | [], cs, off => rfl
  | v :: vs, cs, off => by rw [writeAt, writeAt_map f vs, List.map_set]; rfl
theorem writeAt_eq {α : Type} : ∀ (vs cs : List α) (off : Nat), off + vs.length ≤ cs.length → writeAt cs off vs = cs.take off ++ vs ++ cs.drop (off + vs.length)
  | [], cs, off, _ => by simp [writeAt]
  | v :: vs, cs, off, h => by
    simp only [List.length_cons] at h
    rw [writeAt, writeAt_eq vs _ _ (by simp; omega)]
    rw [List.take_set, List.drop_set_of_lt (by omega), List.take_add_one, List.getElem?_eq_getElem (by omega)]
    rw [List.set_append_right _ _ (by simp; omega)]
    simp [Nat.min_eq_left (show off ≤ cs.length by omega), show off + 1 + vs.length = off + (vs.length + 1) by omega]
theorem VRs.set {n : Nat} : ∀ {xs : List AV} {ys : List Value} {i : Nat} {x : AV} {y : Value}, VRs S ι n w xs ys → VR S ι n w x y → VRs S ι n w (xs.set i x) (ys.set i y)
  | [], _, i, x, y, h, _ => by simp only [VRs] at h; subst h; simp [VRs]
  | x0 :: xs, _, 0, x, y, h, hx => by
    simp only [VRs] at h
    obtain ⟨y0, ys', rfl, h1, h2⟩ := h
    simp only [List.set_cons_zero, VRs]
    exact ⟨y, ys', rfl, hx, h2⟩
  | x0 :: xs, _, i + 1, x, y, h, hx => by
    simp only [VRs] at h
    obtain ⟨y0, ys', rfl, h1, h2⟩ := h
    simp only [List.set_cons_succ, VRs]
    exact ⟨y0, _, rfl, h1, h2.set hx⟩
theorem VRs.writeAt {n : Nat} : ∀ {vs xs : List AV} {us ys : List Value} {off : Nat}, VRs S ι n w xs ys → VRs S ι n w vs us → VRs S ι n w (writeAt xs off vs) (writeAt ys off us)
  | [], _, _, _, _, h, h' => by simp only [VRs] at h'; subst h'; exact h
  | v :: vs, _, _, _, off, h, h' => by
    simp only [VRs] at h'
    obtain ⟨u, us, rfl, h1, h2⟩ := h'
    rw [Go.Fw.writeAt, Go.Fw.writeAt]
    exact VRs.writeAt (h.set h1) h2
theorem FRs.writeAt {vs xs : List FV} {us ys : List Value} {off : Nat} (h : FRs S w xs ys) (h' : FRs S w vs us) : FRs S w (writeAt xs off vs) (writeAt ys off us) := by
  have := VRs.writeAt (ι := fun _ => ⟨none, 0⟩) (n := 0) (off := off) (VRs_map_f.2 h) (VRs_map_f.2 h')
  rw [← writeAt_map] at this
  exact VRs_map_f.1 this
theorem mem_writeAt {α : Type} : ∀ {vs cs : List α} {off : Nat} {z : α}, z ∈ writeAt cs off vs → z ∈ cs ∨ z ∈ vs
  | [], cs, off, z, h => .inl h
  | v :: vs, cs, off, z, h => by
    rw [writeAt] at h
    rcases mem_writeAt h with h | h
    · rcases List.mem_or_eq_of_mem_set h with h | h
      · exact .inl h
      · exact .inr (by simp [h])
    · exact .inr (by simp [h])

/-- the model's filling of a row of cells -/
theorem fold_write (off : Nat) : ∀ (l : List Value) (j : Nat) (cells : Array Value),
    ((l.zipIdx j).foldl (fun cs p => cs.setIfInBounds (off + p.2) p.1) cells).toList = writeAt cells.toList (off + j) l
  | [], j, cells => by simp [writeAt]
  | v :: l, j, cells => by
    rw [List.zipIdx_cons, List.foldl_cons, fold_write off l (j + 1), writeAt]
    simp [Nat.add_assoc]
theorem fold_write' (off : Nat) (v cells : Array Value) : v.zipIdx.foldl (fun cs (c, j) => cs.setIfInBounds (off + j) c) cells = (writeAt cells.toList off v.toList).toArray := by
  apply Array.ext'
  have h := fold_write off v.toList 0 cells
  rw [← Array.foldl_toList]
  simpa using h

theorem cells_VR {x : AV} {y : Value} {n : Nat} (h : VR S ι n w x y) (h1 : x.cells.all AV.one = true) : VRs S ι n w x.cells y.cells.toList ∧ ∀ z ∈ y.cells.toList, z.oneCell' = true := by
  have one : x.cells = [x] → x.one = true → VRs S ι n w x.cells y.cells.toList ∧ ∀ z ∈ y.cells.toList, z.oneCell' = true := by
    intro hc h1
    have hy : y.cells = #[y] ∧ y.oneCell' = true := by
      cases x with
      | f x =>
        simp only [VR] at h
        rcases FR.one_or h with ⟨xs, ys, rfl, _⟩ | ⟨xs, ys, rfl, _⟩ | ⟨_, h2, h3⟩
        · simp [AV.one] at h1
        · simp [AV.one] at h1
        · exact ⟨h2, h3⟩
      | agg _ => simp [AV.one] at h1
      | tup _ => simp [AV.one] at h1
      | g _ => simp [AV.one] at h1
      | ptr _ _ => simp only [VR] at h; obtain ⟨_, b, _, rfl⟩ := h; exact ⟨rfl, rfl⟩
      | rp _ _ _ _ => simp only [VR] at h; obtain ⟨_, b, _, rfl⟩ := h; exact ⟨rfl, rfl⟩
      | sl _ _ _ _ => simp only [VR] at h; obtain ⟨_, ⟨_, _, _, _, rfl⟩ | ⟨b, oo, _, _, _, _, rfl⟩⟩ := h <;> exact ⟨rfl, rfl⟩
      | mp _ => simp only [VR] at h; obtain ⟨_, b, _, rfl⟩ := h; exact ⟨rfl, rfl⟩
      | it _ => simp only [VR] at h; obtain ⟨_, b, _, rfl⟩ := h; exact ⟨rfl, rfl⟩
      | clo _ _ _ => simp only [VR] at h; obtain ⟨fs, cs, rfl, _⟩ := h; exact ⟨rfl, rfl⟩
    rw [hc, hy.1]
    refine ⟨by simp only [VRs]; exact ⟨y, [], rfl, h, rfl⟩, by simpa using hy.2⟩
  cases x with
  | agg xs =>
    simp only [VR] at h
    obtain ⟨ys, rfl, h2, h3⟩ := h
    exact ⟨h2, h3⟩
  | f x =>
    cases x with
    | agg xs =>
      simp only [VR, FR] at h
      obtain ⟨ys, rfl, h2, h3⟩ := h
      exact ⟨VRs_map_f.2 h2, h3⟩
    | _ => exact one rfl (by simpa [AV.cells] using h1)
  | _ => exact one rfl (by simpa [AV.cells] using h1)
end
end Go.Fw

set_option linter.unusedVariables false
namespace Go.Fw
section
variable {P : Program} {E : Ent} {N : Nat} {σ σ' : St} {ι : Nat → Loc} {S : Nat → Prop} {a : Act} {w : World} {need : Prop} {v : AV}

theorem VRs.cells_size {n : Nat} {x : AV} {y : Value} (h : VR S ι n w x y) (h1 : x.cells.all AV.one = true) : y.cells.size = x.cells.length := by
  have := (cells_VR h h1).1.length
  simpa using this

theorem fill_sound (hs : Sim E N σ ι S a w) {fs : List (Nat × TypeId)} {place : Nat → Option (Nat × Nat)} (hp : ∀ i o e k, fs[i]? = some (o, e) → tk P e = some k → place i = some (o, k.sz)) :
    ∀ (ps : List (Nat × Operand)) {need0 need : Prop} {cs cs' : List AV} {vs : Array Value}, bldParts (tk P) σ fs ps need0 cs = some (need, cs') → need → VRs S ι σ.n w cs vs.toList → (∀ z ∈ vs.toList, z.oneCell' = true) →
      need0 ∧ ∃ vs', Instr.fill place vs (ps.map fun p => (p.1, a.eval p.2)) = some vs' ∧ VRs S ι σ.n w cs' vs'.toList ∧ (∀ z ∈ vs'.toList, z.oneCell' = true)
  | [], need0, need, cs, cs', vs, h, hn, hv, h1 => by
    simp only [bldParts, Option.some.injEq, Prod.mk.injEq] at h
    obtain ⟨rfl, rfl⟩ := h
    exact ⟨hn, vs, rfl, hv, h1⟩
  | (i, x) :: ps, need0, need, cs, cs', vs, h, hn, hv, h1 => by
    simp only [bldParts] at h
    split at h
    · rename_i c u o e hx hf
      split at h
      · rename_i ke hke
        have hvu : ∀ hc : c = true, VR S ι σ.n w u (a.eval x) := fun hc => ev_sound hs hx hc
        have step : ∀ hc : (need0 ∧ c = true ∧ u.cells.length = ke.sz ∧ o + ke.sz ≤ cs.length ∧ u.cells.all AV.one = true),
            VRs S ι σ.n w (writeAt cs o u.cells) (writeAt vs.toList o (a.eval x).cells.toList) ∧ ∀ z ∈ writeAt vs.toList o (a.eval x).cells.toList, z.oneCell' = true := by
          intro hc
          obtain ⟨e1, e2⟩ := cells_VR (hvu hc.2.1) hc.2.2.2.2
          exact ⟨hv.writeAt e1, fun z hz => (mem_writeAt hz).elim (h1 z) (e2 z)⟩
        have mono : need → need0 ∧ c = true ∧ u.cells.length = ke.sz ∧ o + ke.sz ≤ cs.length ∧ u.cells.all AV.one = true := by
          intro hn
          have : ∀ (ps : List (Nat × Operand)) {n0 n : Prop} {cs cs' : List AV}, bldParts (tk P) σ fs ps n0 cs = some (n, cs') → n → n0 := by
            intro ps
            induction ps with
            | nil => intro n0 n cs cs' h hn; simp only [bldParts, Option.some.injEq, Prod.mk.injEq] at h; obtain ⟨rfl, rfl⟩ := h; exact hn
            | cons p ps ih =>
              intro n0 n cs cs' h hn
              simp only [bldParts] at h
              split at h
              · split at h
                · exact (ih h hn).1
                · cases h
              · cases h
          exact this ps h hn
        have hc := mono hn
        obtain ⟨e1, e2⟩ := step hc
        have hsz : (a.eval x).cells.size = ke.sz := by rw [VRs.cells_size (hvu hc.2.1) hc.2.2.2.2]; exact hc.2.2.1
        have hlen := hv.length
        obtain ⟨h3, vs', h4, h5⟩ := fill_sound hs hp ps (vs := (writeAt vs.toList o (a.eval x).cells.toList).toArray) h hn e1 e2
        refine ⟨hc.1, vs', ?_, h5⟩
        simp only [List.map_cons, Instr.fill, hp i o e ke hf hke]
        have hle : ¬ (o + (a.eval x).cells.size > vs.size) := by rw [hsz]; simp only [Array.length_toList] at hlen; omega
        rw [if_neg (by simp [hsz] at hle ⊢; omega), fold_write']
        exact h4
      · cases h
    · cases h

theorem zero_cells {t : TypeId} {k : TK} (hk : tk P t = some k) : ∃ i z, P.info? t = some i ∧ i.zero = some z ∧ k.zero = zFV z ∧ FR S w k.zero z ∧ (∀ c ∈ z.cells.toList, c.oneCell' = true) ∧ z.cells.size = k.sz ∧ k.sz = i.size ∧ k.bytes = i.bytes := by
  obtain ⟨i, d, z, hi, hu, hz, hsz, hby, hzz, hd, hzs, hone, _⟩ := tk_spec hk
  exact ⟨i, z, hi, hz, hzz, by rw [hzz]; exact zFV_sound S w z hone, hone, by rw [hzs, hsz], hsz, hby⟩
theorem zero_VRs {n : Nat} {t : TypeId} {k : TK} (hk : tk P t = some k) {z : Value} (hf : FR S w k.zero z) (hone : ∀ c ∈ z.cells.toList, c.oneCell' = true) : VRs S ι n w (AV.f k.zero).cells z.cells.toList := by
  have h := hf.cells
  have hz : (AV.f k.zero).cells = k.zero.cells.map .f := by
    cases hk' : k.zero <;> simp [AV.cells, FV.cells]
  rw [hz]
  exact VRs_map_f.2 h

theorem s_build (hs : Sim E N σ ι S a w) {o : Oper} {T : TypeId} {ps : Array (Nat × Operand)} (ho : o.op = .build T ps) (h : aBuild (tk P) σ ps.toList (tk P T) = .val need v σ') (hn : need) : GoodS P σ ι S w (execOp a.eval o) v σ' := by
  have hparts : (ps.map fun (p : Nat × Operand) => (p.1, a.eval p.2)).toList = ps.toList.map fun p => (p.1, a.eval p.2) := by simp
  unfold aBuild at h
  split at h
  · rename_i sz by' ag zz fs hk
    obtain ⟨d, hu, hd⟩ := tk_desc hk
    obtain ⟨arr, rfl, rfl, hall⟩ := tdOf_struct hd
    obtain ⟨i, z, hi, hz, hzz, hf, hone, _⟩ := zero_cells (S := S) (w := w) hk
    unfold aggRes at h
    split at h
    · rename_i nd cs hb
      obtain ⟨rfl, rfl, rfl⟩ := val_inj h
      have hplaces : (arr.mapM fun f => (do pure (f.offset, ← sizeOf f.type) : Sem (Nat × Nat))).run P w = .ok (arr.map fun f => (f.offset, ((P.info? f.type).map (·.size)).getD 0)) w := by
        rw [Array.mapM_eq_mapM_toList]
        simp only [Sem.run_map]
        have : ∀ l : List Field, (∀ f ∈ l, ∃ i, P.info? f.type = some i ∧ i.size ≠ 0) → (l.mapM fun f => (do pure (f.offset, ← sizeOf f.type) : Sem (Nat × Nat))).run P w = .ok (l.map fun f => (f.offset, ((P.info? f.type).map (·.size)).getD 0)) w := by
          intro l
          induction l with
          | nil => intro _; simp
          | cons f l ih =>
            intro hl
            obtain ⟨i, hi, _⟩ := hl f (by simp)
            have := ih fun f hf => hl f (by simp [hf])
            simp only [List.mapM_cons, Sem.run_bind, sizeOf_run hi, Result.andThen_ok, Sem.run_pure, this, List.map_cons, hi, Option.map_some, Option.getD_some]
        rw [this _ hall]
        simp only [Result.andThen_ok]
        exact congrArg (fun r => Result.ok r w) (Array.ext' (by simp))
      obtain ⟨_, vs', h4, h5, h6⟩ := fill_sound hs (place := fun j => (arr.map fun f => (f.offset, ((P.info? f.type).map (·.size)).getD 0))[j]?) (fun j o' e k hf hk => by
        rw [List.getElem?_map] at hf
        cases hg : arr.toList[j]? with
        | none => rw [hg] at hf; cases hf
        | some f =>
          rw [hg] at hf
          simp only [Option.map_some, Option.some.injEq, Prod.mk.injEq] at hf
          obtain ⟨rfl, rfl⟩ := hf
          obtain ⟨i', _, _, hi', _, _, hsz', _⟩ := tk_spec hk
          have hg' : arr[j]? = some f := by simpa using hg
          simp [hg', hi', hsz']) ps.toList (vs := z.cells) hb hn (zero_VRs hk hf hone) hone
      refine .same hs (y := .agg vs') ?_ (by simp only [VR]; exact ⟨vs', rfl, h5, h6⟩)
      simp only [execOp, ho, Instr.build, Sem.run_bind, zeroValue, typeInfo, run_program, Result.andThen_ok, hi, Sem.run_pure, hz, run_underlying hu, hplaces, hparts, h4]
    · cases h
  · rename_i sz by' ag zz n e hk
    obtain ⟨d, hu, hd⟩ := tk_desc hk
    have := tdOf_array hd; subst this
    obtain ⟨i, z, hi, hz, hzz, hf, hone, _⟩ := zero_cells (S := S) (w := w) hk
    split at h
    · rename_i k hke
      unfold aggRes at h
      split at h
      · rename_i nd cs hb
        obtain ⟨rfl, rfl, rfl⟩ := val_inj h
        obtain ⟨_, vs', h4, h5, h6⟩ := fill_sound hs (place := fun j => some (j * k.sz, k.sz)) (fun j o' e' k' hf hk' => by
          simp only [arrFs, List.getElem?_map] at hf
          cases hg : (List.range n)[j]? with
          | none => rw [hg] at hf; cases hf
          | some q =>
            rw [hg] at hf
            simp only [Option.map_some, Option.some.injEq, Prod.mk.injEq] at hf
            obtain ⟨rfl, rfl⟩ := hf
            rw [hke] at hk'
            simp only [Option.some.injEq] at hk'; subst hk'
            have := List.getElem?_eq_some_iff.1 hg
            obtain ⟨_, hq⟩ := this
            simp at hq
            simp [hq]) ps.toList (vs := z.cells) hb hn (zero_VRs hk hf hone) hone
        refine .same hs (y := .agg vs') ?_ (by simp only [VR]; exact ⟨vs', rfl, h5, h6⟩)
        simp only [execOp, ho, Instr.build, Sem.run_bind, zeroValue, typeInfo, run_program, Result.andThen_ok, hi, Sem.run_pure, hz, run_underlying hu, tk_sz hke, hparts, h4]
      · cases h
    · cases h
  · cases h

theorem s_alloc (hs : Sim E N σ ι S a w) {o : Oper} {T : TypeId} (ho : o.op = .alloc T) (h : aAlloc σ T (tk P T) = .val need v σ') (hn : need) : Good P E N a w (execOp a.eval o) v σ' := by
  unfold aAlloc at h
  split at h
  · rename_i k hk
    unfold newCells at h
    obtain ⟨rfl, rfl, rfl⟩ := val_inj h
    obtain ⟨i, z, hi, hz, hzz, hf, hone, _⟩ := zero_cells (S := S) (w := w) hk
    refine ⟨.pointer (some ⟨w.heap.size, 0, none⟩), w.alloc (.cells z.cells T), _, S, .inl ?_, hs.alloc (cap := 0) ⟨w.heap.size, z.cells, rfl, heap_new _ _, ?_, hone⟩, ?_⟩
    · simp [execOp, ho, Instr.alloc, zeroValue, typeInfo, hi, hz, newVar, newRow]
    · exact VRs.mono (fun _ h => h) (fun b hb => (Quiet.alloc w _).heap b (hs.mem.slt b hb)) (Nat.le_succ _) (fun id hid => ext_old hid) (zero_VRs hk hf hone)
    · simp only [VR]; exact ⟨Nat.lt_succ_self _, w.heap.size, by rw [ext_new], rfl⟩
  · cases h
theorem s_box (hs : Sim E N σ ι S a w) {o : Oper} {T : TypeId} {x : Operand} (ho : o.op = .box T x) (h : aBox σ T (ev σ x) = .val need v σ') (hn : need) : Good P E N a w (execOp a.eval o) v σ' := by
  unfold aBox at h
  split at h
  · rename_i c u h1
    unfold newCells at h
    obtain ⟨rfl, rfl, rfl⟩ := val_inj h
    have e1 := ev_sound hs h1 hn.1
    obtain ⟨e2, e3⟩ := cells_VR e1 hn.2
    refine ⟨.pointer (some ⟨w.heap.size, 0, none⟩), w.alloc (.cells (a.eval x).cells T), _, S, .inl ?_, hs.alloc (cap := 0) ⟨w.heap.size, (a.eval x).cells, rfl, heap_new _ _, ?_, e3⟩, ?_⟩
    · simp [execOp, ho, Instr.box, newVar, newRow]
    · exact VRs.mono (fun _ h => h) (fun b hb => (Quiet.alloc w _).heap b (hs.mem.slt b hb)) (Nat.le_succ _) (fun id hid => ext_old hid) e2
    · simp only [VR]; exact ⟨Nat.lt_succ_self _, w.heap.size, by rw [ext_new], rfl⟩
  · cases h

/- freezing -/
mutual
theorem release_sound {E : Ent} {N : Nat} {ι : Nat → Loc} {a : Act} {w : World} : ∀ (v : AV) {σ σ' : St} {S : Nat → Prop} {c : Prop} {y : FV} {val : Value}, Sim E N σ ι S a w → release σ v = some (c, y, σ') → c → VR S ι σ.n w v val →
    ∃ S', (∀ b, S b → S' b) ∧ Sim E N σ' ι S' a w ∧ FR S' w y val ∧ σ'.t = σ.t ∧ σ'.n = σ.n
  | .f x, σ, σ', S, c, y, val, hs, h, hc, hv => by
    simp only [release, Option.some.injEq, Prod.mk.injEq] at h
    obtain ⟨rfl, rfl, rfl⟩ := h
    simp only [VR] at hv
    exact ⟨S, fun _ h => h, hs, hv, rfl, rfl⟩
  | .agg xs, σ, σ', S, c, y, val, hs, h, hc, hv => by
    simp only [release] at h
    split at h
    · rename_i c' ys σ1 hr
      simp only [Option.some.injEq, Prod.mk.injEq] at h
      obtain ⟨rfl, rfl, rfl⟩ := h
      simp only [VR] at hv
      obtain ⟨zs, rfl, hv, hone⟩ := hv
      obtain ⟨S', h1, h2, h3, h4, h5⟩ := rels_sound xs hs hr hc hv
      exact ⟨S', h1, h2, by simp only [FR]; exact ⟨zs, rfl, h3, hone⟩, h4, h5⟩
    · cases h
  | .sl id sz off len, σ, σ', S, c, y, val, hs, h, hc, hv => by
    simp only [release] at h
    split at h
    · rename_i T sz' xs hl
      simp only [Option.some.injEq, Prod.mk.injEq] at h
      obtain ⟨rfl, rfl, rfl⟩ := h
      obtain ⟨rfl, hle⟩ := hc
      simp only [VR] at hv
      obtain ⟨hid, ho⟩ := hs.mem.obj id _ hl
      obtain ⟨_, ⟨hb, _, rfl, _, e⟩ | ⟨b, o, hb, hcap, hoo, _, e⟩⟩ := hv
      · refine ⟨S, fun _ h => h, hs.del id, ?_, rfl, rfl⟩
        simp only [FR]
        exact .inl ⟨by simp, _, _, e⟩
      · rcases ho with ⟨hb', _⟩ | ⟨b', vs, hb', hh, hlc, hcm, hvs, hr⟩
        · rw [hb] at hb'; cases hb'
        · rw [hb] at hb'; simp only [Option.some.injEq] at hb'; subst hb'
          have hown := hs.mem.own id _ b hl hb
          refine ⟨fun b' => S b' ∨ b' = b, fun _ h => .inl h, (hs.del id).more (fun _ h => .inl h) ?_, ?_, rfl, rfl⟩
          · rintro b' (h | rfl)
            · exact .inl h
            · refine .inr ⟨hown.1, hown.2.2, fun id' o' hl' hb' => ?_⟩
              rw [lk_hdel] at hl'
              split at hl'
              · cases hl'
              · rename_i hne
                exact hne (hs.mem.inj id' id o' _ b' hl' hl hb' hb)
          · have hr' := ((hr.drop off).take len).mono (S' := fun b' => S b' ∨ b' = b) (w' := w) (fun _ h => .inl h) (fun _ _ => rfl)
            simp only [FR]
            by_cases h0 : len = 0
            · subst h0; exact .inl ⟨by simp, _, _, e⟩
            · have hlen : ((xs.drop off).take len).length = len := by simp; omega
              have := hoo (by omega); subst this
              exact .inr ⟨b, off * sz, _, vs, T, _, by rw [hlen]; exact e, .inr rfl, hh, hr', by rw [hlen]; omega⟩
    · cases h
  | .tup xs, σ, σ', S, c, y, val, hs, h, hc, hv => by
    simp only [release] at h
    split at h
    · rename_i c' ys σ1 hr
      simp only [Option.some.injEq, Prod.mk.injEq] at h
      obtain ⟨rfl, rfl, rfl⟩ := h
      simp only [VR] at hv
      obtain ⟨zs, rfl, hv⟩ := hv
      obtain ⟨S', h1, h2, h3, h4, h5⟩ := rels_sound xs hs hr hc hv
      exact ⟨S', h1, h2, by simp only [FR]; exact ⟨zs, rfl, h3⟩, h4, h5⟩
    · cases h
  | .ptr _ _, _, _, _, _, _, _, _, h, _, _ => by simp [release] at h
  | .rp _ _ _ _, _, _, _, _, _, _, _, h, _, _ => by simp [release] at h
  | .mp _, _, _, _, _, _, _, _, h, _, _ => by simp [release] at h
  | .it _, _, _, _, _, _, _, _, h, _, _ => by simp [release] at h
  | .clo f xs zs, σ, σ', S, c, y, val, hs, h, hc, hv => by
    simp only [release] at h
    split at h
    · rename_i c1 ys σ1 hr
      split at h
      · rename_i c2 ws σ2 hr2
        simp only [Option.some.injEq, Prod.mk.injEq] at h
        obtain ⟨rfl, rfl, rfl⟩ := h
        simp only [VR] at hv
        obtain ⟨fs, cs, rfl, hv1, hv2⟩ := hv
        obtain ⟨S1, m1, s1, r1, t1, n1⟩ := rels_sound xs hs hr hc.1 hv1
        obtain ⟨S2, m2, s2, r2, t2, n2⟩ := rels_sound zs s1 hr2 hc.2 (hv2.mono m1 (fun _ _ => rfl) (by rw [n1]; exact Nat.le_refl _) (fun _ _ => rfl))
        exact ⟨S2, fun b h => m2 b (m1 b h), s2, by simp only [FR]; exact ⟨fs, cs, rfl, r1.mono m2 (fun _ _ => rfl), r2⟩, t2.trans t1, n2.trans n1⟩
      · cases h
    · cases h
  | .g _, _, _, _, _, _, _, _, h, _, _ => by simp [release] at h
theorem rels_sound {E : Ent} {N : Nat} {ι : Nat → Loc} {a : Act} {w : World} : ∀ (vs : List AV) {σ σ' : St} {S : Nat → Prop} {c : Prop} {ys : List FV} {vals : List Value}, Sim E N σ ι S a w → release.rels σ vs = some (c, ys, σ') → c → VRs S ι σ.n w vs vals →
    ∃ S', (∀ b, S b → S' b) ∧ Sim E N σ' ι S' a w ∧ FRs S' w ys vals ∧ σ'.t = σ.t ∧ σ'.n = σ.n
  | [], σ, σ', S, c, ys, vals, hs, h, hc, hv => by
    simp only [release.rels, Option.some.injEq, Prod.mk.injEq] at h
    obtain ⟨rfl, rfl, rfl⟩ := h
    simp only [VRs] at hv
    exact ⟨S, fun _ h => h, hs, by simp only [FRs]; exact hv, rfl, rfl⟩
  | x :: xs, σ, σ', S, c, ys, vals, hs, h, hc, hv => by
    simp only [release.rels] at h
    split at h
    · rename_i c1 y1 σ1 h1
      split at h
      · rename_i c2 ys2 σ2 h2
        simp only [Option.some.injEq, Prod.mk.injEq] at h
        obtain ⟨rfl, rfl, rfl⟩ := h
        simp only [VRs] at hv
        obtain ⟨v1, vals', rfl, hv1, hv2⟩ := hv
        obtain ⟨S1, m1, s1, r1, t1, n1⟩ := release_sound x hs h1 hc.1 hv1
        obtain ⟨S2, m2, s2, r2, t2, n2⟩ := rels_sound xs s1 h2 hc.2 (hv2.mono m1 (fun _ _ => rfl) (by rw [n1]; exact Nat.le_refl _) (fun _ _ => rfl))
        refine ⟨S2, fun b h => m2 b (m1 b h), s2, ?_, t2.trans t1, n2.trans n1⟩
        simp only [FRs]
        exact ⟨v1, vals', rfl, r1.mono m2 (fun _ _ => rfl), r2⟩
      · cases h
    · cases h
end
end
end Go.Fw

set_option linter.unusedVariables false
namespace Go.Fw
section
variable {P : Program} {E : Ent} {N : Nat} {σ σ' : St} {ι : Nat → Loc} {S : Nat → Prop} {a : Act} {w : World} {need : Prop} {v : AV}

theorem setRow_only (w : World) (g : Nat) (cs : Array Value) : Only w (w.setRow g cs) g :=
  ⟨fun b hb => setRow_other w g b cs hb, by simp [World.setRow], rfl, rfl, rfl⟩

theorem storeVar_at {t : TypeId} {k : TK} (hk : tk P t = some k) {b o : Nat} {vs : Array Value} {T : TypeId} (hb : w.heap[b]? = some (.cells vs T (0, 0))) {val : Value} (hsz : val.cells.size = k.sz) (hle : o + k.sz ≤ vs.size) (hone : ∀ z ∈ val.cells.toList, z.oneCell' = true) :
    (storeVar t ⟨b, o, none⟩ val).run P w = .ok () (w.setRow b (writeAt vs.toList o val.cells.toList).toArray) := by
  have hr := run_storeCells_at P b o T val.cells.toList 0 vs w hb (by simp; omega) hone
  simp only [Nat.add_zero] at hr
  rw [← writeAt_eq _ _ _ (by simp; omega)] at hr
  simp [storeVar, tk_sz hk, hsz, hr]

theorem FRrow_set {sz : Nat} : ∀ {xs : List FV} {ys : List Value} {i : Nat} {x : FV} {y : Value}, FRrow S w sz xs ys → i < xs.length → xs.length * sz ≤ ys.length → FR S w x y → y.cells.size = sz → (∀ c ∈ y.cells.toList, c.oneCell' = true) →
    FRrow S w sz (xs.set i x) (ys.take (i * sz) ++ y.cells.toList ++ ys.drop (i * sz + sz))
  | [], _, _, _, _, _, h, _, _, _, _ => by simp at h
  | x0 :: xs, ys, 0, x, y, h, _, hl, h1, h2, h3 => by
    simp only [FRrow, List.set_cons_zero, Nat.zero_mul, List.take_zero, List.nil_append, Nat.zero_add] at h ⊢
    refine ⟨⟨y, h1, ?_, h2, h3⟩, ?_⟩
    · rw [List.take_append_of_le_length (by simp [h2]), List.take_of_length_le (by simp [h2])]
    · rw [List.drop_append_of_le_length (by simp [h2]), List.drop_of_length_le (by simp [h2])]
      exact h.2
  | x0 :: xs, ys, i + 1, x, y, h, hi, hl, h1, h2, h3 => by
    simp only [List.length_cons] at hi hl
    rw [Nat.add_mul, Nat.one_mul] at hl
    have hi' : i * sz + sz ≤ xs.length * sz := by
      have := Nat.mul_le_mul_right sz (show i + 1 ≤ xs.length by omega)
      rwa [Nat.add_mul, Nat.one_mul] at this
    simp only [FRrow, List.set_cons_succ] at h ⊢
    have ih := FRrow_set (i := i) h.2 (by omega) (by simp; omega) h1 h2 h3
    rw [Nat.add_mul, Nat.one_mul]
    have e1 : ys.take (i * sz + sz) = ys.take sz ++ (ys.drop sz).take (i * sz) := by rw [Nat.add_comm, List.take_add]
    have hlen : (ys.take sz).length = sz := by simp; omega
    refine ⟨?_, ?_⟩
    · obtain ⟨y0, g1, g2, g3⟩ := h.1
      refine ⟨y0, g1, ?_, g3⟩
      rw [g2, e1]
      simp only [List.append_assoc]
      rw [List.take_append_of_le_length (by omega), List.take_take, Nat.min_self]
    · rw [e1]
      simp only [List.append_assoc]
      rw [List.drop_append_of_le_length (by omega), show (ys.take sz).drop sz = [] from List.drop_of_length_le (by omega), List.nil_append]
      rw [List.drop_drop] at ih
      simp only [List.append_assoc] at ih
      rwa [show i * sz + sz + sz = sz + (i * sz + sz) by omega]

theorem writeAt_sub (ys vals : List Value) (p off sz : Nat) (h1 : off + vals.length ≤ sz) (h2 : p + sz ≤ ys.length) :
    writeAt ys (p + off) vals = ys.take p ++ writeAt ((ys.drop p).take sz) off vals ++ ys.drop (p + sz) := by
  rw [writeAt_eq _ _ _ (by omega), writeAt_eq _ _ _ (by simp; omega)]
  have e1 : ys.take (p + off) = ys.take p ++ (ys.drop p).take off := by rw [List.take_add]
  have e2 : ((ys.drop p).take sz).take off = (ys.drop p).take off := by rw [List.take_take, Nat.min_eq_left (by omega)]
  have e3 : ys.drop (p + off + vals.length) = ((ys.drop p).take sz).drop (off + vals.length) ++ ys.drop (p + sz) := by
    have : ys.drop (p + sz) = ((ys.drop p).drop (off + vals.length)).drop (sz - (off + vals.length)) := by
      rw [List.drop_drop, List.drop_drop]; congr 1; omega
    rw [this, List.drop_take, List.take_append_drop, List.drop_drop]; congr 1; omega
  rw [e1, e2, e3]
  simp [List.append_assoc]

theorem okE_cells {y : FV} {val : Value} (h : FR S w y val) (hk : y.okE = true) : ∀ z ∈ val.cells.toList, z.oneCell' = true := by
  rcases FR.one_or h with ⟨xs, ys, rfl, rfl, _, h1⟩ | ⟨xs, ys, rfl, _⟩ | ⟨_, h2, h3⟩
  · exact h1
  · simp [FV.okE] at hk
  · rw [h2]; simpa using h3

theorem s_store (hs : Sim E N σ ι S a w) {o : Oper} {T : TypeId} {x y : Operand} (ho : o.op = .store T x y) (h : aStore σ (ev σ x) (ev σ y) (tk P T) = .val need v σ') (hn : need) : Good P E N a w (execOp a.eval o) v σ' := by
  unfold aStore at h
  split at h
  · rename_i c id off d u k h1 h2 hk
    split at h
    · rename_i U cs hl
      obtain ⟨rfl, rfl, rfl⟩ := val_inj h
      obtain ⟨hc, hd, hsz, hle, hone⟩ := hn
      have e1 := ev_sound hs h1 hc
      have e2 := ev_sound hs h2 hd
      obtain ⟨e3, e4⟩ := cells_VR e2 hone
      simp only [VR] at e1
      obtain ⟨_, b', hb', e1⟩ := e1
      obtain ⟨hid, b, vs, hb, hh, hv, hvone⟩ := hs.mem.obj id _ hl
      rw [hb] at hb'; simp only [Option.some.injEq] at hb'; subst hb'
      have hvl := hv.length
      have hsz' : (a.eval y).cells.size = k.sz := by rw [VRs.cells_size e2 hone]; exact hsz
      have hr := storeVar_at hk hh (o := off) hsz' (by simp only [Array.length_toList] at hvl; omega) e4
      have hs' := hs.upd (o' := .cells U (writeAt cs off u.cells)) hl hb (setRow_only w b _) (w' := w.setRow b (writeAt vs.toList off (a.eval y).cells.toList).toArray) ?_
      · refine ⟨undef, _, ι, S, .inr ⟨?_, rfl⟩, hs', ?_⟩
        · simp [execOp, ho, e1, Instr.storeAt, Instr.sureAddr, hr]
        · simp only [VR, undef]; exact ⟨#[], rfl, by simp [VRs]⟩
      · refine ⟨b, _, hb, setRow_heap w b vs _ U (0, 0) hh, ?_, fun z hz => (mem_writeAt hz).elim (hvone z) (e4 z)⟩
        exact VRs.mono (fun _ h => h) (fun b' hb' => (setRow_only w b _).heap b' fun e => by subst e; exact (hs.mem.own id _ b' hl hb).2.1 hb') (Nat.le_refl _) (fun _ _ => rfl) (hv.writeAt e3)
    · cases h
  · rename_i c id sz i off d u k h1 h2 hk
    split at h
    · rename_i U sz' xs hl
      unfold aStoreRow at h
      split at h
      · rename_i n yv σ1 hrel
        obtain ⟨rfl, rfl, rfl⟩ := val_inj h
        obtain ⟨⟨hc, hd⟩, hn1, hl1, hi, hoff, rfl, hsz, hok, hk0⟩ := hn
        have e1 := ev_sound hs h1 hc
        have e2 := ev_sound hs h2 hd
        obtain ⟨S', hSS, hs1, hy, ht, hnn⟩ := release_sound u hs hrel hn1 e2
        simp only [VR] at e1
        obtain ⟨_, b', hb', e1⟩ := e1
        obtain ⟨hid, ⟨hb, _⟩ | ⟨b, vs, hb, hh, hlc, hcm, hvs, hr⟩⟩ := hs1.mem.obj id _ hl1
        · rw [hb] at hb'; cases hb'
        rw [hb] at hb'; simp only [Option.some.injEq] at hb'; subst hb'
        have hone := okE_cells hy hok
        have hycl := hy.cells.length
        have hsz' : (a.eval y).cells.size = k.sz := by simp only [Array.length_toList] at hycl; omega
        have hmul : (i + 1) * sz ≤ (ι id).cap * sz := Nat.mul_le_mul_right _ (by omega)
        rw [Nat.add_mul, Nat.one_mul] at hmul
        have hst := storeVar_at hk hh (o := i * sz + off) hsz' (by omega) hone
        obtain ⟨y0, g1, g2, g3, g4⟩ := hr.get (getD_of_lt hi k.zero)
        have hwr : writeAt vs.toList (i * sz + off) (a.eval y).cells.toList = vs.toList.take (i * sz) ++ writeAt y0.cells.toList off (a.eval y).cells.toList ++ vs.toList.drop (i * sz + sz) := by
          rw [writeAt_sub _ _ _ _ sz (by simp; omega) (by simp; omega), g2]
        -- the new element
        have hnew : ∃ y1, FR S' w (bif sz == 1 then yv else .agg (writeAt (xs.getD i k.zero).cells off yv.cells)) y1 ∧ y1.cells.toList = writeAt y0.cells.toList off (a.eval y).cells.toList ∧ y1.cells.size = sz ∧ ∀ z ∈ y1.cells.toList, z.oneCell' = true := by
          by_cases h1 : sz = 1
          · subst h1
            have : off = 0 := by omega
            subst this
            refine ⟨a.eval y, by simpa using hy, ?_, by omega, hone⟩
            have hl0 : y0.cells.toList.length = 1 := by simpa using g3
            have hl1 : (a.eval y).cells.toList.length = 1 := by simp; omega
            rw [writeAt_eq _ _ _ (by omega), hl1, List.drop_of_length_le (by omega)]
            simp
          · refine ⟨.agg (writeAt y0.cells.toList off (a.eval y).cells.toList).toArray, ?_, rfl, by show ((writeAt y0.cells.toList off (a.eval y).cells.toList).toArray).size = sz; rw [List.size_toArray, writeAt_len, Array.length_toList, g3], fun z hz => ?_⟩
            · rw [show (sz == 1) = false by simpa using h1]
              simp only [cond_false, FR]
              exact ⟨_, rfl, g1.cells.writeAt hy.cells, fun z hz => (mem_writeAt hz).elim (g4 z) (hone z)⟩
            · have hz : z ∈ writeAt y0.cells.toList off (a.eval y).cells.toList := hz
              exact (mem_writeAt hz).elim (g4 z) (hone z)
        obtain ⟨y1, k1, k2, k3, k4⟩ := hnew
        have hrow := FRrow_set (i := i) hr hi (by simp [hvs]; exact Nat.mul_le_mul_right _ hlc) k1 k3 k4
        rw [k2, ← hwr] at hrow
        have hs2 := hs1.upd (o' := .row U sz (xs.set i (bif sz == 1 then yv else .agg (writeAt (xs.getD i k.zero).cells off yv.cells)))) hl1 hb (setRow_only w b _) (w' := w.setRow b (writeAt vs.toList (i * sz + off) (a.eval y).cells.toList).toArray) ?_
        · refine ⟨undef, _, ι, S', .inr ⟨?_, rfl⟩, hs2, ?_⟩
          · simp [execOp, ho, e1, Instr.storeAt, Instr.sureAddr, hst]
          · simp only [VR, undef]; exact ⟨#[], rfl, by simp [VRs]⟩
        · refine .inr ⟨b, _, hb, setRow_heap w b vs _ U (0, 0) hh, by simpa using hlc, hcm, by simp [writeAt_len, hvs], ?_⟩
          exact FRrow.mono (fun _ h => h) (fun b' hb' => (setRow_only w b _).heap b' fun e => by subst e; exact (hs1.mem.own id _ b' hl1 hb).2.1 hb') hrow
      · cases h
    · cases h
  · cases h

/- rows made -/
theorem row_zeros {sz : Nat} {x : FV} {z : Value} (hf : FR S w x z) (hsz : z.cells.size = sz) (hone : ∀ c ∈ z.cells.toList, c.oneCell' = true) : ∀ (n : Nat) (r : List Value), FRrow S w sz (List.replicate n x) ((List.replicate n z.cells.toList).flatten ++ r)
  | 0, r => by simp [FRrow]
  | n + 1, r => by
    simp only [List.replicate_succ, FRrow, List.flatten_cons, List.append_assoc]
    refine ⟨⟨z, hf, ?_, hsz, hone⟩, ?_⟩
    · rw [List.take_append_of_le_length (by simp [hsz]), List.take_of_length_le (by simp [hsz])]
    · rw [List.drop_append_of_le_length (by simp [hsz]), List.drop_of_length_le (by simp [hsz]), List.nil_append]
      exact row_zeros hf hsz hone n r
theorem made_flat (z : Array Value) : ∀ (n : Nat), (madeCells z (n * z.size)).toList = (List.replicate n z.toList).flatten := by
  have hf : ∀ n, (madeCells z n).toList = (List.range n).map (fun j => z[j % z.size]!) := by
    intro n; simp [madeCells]
  intro n
  rw [hf]
  induction n with
  | zero => simp
  | succ n ih =>
    rw [Nat.add_mul, Nat.one_mul, Nat.add_comm, List.range_add, List.map_append, List.replicate_succ, List.flatten_cons, ← ih]
    congr 1
    · apply List.ext_getElem?
      intro j
      by_cases hj : j < z.size
      · simp [hj, Nat.mod_eq_of_lt hj]
      · simp [hj]
    · rw [List.map_map]
      apply List.map_congr_left
      intro j _
      simp

theorem s_makeSlice (hs : Sim E N σ ι S a w) {o : Oper} {T : TypeId} {x y : Operand} (ho : o.op = .makeSlice T x y) (h : aMakeSlice (tk P) σ (ev σ x) (ev σ y) (tk P T) = .val need v σ') (hn : need) : Good P E N a w (execOp a.eval o) v σ' := by
  unfold aMakeSlice at h
  split at h
  · rename_i c kk l d kk' cp _ _ _ _ e h1 h2 hk
    obtain ⟨dd, hu, hd⟩ := tk_desc hk
    have := tdOf_slice hd; subst this
    unfold mkSl at h
    split at h
    · rename_i k hke
      obtain ⟨rfl, rfl, rfl⟩ := val_inj h
      obtain ⟨⟨hc, hd⟩, h0, hlc, hby, hcp, hk0⟩ := hn
      have e1 := vr_v (ev_sound hs h1 hc)
      have e2 := vr_v (ev_sound hs h2 hd)
      obtain ⟨i, z, hi, hz, hzz, hf, hone, hzs, hsz, hbb⟩ := zero_cells (S := S) (w := w) hke
      have hr := run_make (P := P) w T e i z hu hi hz kk kk' l cp h0 hlc (by rw [← hbb, Int.mul_comm]; exact hby) (by omega)
      rw [← hsz, ← hzs] at hr
      refine ⟨_, _, _, S, .inl (by simp only [execOp, ho, e1, e2, Sem.run_bind, hr, Result.andThen_ok, Sem.run_pure]; rfl), hs.alloc (cap := cp.toNat) (.inr ⟨w.heap.size, _, rfl, heap_new _ _, by simp; omega, by simp only [maxLen]; omega, by rw [size_madeCells, hzs], ?_⟩), ?_⟩
      · rw [made_flat]
        have := (row_zeros (sz := k.sz) hf hzs hone cp.toNat []).take l.toNat
        rw [List.append_nil] at this
        have htk : (List.replicate cp.toNat k.zero).take l.toNat = List.replicate l.toNat k.zero := by rw [List.take_replicate, Nat.min_eq_left (by omega)]
        rw [htk] at this
        exact this.mono (fun _ h => h) (fun b hb => (Quiet.alloc w _).heap b (hs.mem.slt b hb))
      · simp only [VR]
        refine ⟨Nat.lt_succ_self _, .inr ⟨w.heap.size, 0, by rw [ext_new], by rw [ext_new]; simp; omega, fun _ => by simp, fun _ => rfl, by rw [ext_new]; simp⟩⟩
    · cases h
  · cases h

theorem bsl_mono {sz : Nat} : ∀ (ps : List (Nat × Operand)) {σ σ' : St} {n0 n : Prop} {xs xs' : List FV}, bslParts σ sz ps n0 xs = some (n, xs', σ') → n → n0
  | [], σ, σ', n0, n, xs, xs', h, hn => by simp only [bslParts, Option.some.injEq, Prod.mk.injEq] at h; obtain ⟨rfl, _⟩ := h; exact hn
  | (i, x) :: ps, σ, σ', n0, n, xs, xs', h, hn => by
    simp only [bslParts] at h
    split at h
    · split at h
      · exact (bsl_mono ps h hn).1
      · cases h
    · cases h
theorem bsl_sound {sz : Nat} : ∀ (ps : List (Nat × Operand)) {σ σ' : St} {S : Nat → Prop} {n0 n : Prop} {xs xs' : List FV} {cells : Array Value}, Sim E N σ ι S a w → bslParts σ sz ps n0 xs = some (n, xs', σ') → n → FRrow S w sz xs cells.toList → cells.size = xs.length * sz →
    ∃ S' cells', (∀ b, S b → S' b) ∧ Sim E N σ' ι S' a w ∧ Instr.fill (fun i => some (i * sz, sz)) cells (ps.map fun p => (p.1, a.eval p.2)) = some cells' ∧ FRrow S' w sz xs' cells'.toList ∧ cells'.size = xs'.length * sz ∧ xs'.length = xs.length ∧ σ'.t = σ.t ∧ σ'.n = σ.n
  | [], σ, σ', S, n0, n, xs, xs', cells, hs, h, hn, hr, hc => by
    simp only [bslParts, Option.some.injEq, Prod.mk.injEq] at h
    obtain ⟨rfl, rfl, rfl⟩ := h
    exact ⟨S, cells, fun _ h => h, hs, rfl, hr, hc, rfl, rfl, rfl⟩
  | (i, x) :: ps, σ, σ', S, n0, n, xs, xs', cells, hs, h, hn, hr, hc => by
    simp only [bslParts] at h
    split at h
    · rename_i c u hx
      split at h
      · rename_i d y σ1 hrel
        obtain ⟨_, hcc, hd, hi, hysz, hok⟩ := bsl_mono ps h hn
        have e1 := ev_sound hs hx hcc
        obtain ⟨S1, m1, s1, r1, t1, n1⟩ := release_sound u hs hrel hd e1
        have hone := okE_cells r1 hok
        have hycl := r1.cells.length
        have hsz' : (a.eval x).cells.size = sz := by simp only [Array.length_toList] at hycl; omega
        have hmul : (i + 1) * sz ≤ xs.length * sz := Nat.mul_le_mul_right _ (by omega)
        rw [Nat.add_mul, Nat.one_mul] at hmul
        have hrow := FRrow_set (i := i) (hr.mono m1 (w' := w) (fun _ _ => rfl)) hi (by simp [hc]) r1 hsz' hone
        have hwr : (writeAt cells.toList (i * sz) (a.eval x).cells.toList) = cells.toList.take (i * sz) ++ (a.eval x).cells.toList ++ cells.toList.drop (i * sz + sz) := by
          rw [writeAt_eq _ _ _ (by simp; omega)]; simp [hsz']
        rw [← hwr] at hrow
        obtain ⟨S2, cells', m2, s2, f2, r2, c2, l2, t2, n2⟩ := bsl_sound ps (cells := (writeAt cells.toList (i * sz) (a.eval x).cells.toList).toArray) s1 h hn hrow (by simp [writeAt_len, hc])
        refine ⟨S2, cells', fun b h => m2 b (m1 b h), s2, ?_, r2, c2, by rw [l2]; simp, t2.trans t1, n2.trans n1⟩
        simp only [List.map_cons, Instr.fill]
        rw [if_neg (by simp [hsz']; omega), fold_write']
        exact f2
      · cases h
    · cases h

theorem s_buildSlice (hs : Sim E N σ ι S a w) {o : Oper} {T : TypeId} {len : Nat} {ps : Array (Nat × Operand)} (ho : o.op = .buildSlice T len ps) (h : aBuildSlice (tk P) σ len ps.toList (tk P T) = .val need v σ') (hn : need) : Good P E N a w (execOp a.eval o) v σ' := by
  have hparts : (ps.map fun (p : Nat × Operand) => (p.1, a.eval p.2)).toList = ps.toList.map fun p => (p.1, a.eval p.2) := by simp
  unfold aBuildSlice at h
  split at h
  · rename_i _ _ _ _ e hk
    obtain ⟨dd, hu, hd⟩ := tk_desc hk
    have := tdOf_slice hd; subst this
    unfold bslE at h
    split at h
    · rename_i k hke
      unfold bslRes at h
      split at h
      · rename_i nd xs σ1 hb
        obtain ⟨rfl, rfl, rfl⟩ := val_inj h
        obtain ⟨hnd, hlim, hlim2⟩ := hn
        obtain ⟨i, z, hi, hz, hzz, hf, hone, hzs, hsz, hbb⟩ := zero_cells (S := S) (w := w) hke
        have hrow0 := row_zeros (sz := k.sz) hf hzs hone len []
        rw [List.append_nil, ← made_flat] at hrow0
        obtain ⟨S', cells', m, s1, f1, r1, c1, l1, t1, n1⟩ := bsl_sound ps.toList (cells := madeCells z.cells (len * z.cells.size)) hs hb hnd hrow0 (by rw [size_madeCells, hzs]; simp)
        rw [hzs] at f1
        simp only [List.length_replicate] at l1
        have hlim' : ¬ (len * k.sz > 2 ^ 24) := by simp; omega
        have hrun : (execOp a.eval o).run P w = .ok (.value (.slice (some ⟨w.heap.size, 0, none⟩) len len)) (w.alloc (.cells cells' e)) := by
          have hfill : Instr.fill (fun i => some (i * k.sz, k.sz)) ((Array.range (len * k.sz)).map (z.cells[· % z.cells.size]!)) (ps.map fun (p : Nat × Operand) => (p.1, a.eval p.2)).toList = some cells' := by rw [hparts]; exact f1
          simp only [execOp, ho, Instr.buildSlice, Sem.run_bind, run_underlying hu, Result.andThen_ok, tk_sz hke, hlim', if_false, Sem.run_pure]
          by_cases h0 : len * k.sz = 0
          · simp only [h0, Array.range_zero', Array.map_empty] at hfill
            simp only [h0, if_true, Sem.run_bind, Sem.run_pure, Result.andThen_ok, Array.range_zero', Array.map_empty, hfill]
            simp [newRow]
          · simp only [h0, if_false, Sem.run_bind, zeroValue, typeInfo, run_program, Result.andThen_ok, hi, Sem.run_pure, hz]
            rw [hfill]
            simp [newRow]
        refine ⟨_, _, _, S', .inl hrun, s1.alloc (cap := len) (.inr ⟨w.heap.size, cells', rfl, heap_new _ _, by show xs.length ≤ len; omega, ?_, by rw [c1, l1], ?_⟩), ?_⟩
        · show len ≤ maxLen
          simp only [maxLen]; omega
        · exact r1.mono (fun _ h => h) (fun b hb => (Quiet.alloc w _).heap b (s1.mem.slt b hb))
        · simp only [VR]
          refine ⟨Nat.lt_succ_self _, .inr ⟨w.heap.size, 0, by rw [ext_new], by rw [ext_new]; simp, fun _ => by simp, fun _ => rfl, by rw [ext_new]; simp⟩⟩
      · cases h
    · cases h
  · cases h

/- append -/
theorem run_append_zero {t u ty e : TypeId} (ht : P.underlying t = some (.slice e)) (hu : ∃ d, P.underlying u = some d ∧ (∀ k, d ≠ .int k)) {i : TypeInfo} (hi : P.info? e = some i) (base p : Option Addr) (n cap c : Nat) (hle : n ≤ cap) :
    (Builtin.append_ #[t, u] ty #[.slice base n cap, .slice p 0 c]).run P w = .ok (.slice base n cap) w := by
  obtain ⟨d, hu, hd⟩ := hu
  have hz : (match d with | .int _ => true | _ => false) = false := by
    cases d <;> first | rfl | (rename_i k; exact absurd rfl (hd k))
  have hfc : (Builtin.firstCells i.size 0 (.slice p 0 c)).run P w = .ok #[] w := by
    cases p <;> simp [Builtin.firstCells, loadCells, loadCellsFrom]
  cases base with
  | none => simp [Builtin.append_, run_underlying ht, run_underlying hu, sizeOf, typeInfo, hi, Builtin.lenOf, hle, hfc]
  | some b => simp [Builtin.append_, run_underlying ht, run_underlying hu, sizeOf, typeInfo, hi, Builtin.lenOf, hle, hfc, storeCells]

theorem FRrow_flat {sz : Nat} : ∀ {xs : List FV} {ys : List Value}, FRrow S w sz xs ys → xs.length * sz ≤ ys.length → ∀ z ∈ ys.take (xs.length * sz), z.oneCell' = true
  | [], _, _, _, z, h => by simp at h
  | x :: xs, ys, h, hl, z, hz => by
    simp only [FRrow] at h
    simp only [List.length_cons, Nat.add_mul, Nat.one_mul] at hl hz
    rw [Nat.add_comm, List.take_add] at hz
    rcases List.mem_append.1 hz with hz | hz
    · obtain ⟨y, _, h2, _, h4⟩ := h.1
      rw [← h2] at hz; exact h4 z hz
    · exact FRrow_flat h.2 (by simp; omega) z hz

theorem FRrow.len {sz : Nat} : ∀ {xs : List FV} {ys : List Value}, FRrow S w sz xs ys → xs.length * sz ≤ ys.length
  | [], _, _ => by simp
  | x :: xs, ys, h => by
    simp only [FRrow] at h
    obtain ⟨⟨y, _, h2, h3, _⟩, h4⟩ := h
    have := FRrow.len h4
    have h5 := congrArg List.length h2
    simp only [Array.length_toList, List.length_take, List.length_drop] at h5 this
    rw [List.length_cons, Nat.add_mul, Nat.one_mul]; omega

/-- what a source of an append is -/
def Src (S : Nat → Prop) (w : World) (sz : Nat) (ys : List FV) (y : Value) : Prop :=
  (∃ p c, y = .slice p 0 c ∧ ys = []) ∨ (∃ b o c cs T fz, y = .slice (some ⟨b, o, none⟩) ys.length c ∧ w.heap[b]? = some (.cells cs T fz) ∧ FRrow S w sz ys (cs.toList.drop o))
theorem Src.cells {S : Nat → Prop} {w : World} {sz : Nat} {ys : List FV} {y : Value} (h : Src S w sz ys y) : (∃ p c, y = .slice p 0 c ∧ ys = []) ∨
    (0 < ys.length ∧ ∃ b o c news, y = .slice (some ⟨b, o, none⟩) ys.length c ∧ news.length = ys.length * sz ∧ (∀ j q, news[j]? = some q → w.cell? ((⟨b, o, none⟩ : Addr).add j) = some q) ∧ FRrow S w sz ys news ∧ ∀ z ∈ news, z.oneCell' = true) := by
  rcases h with h | ⟨b, o, c, cs, T, fz, e, hh, hr⟩
  · exact .inl h
  · by_cases h0 : ys = []
    · subst h0; exact .inl ⟨_, _, e, rfl⟩
    · have hp : 0 < ys.length := List.length_pos_iff.2 h0
      have hlen := hr.len
      have hnl : ((cs.toList.drop o).take (ys.length * sz)).length = ys.length * sz := by rw [List.length_take]; omega
      exact .inr ⟨hp, b, o, c, (cs.toList.drop o).take (ys.length * sz), e, hnl, fun j q hj => by rw [add_off]; exact cell_of hh (by have := sub_get hj; rwa [List.getElem?_drop] at this),
        hr.congr (by rw [List.take_take, Nat.min_self]), FRrow_flat hr hlen⟩

/-- what an append comes to, at a source of n elements whose cells are 'news' -/
structure AppSrc (P : Program) (w : World) (T U V e : TypeId) (y : Value) (n : Nat) (news : List Value) : Prop where
  zero : n = 0 → ∀ (base : Option Addr) (len cap : Nat), len ≤ cap → (Builtin.append_ #[T, U] V #[.slice base len cap, y]).run P w = .ok (.slice base len cap) w
  fresh : 0 < n → ∀ (i : TypeInfo) (z : Value), P.underlying T = some (.slice e) → P.info? e = some i → i.zero = some z → news.length = n * i.size → n ≤ 9223372036854775807 → n * i.bytes ≤ 281474976710656 →
    (Builtin.append_ #[T, U] V #[.slice none 0 0, y]).run P w = .ok (.slice (some ⟨w.heap.size, 0, none⟩) n (grownCap w n 0 e)) (w.drew.alloc (.cells (news.toArray ++ Builtin.zeroCells z.cells (grownCap w n 0 e - n)) e))
  room : 0 < n → ∀ (i : TypeInfo), P.underlying T = some (.slice e) → P.info? e = some i → ∀ (g len cap : Nat) (cur : Array Value), w.heap[g]? = some (.cells cur e (0, 0)) → news.length = n * i.size → (∀ z ∈ news, z.oneCell' = true) → len + n ≤ cap → len * i.size + news.length ≤ cur.size →
    (Builtin.append_ #[T, U] V #[.slice (some ⟨g, 0, none⟩) len cap, y]).run P w = .ok (.slice (some ⟨g, 0, none⟩) (len + n) cap) (w.setRow g (cur.toList.take (len * i.size) ++ news ++ cur.toList.drop (len * i.size + news.length)).toArray)
  grow : 0 < n → ∀ (i : TypeInfo) (z : Value), P.underlying T = some (.slice e) → P.info? e = some i → i.zero = some z → ∀ (b : Addr) (len cap : Nat) (olds : List Value), olds.length = len * i.size → (∀ j v, olds[j]? = some v → w.cell? (b.add j) = some v) → news.length = n * i.size → cap < len + n → len + n ≤ 9223372036854775807 →
    Builtin.nextslicecap (len + n) cap * i.bytes ≤ 281474976710656 →
    (Builtin.append_ #[T, U] V #[.slice (some b) len cap, y]).run P w = .ok (.slice (some ⟨w.heap.size, 0, none⟩) (len + n) (grownCap w (len + n) cap e)) (w.drew.alloc (.cells (olds.toArray ++ news.toArray ++ Builtin.zeroCells z.cells (grownCap w (len + n) cap e - (len + n))) e))

theorem FRrow_one {S : Nat → Prop} {w : World} {sz : Nat} {ys : List FV} {news : List Value} (hr : FRrow S w sz ys news) (hnl : news.length = ys.length * sz) : ∀ z ∈ news, z.oneCell' = true := by
  have h := FRrow_flat hr (by omega)
  rwa [← hnl, List.take_length] at h

theorem Src.app {S : Nat → Prop} {w : World} {sz : Nat} {ys : List FV} {y : Value} {T V e : TypeId} {i : TypeInfo} (hu : P.underlying T = some (.slice e)) (hi : P.info? e = some i) (hsz : sz = i.size) (h : Src S w sz ys y) :
    ∃ news, AppSrc P w T T V e y ys.length news ∧ news.length = ys.length * sz ∧ FRrow S w sz ys news := by
  rcases h.cells with ⟨p, cp, rfl, rfl⟩ | ⟨h0, b2, oo, cp, news, rfl, hnl, hcell, hr, hnone⟩
  · exact ⟨[], ⟨fun _ base len cap hle => run_append_zero hu ⟨_, hu, by simp⟩ hi base p len cap cp hle, fun h => by simp at h, fun h => by simp at h, fun h => by simp at h⟩, by simp, by simp [FRrow]⟩
  · exact ⟨news, ⟨fun h => by omega, fun _ i' z hu' hi' hz hn h63 h48 => run_append_nil (P := P) w T V e i' z hu' hi' hz ⟨b2, oo, none⟩ ys.length cp news hn hcell h0 (by omega) h48,
      fun _ i' hu' hi' g len cap cur hg hn hone hroom hfit => run_append_room (P := P) w T V e i' hu' hi' g len cap cur hg ⟨b2, oo, none⟩ ys.length cp news hn hcell hone hroom hfit,
      fun _ i' z hu' hi' hz b len cap olds hlo holds hn hlt h63 hfit => run_append_grow (P := P) w T V e i' z hu' hi' hz b len cap olds hlo holds ⟨b2, oo, none⟩ ys.length cp news hn hcell hlt (by omega) hfit⟩, hnl, hr⟩

theorem append_nil {T U V e : TypeId} {n : Nat} {news : List Value} {k : TK} (hu : P.underlying T = some (.slice e)) (hke : tk P e = some k) (hk0 : k.sz ≠ 0) {ys : List FV} {y : Value} (hs : Sim E N σ ι S a w) (hyn : ys.length = n) (A : AppSrc P w T U V e y n news) (hnl : news.length = ys.length * k.sz) (hr : FRrow S w k.sz ys news) (hb : ys.length * k.bytes ≤ 140737488355328) (hl : ys.length ≤ 140737488355328) :
    ∃ r w' ι', (Builtin.append_ #[T, U] V #[.slice none 0 0, y]).run P w = .ok r w' ∧ Sim E N ⟨σ.t, (σ.n, .row e k.sz ys) :: σ.h, σ.n + 1⟩ ι' S a w' ∧ VR S ι' (σ.n + 1) w' (.sl σ.n k.sz 0 ys.length) r := by
  obtain ⟨i, z, hi, hz, hzz, hf, hone, hzs, hsz, hbb⟩ := zero_cells (S := S) (w := w) hke
  subst hyn
  rcases Nat.eq_zero_or_pos ys.length with h0 | h0
  · have hnil : ys = [] := List.length_eq_zero_iff.1 h0
    subst hnil
    have hrun := A.zero rfl none 0 0 (Nat.le_refl _)
    exact ⟨.slice none 0 0, w, _, hrun, hs.name (l := ⟨none, 0⟩) (by simp) (.inl ⟨rfl, rfl, rfl⟩), by simp [VR, ext]⟩
  · have hrun := A.fresh h0 i z hu hi hz (by rw [hnl, hsz]) (by omega) (by rw [← hbb]; omega)
    have hge := grownCap_ge w ys.length 0 e
    have hcm := grownCap_le_maxLen w ys.length 0 e (by simp only [maxLen]; omega)
    refine ⟨_, _, _, hrun, (hs.quiet (Quiet.drew w)).alloc (cap := grownCap w ys.length 0 e) (.inr ⟨w.heap.size, _, rfl, heap_new _ _, hge, hcm, ?_, ?_⟩), ?_⟩
    · simp only [Array.size_append, List.size_toArray, hnl, size_zeroCells, hzs, ← Nat.add_mul]; congr 1; omega
    · have := hr.mono (S' := S) (w := w) (w' := w.drew.alloc (.cells (news.toArray ++ Builtin.zeroCells z.cells (grownCap w ys.length 0 e - ys.length)) e)) (fun _ h => h) (fun b hb => (Quiet.alloc w.drew _).heap b (hs.mem.slt b hb))
      refine this.congr ?_
      rw [Array.toList_append]
      simp only [List.take_append_of_le_length (show ys.length * k.sz ≤ news.length by omega)]
    · simp only [VR]
      refine ⟨Nat.lt_succ_self _, .inr ⟨w.heap.size, 0, by rw [ext_new]; rfl, by rw [ext_new]; simpa using hge, fun _ => by simp, fun _ => rfl, by rw [ext_new]; rfl⟩⟩

theorem append_own {T U V e : TypeId} {n : Nat} {news : List Value} {k : TK} (hu : P.underlying T = some (.slice e)) (hke : tk P e = some k) (hk0 : k.sz ≠ 0) {ys : List FV} {y : Value} (hs : Sim E N σ ι S a w) (hyn : ys.length = n) (A : AppSrc P w T U V e y n news) (hnl : news.length = ys.length * k.sz) (hr : FRrow S w k.sz ys news) {id len : Nat} {xs : List FV} (hl : lk id σ.h = some (.row e k.sz xs))
    {b : Nat} (hb : (ι id).b = some b) (hlen : len ≤ xs.length) (hby : (len + ys.length) * k.bytes ≤ 140737488355328) (hln : len + ys.length ≤ 140737488355328) :
    ∃ r w' ι', (Builtin.append_ #[T, U] V #[.slice (some ⟨b, 0, none⟩) len (ι id).cap, y]).run P w = .ok r w' ∧ Sim E N ⟨σ.t, (σ.n, .row e k.sz (xs.take len ++ ys)) :: hdel id σ.h, σ.n + 1⟩ ι' S a w' ∧ VR S ι' (σ.n + 1) w' (.sl σ.n k.sz 0 (len + ys.length)) r := by
  obtain ⟨i, z, hi, hz, hzz, hf, hone, hzs, hsz, hbb⟩ := zero_cells (S := S) (w := w) hke
  obtain ⟨hid, ⟨hb', _⟩ | ⟨b', vs, hb', hh, hlc, hcm, hvs, hrow⟩⟩ := hs.mem.obj id _ hl
  · rw [hb] at hb'; cases hb'
  rw [hb] at hb'; simp only [Option.some.injEq] at hb'; subst hb'
  have hown := hs.mem.own id _ b hl hb
  have hother : ∀ id' o', lk id' (hdel id σ.h) = some o' → (ι id').b ≠ some b := by
    intro id' o' hl' hb'
    rw [lk_hdel] at hl'
    split at hl'
    · cases hl'
    · rename_i hne; exact hne (hs.mem.inj id' id o' _ b hl' hl hb' hb)
  have hxl : (xs.take len).length = len := by simp; omega
  subst hyn
  rcases Nat.eq_zero_or_pos ys.length with h0 | h0
  · have hnil : ys = [] := List.length_eq_zero_iff.1 h0
    subst hnil
    have hrun := A.zero rfl (some ⟨b, 0, none⟩) len (ι id).cap (by omega)
    refine ⟨.slice (some ⟨b, 0, none⟩) len (ι id).cap, w, _, hrun, (hs.del id).name (l := ι id) ?_ (.inr ⟨b, vs, hb, hh, by simp; omega, hcm, hvs, ?_⟩), ?_⟩
    · intro b' hb''; rw [hb] at hb''; simp only [Option.some.injEq] at hb''; subst hb''; exact ⟨hown.1, hown.2.1, hown.2.2, hother⟩
    · simpa using hrow.take len
    · simp only [VR]
      exact ⟨Nat.lt_succ_self _, .inr ⟨b, 0, by rw [ext_new]; exact hb, by rw [ext_new]; simp; omega, fun _ => by simp, fun _ => rfl, by rw [ext_new]; simp⟩⟩
  · by_cases hroom : len + ys.length ≤ (ι id).cap
    · -- in place
      have hfit : len * i.size + news.length ≤ vs.size := by rw [hnl, hvs, ← hsz, ← Nat.add_mul]; exact Nat.mul_le_mul_right _ hroom
      have hrun := A.room h0 i hu hi b len (ι id).cap vs hh (by rw [hnl, hsz]) (FRrow_one hr hnl) hroom hfit
      have hon := setRow_only w b (vs.toList.take (len * i.size) ++ news ++ vs.toList.drop (len * i.size + news.length)).toArray
      have hS : ∀ b', S b' → (w.setRow b (vs.toList.take (len * i.size) ++ news ++ vs.toList.drop (len * i.size + news.length)).toArray).heap[b']? = w.heap[b']? :=
        fun b' hb' => hon.heap b' fun e => by subst e; exact hown.2.1 hb'
      have hrow' : FRrow S (w.setRow b (vs.toList.take (len * i.size) ++ news ++ vs.toList.drop (len * i.size + news.length)).toArray) k.sz (xs.take len ++ ys) (vs.toList.take (len * i.size) ++ news ++ vs.toList.drop (len * i.size + news.length)) := by
        have r1 := (hrow.take len).mono (S' := S) (fun _ h => h) hS
        have r2 := hr.mono (S' := S) (fun _ h => h) hS
        have hl1 : (vs.toList.take (len * i.size)).length = (xs.take len).length * k.sz := by rw [hxl, ← hsz, List.length_take, Array.length_toList]; rw [hnl, ← hsz, ← Nat.add_mul, Nat.add_mul] at hfit; omega
        have r3 := FRrow.append hl1 (r1.congr (by rw [hxl, ← hsz, List.take_take, Nat.min_self])) r2
        refine r3.congr (List.take_append_of_le_length ?_).symm
        rw [List.length_append, List.length_append, hxl, hl1, hxl, hnl, Nat.add_mul]; exact Nat.le_refl _
      refine ⟨_, _, ext ι σ.n (ι id), hrun, ?_, ?_⟩
      · have h1 : Sim E N ⟨σ.t, hset id (.row e k.sz (xs.take len ++ ys)) σ.h, σ.n⟩ ι S a (w.setRow b (vs.toList.take (len * i.size) ++ news ++ vs.toList.drop (len * i.size + news.length)).toArray) := by
          refine hs.upd hl hb hon (.inr ⟨b, _, hb, setRow_heap w b vs _ e (0, 0) hh, by simp; omega, hcm, ?_, by simpa using hrow'⟩)
          simp; omega
        have h2 := (h1.del id).name (l := ι id) (o := .row e k.sz (xs.take len ++ ys)) ?_ ?_
        · refine h2.congr fun m => ?_
          simp only [lk_cons, lk_hdel, lk_hset]
          split
          · rfl
          · split <;> rfl
        · intro b' hb''; rw [hb] at hb''; simp only [Option.some.injEq] at hb''; subst hb''
          refine ⟨by rw [hon.size]; exact hown.1, hown.2.1, hown.2.2, fun id' o' hl' => ?_⟩
          rw [lk_hdel, lk_hset] at hl'
          split at hl'
          · cases hl'
          · rename_i hne; exact fun hb' => hne (hs.mem.inj id' id o' _ b hl' hl hb' hb)
        · exact .inr ⟨b, _, hb, setRow_heap w b vs _ e (0, 0) hh, by simp; omega, hcm, by simp; omega, by simpa using hrow'⟩
      · simp only [VR]
        exact ⟨Nat.lt_succ_self _, .inr ⟨b, 0, by rw [ext_new]; exact hb, by rw [ext_new]; simpa using hroom, fun _ => by simp, fun _ => rfl, by rw [ext_new]; simp⟩⟩
    · -- a new row
      have hol : (vs.toList.take (len * k.sz)).length = len * i.size := by
        have := Nat.mul_le_mul_right k.sz (show len ≤ (ι id).cap by omega)
        rw [List.length_take, Array.length_toList, hvs, ← hsz]; omega
      have hrun := A.grow h0 i z hu hi hz ⟨b, 0, none⟩ len (ι id).cap (vs.toList.take (len * k.sz)) hol (fun j q hj => by rw [add_off]; exact cell_of hh (by simpa using sub_get hj))
        (by rw [hnl, hsz]) (by omega) (by omega) (growslice_fits (by omega) (by rw [← hbb]; exact hby))
      have hge := grownCap_ge w (len + ys.length) (ι id).cap e
      have hcm' := grownCap_le_maxLen w (len + ys.length) (ι id).cap e (by simp only [maxLen]; omega)
      refine ⟨_, _, _, hrun, ((hs.del id).quiet (Quiet.drew w)).alloc (cap := grownCap w (len + ys.length) (ι id).cap e) (.inr ⟨w.heap.size, _, rfl, heap_new _ _, by simp [hxl]; exact hge, hcm', ?_, ?_⟩), ?_⟩
      · simp only [Array.size_append, List.size_toArray, hol, hnl, size_zeroCells, hzs, ← hsz, ← Nat.add_mul]; congr 1; omega
      · have hS : ∀ b', S b' → (w.drew.alloc (.cells ((vs.toList.take (len * k.sz)).toArray ++ news.toArray ++ Builtin.zeroCells z.cells (grownCap w (len + ys.length) (ι id).cap e - (len + ys.length))) e)).heap[b']? = w.heap[b']? :=
          fun b' hb' => (Quiet.alloc w.drew _).heap b' (hs.mem.slt b' hb')
        have r1 := (hrow.take len).mono (S' := S) (fun _ h => h) hS
        have r2 := hr.mono (S' := S) (fun _ h => h) hS
        have hl1 : (vs.toList.take (len * k.sz)).length = (xs.take len).length * k.sz := by rw [hxl, hol, hsz]
        have r3 := FRrow.append hl1 (r1.congr (by rw [hxl, List.take_take, Nat.min_self])) r2
        simp only [Array.toList_append]
        refine r3.congr (List.take_append_of_le_length ?_).symm
        rw [List.length_append, List.length_append, hxl, hl1, hxl, hnl, Nat.add_mul]; exact Nat.le_refl _
      · simp only [VR]
        exact ⟨Nat.lt_succ_self _, .inr ⟨w.heap.size, 0, by rw [ext_new]; rfl, by rw [ext_new]; simpa using hge, fun _ => by simp, fun _ => rfl, by rw [ext_new]; rfl⟩⟩

theorem s_append (hs : Sim E N σ ι S a w) {o : Oper} {T U V : TypeId} {x y : Operand} (ho : execOp a.eval o = (do let v ← builtin .append #[T, U] V #[] #[a.eval x, a.eval y]; pure v)) (h : aAppend (tk P) σ T U (ev σ x) (ev σ y) (tk P T) = .val need v σ') (hn : need) : Good P E N a w (execOp a.eval o) v σ' := by
  rw [ho]
  unfold aAppend at h
  split at h
  · rename_i c s d u _ _ _ _ e h1 h2 hk
    obtain ⟨dd, hu, hd⟩ := tk_desc hk
    have := tdOf_slice hd; subst this
    unfold apT at h
    split at h
    · rename_i k hke
      unfold apE at h
      split at h
      · -- onto nil
        rename_i n ys hrd
        unfold apRow at h
        obtain ⟨rfl, rfl, rfl⟩ := val_inj h
        obtain ⟨⟨⟨rfl, hc, hd'⟩, hnn, hk0⟩, hb, hl⟩ := hn
        have e1 := vr_v (ev_sound hs h1 hc)
        simp only [List.length_nil, Nat.zero_add, List.nil_append] at hb hl ⊢
        obtain ⟨i, _, _, hi, _, _, hsz, _⟩ := tk_spec hke
        obtain ⟨news, A, hnl, hr⟩ := Src.app (V := V) hu hi hsz (rdSl_sound hs hrd hnn (ev_sound hs h2 hd'))
        obtain ⟨r, w', ι', hrun, hs', hv⟩ := append_nil (V := V) hu hke hk0 hs rfl A hnl hr hb hl
        exact ⟨r, w', ι', S, .inl (by simp [builtin, e1, hrun]), hs', hv⟩
      · rename_i id sz off len n ys hrd
        split at h
        · rename_i T' sz' xs hlk
          unfold apRow at h
          obtain ⟨rfl, rfl, rfl⟩ := val_inj h
          obtain ⟨⟨⟨rfl, hc, hd'⟩, hnn, hk0, rfl, hle, rfl, rfl, rfl⟩, hb, hl⟩ := hn
          have hxl : (xs.take len).length = len := by simp; omega
          rw [hxl] at hb hl ⊢
          have e1 := ev_sound hs h1 hc
          obtain ⟨i, _, _, hi, _, _, hsz, _⟩ := tk_spec hke
          obtain ⟨news, A, hnl, hr⟩ := Src.app (V := V) hu hi hsz (rdSl_sound hs hrd hnn (ev_sound hs h2 hd'))
          simp only [VR] at e1
          obtain ⟨hid, ⟨hbn, _, rfl, hcap, e1⟩ | ⟨b, oo, hbn, hcap, _, ho0, e1⟩⟩ := e1
          · simp only [List.take_zero, List.nil_append, Nat.zero_add] at hb hl ⊢
            obtain ⟨r, w', ι', hrun, hs', hv⟩ := append_nil (V := V) hu hke hk0 (hs.del id) rfl A hnl hr hb hl
            exact ⟨r, w', ι', S, .inl (by simp [builtin, e1, hrun]), hs', hv⟩
          · have := ho0 trivial; subst this
            obtain ⟨r, w', ι', hrun, hs', hv⟩ := append_own (V := V) hu hke hk0 hs rfl A hnl hr hlk hbn hle hb hl
            exact ⟨r, w', ι', S, .inl (by simp [builtin, e1, hrun]), hs', hv⟩
        · cases h
      · cases h
    · cases h
  · cases h
end
end Go.Fw

set_option linter.unusedVariables false
namespace Go.Fw
open Go
section
variable {P : Program} {E : Ent} {N : Nat} {σ σ' : St} {ι : Nat → Loc} {S : Nat → Prop} {a : Act} {w : World} {v : AV} {need : Prop}

theorem s_range (hs : Sim E N σ ι S a w) {o : Oper} {T : TypeId} {x : Operand} (ho : o.op = .range T x) (h : aRange σ (ev σ x) (tk P T) = .val need v σ') (hn : need) : Good P E N a w (execOp a.eval o) v σ' := by
  unfold aRange at h
  split at h
  · rename_i c s _ _ _ _ h1 hk
    obtain ⟨rfl, rfl, rfl⟩ := val_inj h
    obtain ⟨dd, hu, hd⟩ := tk_desc hk
    have hd := tdOf_str hd; subst hd
    have e1 := vr_v (ev_sound hs h1 hn)
    have hs' : Sim E N ⟨σ.t, (σ.n, .siter (bl s) 0) :: σ.h, σ.n + 1⟩ (ext ι σ.n ⟨some w.heap.size, 0⟩) S a (w.iter s 0) :=
      hs.alloc (ob := .stringIter s 0) (cap := 0) (o := .siter (bl s) 0) ⟨_, rfl, by rw [heap_new]; rfl⟩
    exact ⟨.pointer (some ⟨w.heap.size, 0, none⟩), _, _, S, .inl (by simp [execOp, ho, e1, run_range_string w T s hu]), hs', by simp [VR, ext]⟩
  · cases h

theorem setObj_only (w : World) (g : Nat) (o : Obj) : Only w { w with heap := w.heap.setIfInBounds g o } g :=
  ⟨fun b hb => by simp only [Array.getElem?_setIfInBounds]; rw [if_neg (Ne.symm hb)], by simp, rfl, rfl, rfl⟩

theorem s_next (hs : Sim E N σ ι S a w) {o : Oper} {x : Operand} {isS : Bool} (ho : o.op = .next x isS) (h : aNext σ (ev σ x) isS = .val need v σ') (hn : need) : Good P E N a w (execOp a.eval o) v σ' := by
  unfold aNext at h
  split at h
  · rename_i c id h1
    split at h
    · rename_i s pos hl
      obtain ⟨hid, b, hb, hh⟩ := hs.mem.obj id _ hl
      have hlt := (hs.mem.own id _ b hl hb).1
      by_cases hp : pos < s.length
      · rw [decide_eq_true hp] at h
        simp only [nextS] at h
        obtain ⟨rfl, rfl, rfl⟩ := val_inj h
        have e1 := ev_sound hs h1 hn.1
        simp only [VR] at e1
        obtain ⟨_, b', hb', e1⟩ := e1
        rw [hb] at hb'; simp only [Option.some.injEq] at hb'; subst hb'
        have hsz : pos < (⟨⟨s⟩⟩ : ByteArray).size := hp
        have hs' : Sim E N ⟨σ.t, hset id (.siter s (pos + (dec s pos).2)) σ.h, σ.n⟩ ι S a (w.iterAt b ⟨⟨s⟩⟩ (pos + (Utf8.decode ⟨⟨s⟩⟩ pos).2)) :=
          hs.upd hl hb (setObj_only _ _ _) ⟨b, hb, Lib.iterAt_heap _ _ _ _ _ hh⟩
        refine ⟨.tuple #[.bool true, .int .i64 pos, .int .i32 (Utf8.decode ⟨⟨s⟩⟩ pos).1], _, ι, S, .inl ?_, hs', ?_⟩
        · have := Lib.run_next_any_at (P := P) w b ⟨⟨s⟩⟩ pos o.type hh hsz
          simp [execOp, ho, e1, this]
        · simp [VR, VRs, FR, dec, Value.oneCell']
      · rw [decide_eq_false hp] at h
        simp only [nextS] at h
        obtain ⟨rfl, rfl, rfl⟩ := val_inj h
        have e1 := ev_sound hs h1 hn.1
        simp only [VR] at e1
        obtain ⟨_, b', hb', e1⟩ := e1
        rw [hb] at hb'; simp only [Option.some.injEq] at hb'; subst hb'
        have hsz : ¬ pos < (⟨⟨s⟩⟩ : ByteArray).size := hp
        have := Lib.run_next_end_at (P := P) w b ⟨⟨s⟩⟩ pos o.type hh hsz
        exact .same hs (y := .tuple #[.bool false]) (by simp [execOp, ho, e1, this]) (by simp [VR, VRs, FR, Value.oneCell'])
    · cases h
  · cases h

theorem s_mkFunc (hs : Sim E N σ ι S a w) {o : Oper} {fn : Fn} {x y : Array Operand} (ho : o.op = .makeFunc fn x y) (h : aMkFunc σ fn (evl σ x.toList) (evl σ y.toList) = .val need v σ') (hn : need) : GoodS P σ ι S w (execOp a.eval o) v σ' := by
  unfold aMkFunc at h
  split at h
  · rename_i c fs d cs h1 h2
    split at h
    · rename_i f
      obtain ⟨rfl, rfl, rfl⟩ := val_inj h
      refine .same hs (y := .func (.func f) (x.map a.eval) (y.map a.eval)) (by simp [execOp, ho, Instr.makeFunc]) ?_
      simp only [VR]
      exact ⟨_, _, rfl, by simpa using evl_sound hs h1 hn.1, by simpa using evl_sound hs h2 hn.2⟩
    · cases h
  · cases h

/-- a function with code of its own, that a call enters -/
def enters (P : Program) (f : FuncId) : Bool := match P.funcs[f]? with
  | some fn => fn.name != "runtime.NumGoroutine" && fn.body.isSome
  | none => false
theorem run_enters {f : FuncId} (h : enters P f = true) (args : Array Value) : (callFunc f args).run P w = .ok (.enter f args) w := by
  unfold enters at h
  split at h
  · rename_i fn hf
    simp only [bne_iff_ne, Bool.and_eq_true, ne_eq] at h
    cases hb : fn.body with
    | none => rw [hb] at h; simp at h
    | some c => simp [callFunc, hf, h.1, hb]
  · cases h

theorem s_call (hs : Sim E N σ ι S a w) {o : Oper} {c : Call} {x : Operand} (ho : o.op = .call c) (hc : c.callee = .value x) {f : FuncId} {args : List AV} (h : aCallV (ev σ x) (evl σ c.args.toList) = .call need f args) (hn : need) (hf : enters P f = true) :
    ∃ vals : Array Value, (execOp a.eval o).run P w = .ok (.enter f vals) w ∧ VRs S ι σ.n w args vals.toList := by
  unfold aCallV at h
  split at h
  · rename_i c1 f' first cap c2 vs h1 h2
    injection h with e1 e2 e3
    subst e1 e2 e3
    have k1 := ev_sound hs h1 hn.1
    simp only [VR] at k1
    obtain ⟨fs, cs, e, hfs, hcs⟩ := k1
    refine ⟨(fs ++ c.args.map a.eval) ++ cs, ?_, ?_⟩
    · simp [execOp, ho, resolve, hc, Deferred.ofValue, e, invoke, run_enters hf]
    · simp only [Array.toList_append, Array.toList_map, List.append_assoc]
      exact hfs.append ((evl_sound hs h2 hn.2).append hcs)
  · rename_i c1 f' first cap c2 vs h1 h2
    injection h with e1 e2 e3
    subst e1 e2 e3
    have k1 := ev_sound hs h1 hn.1
    simp only [VR, FR] at k1
    obtain ⟨fs, cs, e, hfs, hcs⟩ := k1
    refine ⟨(fs ++ c.args.map a.eval) ++ cs, ?_, ?_⟩
    · simp [execOp, ho, resolve, hc, Deferred.ofValue, e, invoke, run_enters hf]
    · simp only [Array.toList_append, Array.toList_map, List.append_assoc]
      exact (VRs_map_f.2 hfs).append ((evl_sound hs h2 hn.2).append (VRs_map_f.2 hcs))
  · cases h

theorem aop_sound (hs : Sim E N σ ι S a w) {o : Oper} (h : aop (tk P) σ o.op = .val need v σ') (hn : need) : Good P E N a w (execOp a.eval o) v σ' := by
  cases ho : o.op <;> rw [ho] at h <;> simp only [aop, reduceCtorEq] at h
  case move x => obtain ⟨rfl, hv⟩ := s_move hs h hn; exact .same hs (by simp [execOp, ho]) hv
  case assign x => obtain ⟨rfl, hv⟩ := s_move hs h hn; exact .same hs (by simp [execOp, ho]) hv
  case pick => exact (s_pick hs ho h hn).good hs
  case alloc => exact s_alloc hs ho h hn
  case box => exact s_box hs ho h hn
  case build => exact (s_build hs ho h hn).good hs
  case buildSlice => exact s_buildSlice hs ho h hn
  case load => exact (s_load hs ho h hn).good hs
  case store => exact s_store hs ho h hn
  case nilCheck => exact (s_nil hs ho h hn).good hs
  case binOp => exact (s_bin hs ho h hn).good hs
  case unOp op T x =>
    cases op <;> simp only [reduceCtorEq] at h
    all_goals first | exact (s_not hs ho h hn).good hs | exact (s_neg hs ho h hn).good hs | exact (s_xor hs ho h hn).good hs
  case convert => exact s_conv hs ho h hn
  case makeFunc => exact (s_mkFunc hs ho h hn).good hs
  case makeSlice => exact s_makeSlice hs ho h hn
  case slice T x lo hi mx =>
    cases mx <;> simp only [reduceCtorEq] at h
    exact (s_slice hs ho h hn).good hs
  case fieldAddr => exact (s_fieldAddr hs ho h hn).good hs
  case field => exact (s_field hs ho h hn).good hs
  case indexAddr => exact (s_indexAddr hs ho h hn).good hs
  case index => exact (s_index hs ho h hn).good hs
  case range => exact s_range hs ho h hn
  case next => exact s_next hs ho h hn
  case extract => exact (s_extract hs ho h hn).good hs
  case call c =>
    split at h
    · rename_i hc
      split at h
      · rename_i x t hx ht
        have e1 : c.args = #[x] := by rw [← Array.toArray_toList (xs := c.args), hx]
        have e2 : c.argTypes = #[t] := by rw [← Array.toArray_toList (xs := c.argTypes), ht]
        refine (s_len hs (U := o.type) ?_ h hn).good hs
        simp [execOp, ho, resolve, hc, e1, e2, invoke, builtin]
      · cases h
    · rename_i hc
      split at h
      · rename_i x y t u hx ht
        have e1 : c.args = #[x, y] := by rw [← Array.toArray_toList (xs := c.args), hx]
        have e2 : c.argTypes = #[t, u] := by rw [← Array.toArray_toList (xs := c.argTypes), ht]
        refine s_append hs (V := o.type) ?_ h hn
        simp [execOp, ho, resolve, hc, e1, e2, invoke, builtin]
      · cases h
    · unfold aCallV at h
      split at h <;> cases h
    · cases h
end
end Go.Fw

set_option linter.unusedVariables false
namespace Go.Fw
open Go

structure Cx where
  P : Program
  f : FuncId
  N : Nat
  res : List ResultVar
  E : Ent
  R : AV → St → Prop
  /-- none: a function's frame; some l: a round of the loop l -/
  ro : Option Nat
  /-- what a function's end is to give -/
  Φ : Value → World → Prop
  /-- what a round's end is to give -/
  Ψ : Option Code → World → Prop

def retAV (tk : TypeId → Option TK) (σ : St) : List ResultVar → Option (Prop × List AV)
  | [] => some (True, [])
  | .tmp t :: rs => match ev σ (.tmp t), retAV tk σ rs with
    | some (c, v), some (n, vs) => some (c = true ∧ n, v :: vs)
    | _, _ => none
  | .cell x t :: rs => match aLoad σ (ev σ (.tmp x)) (tk t), retAV tk σ rs with
    | .val c v _, some (n, vs) => some (c ∧ n, v :: vs)
    | _, _ => none
def tupOf : List AV → AV
  | [v] => v
  | vs => .tup vs
def aRet (C : Cx) (σ : St) : Option (Prop × List AV) → Prop
  | some (n, vs) => n ∧ C.R (tupOf vs) ⟨[], σ.h, σ.n⟩
  | none => False
/-- how a round is left, as a value -/
def jAV : Option Code → AV
  | none => .s (.bool true)
  | some .ret => .tup []
  | some (.exit id) => .it id
  | _ => .mp 0
def jOK : Option Code → Bool
  | none => true
  | some .ret => true
  | some (.exit _) => true
  | _ => false

/-- what the run comes to -/
def Fin (C : Cx) (v : Value) (w' : World) : Prop := ∃ av h n ι S, C.R av ⟨[], h, n⟩ ∧ Mem C.E h n ι S w' ∧ VR S ι n w' av v
structure Cx.Ok (C : Cx) : Prop where
  fn : ∃ fn, C.P.funcs[C.f]? = some fn ∧ fn.results.toList = C.res
  mixed : C.P.follows .mixedOrders = true
  fin : C.ro = none → ∀ (σ : St) ι S a w, Sim C.E C.N σ ι S a w → aRet C σ (retAV (tk C.P) σ C.res) → ∀ (b : Frame) (cs : List Frame) (todo : List Item), b.fn = C.f → b.kind = .normal → b.roundOf = none →
    ∃ v w' fr, C.Φ v w' ∧ Steps C.P (lone { b.atR a todo with mode := .returning } cs w) (lone fr cs w') ∧ fr.fn = C.f ∧ fr.leaving C.P w' (.returned v)
  finR : C.ro ≠ none → ∀ (j : Option Code) (σ : St) ι S a w, jOK j = true → Sim C.E C.N σ ι S a w → C.R (jAV j) ⟨[], σ.h, σ.n⟩ → C.Ψ j w
def Leave : Option Code → List Item → Prop
  | none, k => k = []
  | some .ret, k => ∃ k1, k = .code .ret :: k1
  | some (.exit id), k => ∃ k1, k = .code (.exit id) :: k1 ∧ exitTo id k1 = none
  | _, _ => False
def Done (C : Cx) (m : Machine) (b : Frame) (cs : List Frame) : Prop := match C.ro with
  | none => ∃ v w' fr, C.Φ v w' ∧ Steps C.P m (lone fr cs w') ∧ fr.fn = C.f ∧ fr.leaving C.P w' (.returned v)
  | some _ => ∃ j a' w' k', C.Ψ j w' ∧ Steps C.P m (lone (b.atR a' k') cs w') ∧ Leave j k'
def Goes (C : Cx) (k : List Item) (a : Act) (w : World) : Prop := ∀ (b : Frame) (cs : List Frame), b.fn = C.f → b.kind = .normal → b.roundOf = C.ro → Done C (lone (b.atR a k) cs w) b cs
theorem Done.of_steps {C : Cx} {m m' : Machine} {b : Frame} {cs : List Frame} (h : Steps C.P m m') (d : Done C m' b cs) : Done C m b cs := by
  unfold Done at *
  split at d
  · obtain ⟨v, w', fr, h1, h2, h3⟩ := d; exact ⟨v, w', fr, h1, Steps.trans h h2, h3⟩
  · obtain ⟨j, a', w', k', h1, h2, h3⟩ := d; exact ⟨j, a', w', k', h1, Steps.trans h h2, h3⟩

def noDefer : Op → Bool
  | .defer _ => false
  | _ => true
def okOps (N : Nat) (ops : List Oper) : Bool := ops.all fun o => (match o.dst with | some d => decide (d < N) | none => true) && noDefer o.op
def okCode (N : Nat) : Code → Bool
  | .region _ ops _ => okOps N ops.toList
  | .seq a b => okCode N a && okCode N b
  | .cond _ a b => okCode N a && okCode N b
  | .block _ c => okCode N c
  | .loop c => okCode N c
  | .scope c => okCode N c
  | _ => true
def okItem (N : Nat) : Item → Bool
  | .code c => okCode N c
  | .inLoop c => okCode N c
  | .inRegion ops _ => okOps N ops.toList
  | _ => true
def okItems (N : Nat) (k : List Item) : Bool := k.all (okItem N)

def QN (C : Cx) (k : List Item) : Exit → Act → World → Prop
  | .normal, a, w => Goes C k a w
  | _, _, _ => False
/-- the fence: none, but for the round that it is in -/
def Cx.F (C : Cx) : Fence := match C.ro with | none => Fence.wide | some l => Fence.wide.inRound l
theorem Cx.F_fn (C : Cx) (f : FuncId) : C.F.fn f := by unfold Cx.F; split <;> exact trivial
theorem Cx.F_room (C : Cx) (n : Nat) : C.F.room n := by unfold Cx.F; split <;> exact room_wide n
theorem Cx.F_round (C : Cx) : C.F.round = C.ro := by
  unfold Cx.F; split <;> rename_i h <;> rw [h] <;> rfl
theorem Cx.F_depth (C : Cx) : C.F.depth = none := by unfold Cx.F; split <;> rfl
theorem Cx.F_steps {C : Cx} {m m' : Machine} (h : StepsIn (Machine.fenced C.P C.F) C.P m m') : Steps C.P m m' := StepsIn.steps h
theorem Cx.F_in {C : Cx} {m m' : Machine} (h : Steps C.P m m') : StepsIn (Machine.fenced C.P C.F) C.P m m' := by
  unfold Cx.F; split
  · exact stepsIn_wide.2 h
  · exact stepsIn_wide.2 h
def At (C : Cx) (all os : List Oper) (k : List Item) (a : Act) (w : World) : Prop :=
  wpOpsIn C.F 0 C.P all.toArray (QN C k) (List.range' (all.length - os.length) os.length) a w
/-- from every run of the model that stands so, it goes well -/
def AW (C : Cx) (all os : List Oper) (k : List Item) (σ : St) : Prop :=
  C.Ok → os <:+ all → okOps C.N all = true → okItems C.N k = true → ∀ ι S a w, Sim C.E C.N σ ι S a w → At C all os k a w

theorem at_nil {C : Cx} {all : List Oper} {k : List Item} {a : Act} {w : World} : At C all [] k a w ↔ Goes C k a w := by
  simp [At, wpOpsIn, QN]

def AL (C : Cx) (c : Code) (k : List Item) (σ : St) : Prop := AW C [] [] (.code c :: .inLoop c :: k) σ
def ADr (C : Cx) (id : Nat) (ops : List Oper) (k : List Item) (σ : St) : Prop := AW C [] [] (.code (.region id ops.toArray true) :: k) σ
def ACall (C : Cx) (n : Nat) (all : List Oper) (o : Oper) (os : List Oper) (k : List Item) (σ : St) (c : Bool) (need : Prop) (f : FuncId) (args : List AV) : Prop :=
  guardOf all σ o.guard = some c → aop (tk C.P) σ o.op = .call need f args → AW C all (o :: os) k σ
def BR (b : Bool) (x y : Prop) : Prop := bif b then x else y
theorem BR_true (x y : Prop) : BR true x y = x := rfl
theorem BR_false (x y : Prop) : BR false x y = y := rfl

/-- a function's end, or a round's -/
def aEnd (C : Cx) (σ : St) (j : Option Code) : Option Nat → Prop
  | none => aRet C σ (retAV (tk C.P) σ C.res)
  | some _ => C.R (jAV j) ⟨[], σ.h, σ.n⟩
def aOut (C : Cx) (σ : St) (id : Nat) : Option Nat → Prop
  | none => False
  | some _ => C.R (.it id) ⟨[], σ.h, σ.n⟩

section
variable (C : Cx)
mutual
def AWc : Nat → List Oper → List Oper → List Item → Bool → Oper → St → Res → Prop
  | n, all, os, k, c, o, σ, .val need v σ' => (c = true → need) ∧ AWn n all os k (St.put (bif c then σ' else σ) o.dst (mkg c v))
  | n, all, os, k, c, o, σ, .call need f args => ACall C n all o os k σ c need f args
  | _, all, os, k, _, o, σ, .bad => AW C all (o :: os) k σ
def AWg : Nat → List Oper → List Oper → List Item → Oper → St → Option Bool → Prop
  | _, all, os, k, o, σ, none => AW C all (o :: os) k σ
  | n, all, os, k, o, σ, some c => AWc n all os k c o σ (aop (tk C.P) σ o.op)
def AWi : Nat → Code → Code → List Item → St → Option (Bool × AV) → Prop
  | n, x, y, k, σ, some (c1, .f (.v (.bool b))) => c1 = true ∧ BR b (AWn n [] [] (.code x :: k) σ) (AWn n [] [] (.code y :: k) σ)
  | _, _, _, _, _, _ => False
def AWx : Nat → St → Nat → Option (List Item) → Prop
  | n, σ, _, some k => AWn n [] [] k σ
  | _, σ, id, none => aOut C σ id C.ro
def AWd : Nat → Nat → List Oper → List Item → St → Bool → Prop
  | n, _, ops, k, σ, false => AWn n ops ops k σ
  | _, id, ops, k, σ, true => ADr C id ops k σ
def AWn : Nat → List Oper → List Oper → List Item → St → Prop
  | 0, all, os, k, σ => AW C all os k σ
  | n + 1, all, o :: os, k, σ => AWg n all os k o σ (guardOf all σ o.guard)
  | n + 1, _, [], .code (.seq a b) :: k, σ => AWn n [] [] (.code a :: .code b :: k) σ
  | n + 1, _, [], .code (.region id ops d) :: k, σ => AWd n id ops.toList k σ d
  | n + 1, _, [], .code .skip :: k, σ => AWn n [] [] k σ
  | n + 1, _, [], .code (.label _) :: k, σ => AWn n [] [] k σ
  | n + 1, _, [], .code (.block id c) :: k, σ => AWn n [] [] (.code c :: .inBlock id :: k) σ
  | n + 1, _, [], .code (.cond c x y) :: k, σ => AWi n x y k σ (ev σ c)
  | n + 1, _, [], .code (.exit id) :: k, σ => AWx n σ id (exitTo id k)
  | _ + 1, _, [], .code .ret :: _, σ => aEnd C σ (some .ret) C.ro
  | _ + 1, _, [], [], σ => aEnd C σ none C.ro
  | n + 1, _, [], .inBlock _ :: k, σ => AWn n [] [] k σ
  | _ + 1, _, [], .code (.loop c) :: k, σ => AL C c k σ
  | _ + 1, _, [], .inLoop c :: k, σ => AL C c k σ
  | _ + 1, _, [], k, σ => AW C [] [] k σ
end
end

/- soundness -/
theorem Goes.head {C : Cx} {k k' : List Item} {a a' : Act} {w w' : World} (h : ∀ (b : Frame) (cs : List Frame), step C.P (lone (b.atR a k) cs w) = .next (lone (b.atR a' k') cs w')) (g : Goes C k' a' w') : Goes C k a w :=
  fun b cs h1 h2 h3 => .of_steps (.one (h b cs)) (g b cs h1 h2 h3)

theorem goes_of_wpIn {C : Cx} {c : Code} {k : List Item} {a : Act} {w : World} (h : c.wpIn C.F 0 C.P (QN C k) a w) : Goes C (.code c :: k) a w := by
  intro b cs h1 h2 h3
  obtain ⟨e, a', w', hq, harr⟩ := h b k cs (by rw [C.F_round]; exact h3) (C.F_fn _) (C.F_room _)
  cases e with
  | normal => exact .of_steps (Cx.F_steps harr) (hq b cs h1 h2 h3)
  | _ => exact hq.elim

theorem wp_in {C : Cx} {o : Oper} {a : Act} {w : World} {next : Act → World → Prop} {k : List Item} (hd : noDefer o.op = true) (h : o.wp C.P a w next (QN C k)) : o.wpIn C.F 0 C.P a w next (QN C k) := by
  have hsem : o.semAt C.F.round a.eval = execOp a.eval o := by
    unfold Oper.semAt
    split
    · rename_i ho; rw [ho] at hd; cases hd
    · rfl
  have hout : ∀ {Q}, LetsOut (QN C Q) → False := by
    rintro Q ⟨a, w, h⟩; exact h
  unfold Oper.wpIn
  refine ⟨fun f _ => C.F_fn f, ?_⟩
  rw [hsem]
  unfold Oper.wp at h
  generalize (execOp a.eval o).run C.P w = r at h ⊢
  cases r with
  | ok x w' =>
    cases x <;> simp only [Oper.upon, Oper.uponIn] at h ⊢ <;> first
      | exact h
      | (refine ⟨fun hh => (by rw [C.F_depth] at hh; cases hh), ?_⟩
         first
          | (have h' : CallsIn Fence.wide 0 C.P _ _ _ _ := callsIn_wide.2 h
             unfold Cx.F
             split
             · exact h'
             · exact CallsIn.inRound _ h')
          | (intro c cs _
             obtain ⟨v, w'', h1, h2⟩ := h c cs
             exact ⟨v, w'', h1, Cx.F_in h2⟩))
  | halt x w' => cases x <;> simp only [Oper.upon, Oper.uponIn] at h ⊢ <;> exact h

theorem exitTo_ok {N id : Nat} : ∀ {k k' : List Item}, exitTo id k = some k' → okItems N k = true → okItems N k' = true
  | [], k', h, _ => by simp [exitTo] at h
  | x :: k, k', h, hk => by
    simp only [okItems, List.all_cons, Bool.and_eq_true] at hk
    cases x <;> simp only [exitTo] at h <;> first
      | exact exitTo_ok h hk.2
      | (split at h
         · simp only [Option.some.injEq] at h; subst h; exact hk.2
         · exact exitTo_ok h hk.2)

section
variable {C : Cx}

def slot (a : Act) : ResultVar → Sem Value
  | .tmp t => pure (a.tmps.getD t undef)
  | .cell x t => do loadVar t (← asAddr (a.tmps.getD x undef))
theorem retAV_sound {σ : St} {ι : Nat → Loc} {S : Nat → Prop} {a : Act} {w : World} (hs : Sim C.E C.N σ ι S a w) : ∀ {rs : List ResultVar} {n : Prop} {vs : List AV}, retAV (tk C.P) σ rs = some (n, vs) → n →
    ∃ ys, (rs.mapM (slot a)).run C.P w = .ok ys w ∧ VRs S ι σ.n w vs ys
  | [], n, vs, h, hn => by
    simp only [retAV, Option.some.injEq, Prod.mk.injEq] at h
    obtain ⟨rfl, rfl⟩ := h
    exact ⟨[], by simp, by simp [VRs]⟩
  | .tmp t :: rs, n, vs, h, hn => by
    simp only [retAV] at h
    split at h
    · rename_i c v m us h1 h2
      simp only [Option.some.injEq, Prod.mk.injEq] at h
      obtain ⟨rfl, rfl⟩ := h
      obtain ⟨ys, hr, hv⟩ := retAV_sound hs h2 hn.2
      have e1 := ev_sound hs h1 hn.1
      refine ⟨a.tmps.getD t undef :: ys, ?_, by simp only [VRs]; exact ⟨_, _, rfl, e1, hv⟩⟩
      rw [List.mapM_cons]
      simp only [Sem.run_bind, hr, slot, Sem.run_pure, Result.andThen_ok]
    · cases h
  | .cell x t :: rs, n, vs, h, hn => by
    simp only [retAV] at h
    split at h
    · rename_i c v σ1 m us h1 h2
      simp only [Option.some.injEq, Prod.mk.injEq] at h
      obtain ⟨rfl, rfl⟩ := h
      obtain ⟨ys, hr, hv⟩ := retAV_sound hs h2 hn.2
      obtain ⟨rfl, y, b, o, e1, hl, hvy⟩ := load_core hs h1 hn.1
      refine ⟨y :: ys, ?_, by simp only [VRs]; exact ⟨_, _, rfl, hvy, hv⟩⟩
      have e1 : a.tmps.getD x undef = .pointer (some ⟨b, o, none⟩) := e1
      rw [List.mapM_cons]
      simp only [Sem.run_bind, hr, slot, e1, asAddr, hl, Sem.run_pure, Result.andThen_ok]
    · cases h

theorem run_mapM_toList {α β : Type} {P : Program} {w w' : World} (f : α → Sem β) (xs : Array α) {ys : List β} (h : (xs.toList.mapM f).run P w = .ok ys w') : (xs.mapM f).run P w = .ok ys.toArray w' := by
  have : xs.mapM f = List.toArray <$> xs.toList.mapM f := by rw [Array.mapM_eq_mapM_toList]
  rw [this]
  simp [h]

theorem aRet_sound {σ : St} {ι : Nat → Loc} {S : Nat → Prop} {a : Act} {w : World} (okfn : ∃ fn, C.P.funcs[C.f]? = some fn ∧ fn.results.toList = C.res) (hs : Sim C.E C.N σ ι S a w) (h : aRet C σ (retAV (tk C.P) σ C.res)) {fr : Frame} (h1 : fr.mode = .returning) (h2 : fr.defers = []) (h3 : fr.kind = .normal) (h4 : fr.fn = C.f) (h5 : fr.tmps = a.tmps) :
    ∃ v, Fin C v w ∧ fr.leaving C.P w (.returned v) := by
  unfold aRet at h
  split at h
  · rename_i n vs hr
    obtain ⟨ys, hrun, hv⟩ := retAV_sound hs hr h.1
    obtain ⟨fn, hf, hres⟩ := okfn
    rw [← hres] at hrun
    have hm := run_mapM_toList _ fn.results hrun
    have hres2 : ∀ v, (if h : ys.toArray.size = 1 then ys.toArray[0] else Value.tuple ys.toArray) = v → (results fn fr.tmps).run C.P w = .ok v w := by
      intro v hv
      have : results fn fr.tmps = (do let vs ← fn.results.mapM (slot a); pure (if h : vs.size = 1 then vs[0] else .tuple vs)) := by
        unfold results; rw [h5]; rfl
      rw [this]
      simp only [Sem.run_bind, hm, Result.andThen_ok, Sem.run_pure, hv]
    have hl := hv.length
    match vs, ys, hl, hv, h, hres2 with
    | [x], [y], _, hv, h, hres2 =>
      simp only [VRs] at hv
      obtain ⟨y', ys', e, hv, e'⟩ := hv
      subst e'
      simp only [List.cons.injEq, and_true] at e; subst e
      refine ⟨y, ⟨x, σ.h, σ.n, ι, S, h.2, hs.mem, hv⟩, h1, h2, h3, fn, by rw [h4]; exact hf, ?_⟩
      exact hres2 _ (by simp)
    | [], [], _, hv, h, hres2 =>
      refine ⟨.tuple #[], ⟨_, σ.h, σ.n, ι, S, h.2, hs.mem, by simp [tupOf, VR, VRs]⟩, h1, h2, h3, fn, by rw [h4]; exact hf, ?_⟩
      exact hres2 _ (by simp)
    | x :: x' :: xs, y :: y' :: ys, _, hv, h, hres2 =>
      refine ⟨.tuple (y :: y' :: ys).toArray, ⟨_, σ.h, σ.n, ι, S, h.2, hs.mem, by simp only [tupOf, VR]; exact ⟨_, rfl, hv⟩⟩, h1, h2, h3, fn, by rw [h4]; exact hf, ?_⟩
      exact hres2 _ (by simp)
  · exact h.elim

theorem suf_get {all : List Oper} {o : Oper} {os : List Oper} (h : o :: os <:+ all) : all.toArray[all.length - (o :: os).length]? = some o ∧ all.length - os.length = all.length - (o :: os).length + 1 := by
  obtain ⟨pre, rfl⟩ := h
  refine ⟨?_, ?_⟩
  · simp
  · simp; omega

theorem guard_sound {σ : St} {ι : Nat → Loc} {S : Nat → Prop} {a : Act} {w : World} (hs : Sim C.E C.N σ ι S a w) {all : List Oper} {o : Oper} {c : Bool} (h : guardOf all σ o.guard = some c) :
    Region.wanted o (yielded all.toArray a.tmps) = c := by
  unfold guardOf at h
  split at h
  · rename_i hg
    simp only [Option.some.injEq] at h
    simp [Region.wanted, hg, h]
  · rename_i j want hg
    split at h
    · rename_i d hd
      unfold gd at h
      split at h
      · rename_i c1 b h1
        simp only [Option.some.injEq] at h
        simp only [Region.wanted, hg]
        have hd' : (all.toArray[j]?).bind (·.dst) = some d := by simpa using hd
        simp only [yielded, hd', Option.bind_some]
        unfold ev evo evs at h1
        split at h1
        · rename_i v0 hl
          have hv := hs.tm d v0 hl
          simp only [Option.some.injEq] at h1
          cases v0
          case g x =>
            simp only [strip, Prod.mk.injEq] at h1
            obtain ⟨rfl, _⟩ := h1
            simp only [VR] at hv
            cases hx : a.tmps[d]? with
            | none => simp [← h]
            | some z =>
              have : z = undef := by simpa [Array.getD_eq_getD_getElem?, hx] using hv
              subst this
              simp [← h, undef]
          all_goals
            simp only [strip, Prod.mk.injEq] at h1
            obtain ⟨rfl, h1⟩ := h1
            first
              | cases h1; done
              | (simp only [AV.f.injEq] at h1
                 subst h1
                 have hv := vr_bool hv
                 cases hx : a.tmps[d]? with
                 | none => simp [Array.getD_eq_getD_getElem?, hx, undef] at hv
                 | some z =>
                   have : z = .bool b := by simpa [Array.getD_eq_getD_getElem?, hx] using hv
                   subst this
                   cases want <;> cases b <;> simp [← h])
        · cases h1
      · cases h
    · cases h


theorem okOps_mem {N : Nat} {all : List Oper} (h : okOps N all = true) {o : Oper} (ho : o ∈ all) : ∀ d, o.dst = some d → d < N := by
  intro d hd
  simp only [okOps, List.all_eq_true, Bool.and_eq_true] at h
  have := (h o ho).1
  rw [hd] at this
  simpa using this
theorem okOps_nd {N : Nat} {all : List Oper} (h : okOps N all = true) {o : Oper} (ho : o ∈ all) : noDefer o.op = true := by
  simp only [okOps, List.all_eq_true, Bool.and_eq_true] at h
  exact (h o ho).2

/-- one operation of a region -/
theorem at_step {all os : List Oper} {o : Oper} {k : List Item} {σ : St} {ι : Nat → Loc} {S : Nat → Prop} {a : Act} {w : World}
    (hw : ∀ c, guardOf all σ o.guard = some c → c = true → o.wp C.P a w (fun a' w' => At C all os k a' w') (QN C k))
    (hw' : ∀ c, guardOf all σ o.guard = some c → c = false → At C all os k (a.put o.dst undef) w)
    (hs : Sim C.E C.N σ ι S a w) {c : Bool} (hg : guardOf all σ o.guard = some c) (hsuf : o :: os <:+ all) (hok : okOps C.N all = true) : At C all (o :: os) k a w := by
  obtain ⟨h1, h2⟩ := suf_get hsuf
  have hwant := guard_sound hs hg
  unfold At
  rw [show (o :: os).length = os.length + 1 from rfl] at h1 h2 ⊢
  rw [List.range'_succ]
  simp only [wpOpsIn, h1]
  have hnd := okOps_nd hok (hsuf.subset (List.mem_cons_self ..))
  have hrest : wpOpsIn C.F 0 C.P all.toArray (QN C k) (List.range' (all.length - (os.length + 1) + 1) os.length) = fun a' w' => At C all os k a' w' := by
    funext a' w'
    rw [At, h2]
  rw [hwant, hrest]
  cases c with
  | true => simpa using wp_in hnd (hw true hg rfl)
  | false =>
    simp only [Bool.false_eq_true, if_false]
    exact ⟨fun f _ => C.F_fn f, hw' false hg rfl⟩

theorem wp_of_good {o : Oper} {a : Act} {w : World} {v : AV} {σ' : St} {k : List Item} {next : Act → World → Prop} (hgood : Good C.P C.E C.N a w (execOp a.eval o) v σ') (hd : ∀ d, o.dst = some d → d < C.N)
    (h : ∀ ι S a' w', Sim C.E C.N (σ'.put o.dst v) ι S a' w' → next a' w') : o.wp C.P a w next (QN C k) := by
  obtain ⟨y, w', ι', S', hr, hs', hv⟩ := hgood
  have := h ι' S' _ w' (hs'.put hd hv)
  unfold Oper.wp
  rcases hr with hr | ⟨hr, rfl⟩
  · rw [hr, Oper.upon_value]; exact this
  · rw [hr, Oper.upon_skip]; exact this

theorem put_false {σ : St} {ι : Nat → Loc} {S : Nat → Prop} {a : Act} {w : World} (hs : Sim C.E C.N σ ι S a w) {d : Option Nat} (hd : ∀ d', d = some d' → d' < C.N) (v : AV) : Sim C.E C.N (σ.put d (mkg false v)) ι S (a.put d undef) w :=
  hs.put hd (by simp [mkg, VR])

theorem awc_sound {n : Nat} (ih : ∀ all os k σ, AWn C n all os k σ → AW C all os k σ) {all os : List Oper} {k : List Item} {o : Oper} {σ : St} {c : Bool} (hg : guardOf all σ o.guard = some c) (h : AWc C n all os k c o σ (aop (tk C.P) σ o.op)) : AW C all (o :: os) k σ := by
  cases hr : aop (tk C.P) σ o.op with
  | bad => rw [hr] at h; simpa [AWc] using h
  | call need f args =>
    rw [hr] at h
    simp only [AWc, ACall] at h
    exact h hg hr
  | val need v σ' =>
    rw [hr] at h
    simp only [AWc] at h
    obtain ⟨hn, h⟩ := h
    intro ok hsuf hok hki ι S a w hs
    have hd := okOps_mem hok (hsuf.subset (List.mem_cons_self ..))
    have hsuf' : os <:+ all := (List.suffix_cons o os).trans hsuf
    refine at_step (σ := σ) ?_ ?_ hs hg hsuf hok
    · intro c' hc' hct
      rw [hg] at hc'; simp only [Option.some.injEq] at hc'
      subst hc' hct
      refine wp_of_good (aop_sound hs hr (hn rfl)) hd ?_
      intro ι' S' a' w' hs'
      exact ih _ _ _ _ h ok hsuf' hok hki ι' S' a' w' hs'
    · intro c' hc' hct
      rw [hg] at hc'; simp only [Option.some.injEq] at hc'
      subst hc' hct
      exact ih _ _ _ _ h ok hsuf' hok hki ι S _ w (put_false hs hd _)

theorem AWn_sound : ∀ (n : Nat) (all os : List Oper) (k : List Item) (σ : St), AWn C n all os k σ → AW C all os k σ := by
  intro n
  induction n with
  | zero => intro all os k σ h; simpa only [AWn] using h
  | succ n ih =>
    intro all os k σ h
    cases os with
    | cons o os =>
      simp only [AWn] at h
      cases hg : guardOf all σ o.guard with
      | none => rw [hg] at h; simpa [AWg] using h
      | some c =>
        rw [hg] at h
        simp only [AWg] at h
        exact awc_sound ih hg h
    | nil =>
      intro ok hsuf hok hki ι S a w hs
      rw [at_nil]
      have leave : ∀ j : Option Code, jOK j = true → aEnd C σ j C.ro → Leave j k → (C.ro = none → ∀ (b : Frame) (cs : List Frame), b.roundOf = none → ∃ k', step C.P (lone (b.atR a k) cs w) = .next (lone { b.atR a k' with mode := .returning } cs w)) → Goes C k a w := by
        intro j hj hr hlv hst b cs h1 h2 h3
        unfold Done
        split
        · rename_i hro
          rw [hro] at hr h3
          obtain ⟨k', hst⟩ := hst hro b cs h3
          obtain ⟨v, w', fr, hΦ, hsteps, hfn, hl⟩ := ok.fin hro σ ι S a w hs hr b cs k' h1 h2 h3
          exact ⟨v, w', fr, hΦ, .head hst hsteps, hfn, hl⟩
        · rename_i l hro
          rw [hro] at hr
          exact ⟨j, a, w, k, ok.finR (by rw [hro]; simp) j σ ι S a w hj hs hr, Steps.refl _ _, hlv⟩
      cases k with
      | nil =>
        simp only [AWn] at h
        exact leave none rfl h rfl (fun _ b cs hb => ⟨[], stepR_end hb⟩)
      | cons x k =>
        simp only [okItems, List.all_cons, Bool.and_eq_true] at hki
        have hkk : okItems C.N k = true := hki.2
        have nx : ∀ k', AWn C n [] [] k' σ → okItems C.N k' = true → Goes C k' a w := fun k' h' hok' => at_nil.1 (ih _ _ _ _ h' ok (List.suffix_refl _) rfl hok' ι S a w hs)
        have aw : ∀ k', AW C [] [] k' σ → okItems C.N k' = true → Goes C k' a w := fun k' h' hok' => at_nil.1 (h' ok (List.suffix_refl _) rfl hok' ι S a w hs)
        have hself : okItems C.N (x :: k) = true := by simp only [okItems, List.all_cons, Bool.and_eq_true]; exact hki
        cases x with
        | code c =>
          have hc : okCode C.N c = true := hki.1
          cases c with
          | skip => simp only [AWn] at h; exact .head (fun _ _ => stepR_skip) (nx _ h hkk)
          | region id ops d =>
            simp only [AWn] at h
            cases d with
            | true =>
              simp only [AWd, ADr, Array.toArray_toList] at h
              exact aw _ h hself
            | false =>
              simp only [AWd] at h
              refine goes_of_wpIn (wpIn_region ?_)
              have := ih _ _ _ _ h ok (List.suffix_refl _) hc hkk ι S a w hs
              simpa [At, List.range_eq_range'] using this
          | seq x y =>
            simp only [AWn] at h
            simp only [okCode, Bool.and_eq_true] at hc
            exact .head (fun _ _ => stepR_seq) (nx _ h (by simp only [okItems, List.all_cons, Bool.and_eq_true, okItem]; exact ⟨hc.1, hc.2, hkk⟩))
          | cond c x y =>
            simp only [AWn] at h
            simp only [okCode, Bool.and_eq_true] at hc
            unfold AWi at h
            split at h
            · rename_i c1 b h1
              obtain ⟨hc1, h⟩ := h
              have e1 := vr_bool (ev_sound hs h1 hc1)
              refine .head (fun _ _ => stepR_cond e1) (nx _ ?_ ?_)
              · cases b <;> simpa [BR] using h
              · simp only [okItems, List.all_cons, Bool.and_eq_true, okItem]
                cases b <;> simp only [if_true, if_false, Bool.false_eq_true]
                · exact ⟨hc.2, hkk⟩
                · exact ⟨hc.1, hkk⟩
            · exact h.elim
          | block id c =>
            simp only [AWn] at h
            simp only [okCode] at hc
            exact .head (fun _ _ => stepR_block) (nx _ h (by simp only [okItems, List.all_cons, Bool.and_eq_true, okItem]; exact ⟨hc, trivial, hkk⟩))
          | loop c =>
            simp only [AWn, AL] at h
            simp only [okCode] at hc
            exact .head (fun _ _ => stepR_loop) (aw _ h (by simp only [okItems, List.all_cons, Bool.and_eq_true, okItem]; exact ⟨hc, hc, hkk⟩))
          | rangeFunc => simp only [AWn] at h; exact aw _ h hself
          | exit id =>
            simp only [AWn] at h
            cases hx : exitTo id k with
            | none =>
              rw [hx] at h
              simp only [AWx] at h
              unfold aOut at h
              split at h
              · exact h.elim
              · rename_i l hro
                refine leave (some (.exit id)) rfl (by rw [hro]; exact h) ⟨k, rfl, hx⟩ (fun hn => by rw [hro] at hn; cases hn)
            | some k' =>
              rw [hx] at h
              simp only [AWx] at h
              exact .head (fun _ _ => stepR_exit hx) (nx _ h (exitTo_ok hx hkk))
          | scope => simp only [AWn] at h; exact aw _ h hself
          | label => simp only [AWn] at h; exact .head (fun _ _ => stepR_label) (nx _ h hkk)
          | goto => simp only [AWn] at h; exact aw _ h hself
          | ret => simp only [AWn] at h; exact leave (some .ret) rfl h ⟨k, rfl⟩ (fun _ b cs hb => ⟨_, stepR_ret hb⟩)
          | refuse => simp only [AWn] at h; exact aw _ h hself
        | inBlock id => simp only [AWn] at h; exact .head (fun _ _ => stepR_inBlock) (nx _ h hkk)
        | inLoop c =>
          simp only [AWn, AL] at h
          have hc : okCode C.N c = true := hki.1
          exact .head (fun _ _ => stepR_inLoop) (aw _ h (by simp only [okItems, List.all_cons, Bool.and_eq_true, okItem]; exact ⟨hc, hc, hkk⟩))
        | _ => simp only [AWn] at h; exact aw _ h hself
end
end Go.Fw

set_option linter.unusedVariables false
namespace Go.Fw
open Go

theorem calls_of_goes {C : Cx} {fn : Func} {c : Code} (hro : C.ro = none) (hf : C.P.funcs[C.f]? = some fn) (hb : fn.body = some c) {args : Array Value} {w : World}
    (h : Goes C [.code c] ⟨args ++ Array.replicate (fn.ntmps - args.size) undef, []⟩ w) : Calls C.P C.f args w fun e w' => ∃ v, e = .returned v ∧ C.Φ v w' := by
  intro cs
  have henter : Frame.enter C.P C.f args .normal = ({ (default : Frame) with fn := C.f, kind := .normal, roundOf := none } : Frame).atR ⟨args ++ Array.replicate (fn.ntmps - args.size) undef, []⟩ [.code c] := by
    simp [Frame.enter, Frame.atR, hf, hb]
  have hd := h { (default : Frame) with fn := C.f, kind := .normal, roundOf := none } cs rfl rfl hro.symm
  unfold Done at hd
  rw [hro] at hd
  obtain ⟨v, w', fr, hF, hs, hfn, hl⟩ := hd
  exact ⟨.returned v, w', fr, ⟨v, rfl, hF⟩, by rw [henter]; exact hs, hfn, hl⟩

/-- a function's context without marks -/
theorem Cx.Ok.plain {C : Cx} {fn : Func} (hf : C.P.funcs[C.f]? = some fn) (hr : fn.results.toList = C.res) (hm : C.P.follows .mixedOrders = true) (hro : C.ro = none) (hd : C.E.defs = []) (hΦ : ∀ v w', Fin C v w' → C.Φ v w') : C.Ok where
  fn := ⟨fn, hf, hr⟩
  mixed := hm
  fin := by
    intro _ σ ι S a w hs hret b cs todo h1 h2 h3
    obtain ⟨v, hF, hl⟩ := aRet_sound (C := C) (fr := { b.atR a todo with mode := .returning }) ⟨fn, hf, hr⟩ hs hret rfl (by show a.defers = []; rw [hs.def0, hd]) (by simpa [Frame.atR] using h2) (by simpa [Frame.atR] using h1) rfl
    exact ⟨v, w, _, hΦ v w hF, Steps.refl _ _, by simpa [Frame.atR] using h1, hl⟩
  finR := fun h => absurd hro h

def slots (i : Nat) : List AV → List (Nat × AV)
  | [] => []
  | x :: xs => (i, x) :: slots (i + 1) xs
theorem lk_slots : ∀ (xs : List AV) (i t : Nat) {v : AV}, lk t (slots i xs) = some v → ∃ j, t = i + j ∧ xs[j]? = some v
  | [], i, t, v, h => by simp [slots, lk] at h
  | x :: xs, i, t, v, h => by
    simp only [slots, lk_cons] at h
    split at h
    · rename_i e
      simp only [Option.some.injEq] at h
      exact ⟨0, by simp [e], by simp [h]⟩
    · obtain ⟨j, e, hj⟩ := lk_slots xs (i + 1) t h
      exact ⟨j + 1, by omega, by simpa using hj⟩

theorem sim_entry {E : Ent} {N : Nat} {args : List AV} {h : Heap} {n : Nat} {ι : Nat → Loc} {S : Nat → Prop} {w : World} {vals : Array Value} (hm : Mem E h n ι S w) (hv : VRs S ι n w args vals.toList) (hN : args.length ≤ N) (hd : E.defs = []) :
    Sim E N ⟨slots 0 args, h, n⟩ ι S ⟨vals ++ Array.replicate (N - vals.size) undef, []⟩ w where
  mem := hm
  tsz := by
    have := hv.length
    simp at this
    simp; omega
  tm t v hl := by
    obtain ⟨j, e, hj⟩ := lk_slots _ _ _ hl
    simp only [Nat.zero_add] at e; subst e
    obtain ⟨y, hy, hvy⟩ := hv.get hj
    have hlt : t < vals.size := by
      have := (List.getElem?_eq_some_iff.1 hy).1
      simpa using this
    have : (vals ++ Array.replicate (N - vals.size) undef).getD t undef = y := by
      simp only [Array.getD_eq_getD_getElem?, Array.getElem?_append_left hlt]
      simp only [Array.getElem?_toList] at hy
      rw [hy]; rfl
    simpa [this] using hvy
  def0 := hd.symm

/-- a promise on frozen values: nothing that was there turns; the result is such a one -/
def PC (P : Program) (f : FuncId) (args : List FV) (Φ : FV → Prop) : Prop :=
  ∀ (S : Nat → Prop) (w : World) (vals : Array Value), (∀ b, S b → b < w.heap.size) → FRs S w args vals.toList →
    Calls P f vals w fun e w' => ∃ v r S', e = .returned v ∧ Φ r ∧ (∀ b, S b → S' b) ∧ (∀ b, S' b → S b ∨ (w.heap.size ≤ b ∧ b < w'.heap.size)) ∧ Quiet w w' ∧ FR S' w' r v

theorem PC.mono {P : Program} {f : FuncId} {args : List FV} {Φ Ψ : FV → Prop} (h : PC P f args Φ) (hi : ∀ r, Φ r → Ψ r) : PC P f args Ψ := by
  intro S w vals hS hv
  refine (h S w vals hS hv).mono ?_
  rintro e w' ⟨v, r, S', h1, h2, h3⟩
  exact ⟨v, r, S', h1, hi r h2, h3⟩

def RFo (Φ : FV → Prop) : Option (Prop × FV × St) → Prop
  | some (c, y, _) => c ∧ Φ y
  | none => False
def RF (Φ : FV → Prop) (av : AV) (σ : St) : Prop := RFo Φ (release σ av)

theorem fin_RF {C : Cx} {Φ : FV → Prop} (hR : C.R = RF Φ) (hown : ∀ b, ¬ C.E.own b) {v : Value} {w' : World} (h : Fin C v w') :
    ∃ r S', Φ r ∧ (∀ b, C.E.S b → S' b) ∧ (∀ b, S' b → C.E.S b ∨ (C.E.w.heap.size ≤ b ∧ b < w'.heap.size)) ∧ Quiet C.E.w w' ∧ FR S' w' r v := by
  obtain ⟨av, h, n, ι, S, hr, hm, hv⟩ := h
  rw [hR] at hr
  unfold RF RFo at hr
  split at hr
  · rename_i c y σ' hrel
    have hs : Sim C.E 0 ⟨[], h, n⟩ ι S ⟨#[], C.E.defs⟩ w' := ⟨hm, rfl, fun t v h => by simp [lk] at h, rfl⟩
    obtain ⟨S', hS, hs', hf, _, _⟩ := release_sound av hs hrel hr.1 hv
    refine ⟨y, S', hr.2, fun b hb => hS b (hm.ssup b hb), fun b hb => ?_, ⟨fun b hb => ?_, hm.size, hm.os, hm.tape, hm.output⟩, hf⟩
    · rcases hs'.mem.ssub b hb with h | h | h
      · exact .inl h
      · exact absurd h (hown b)
      · exact .inr ⟨h, hs'.mem.slt b hb⟩
    · exact hm.keep b hb (hown b)
  · exact hr.elim

def okFn (fn : Func) (n : Nat) : Bool := match fn.body with
  | some c => okCode fn.ntmps c && decide (n ≤ fn.ntmps)
  | none => false

theorem PC.intro {P : Program} {f : FuncId} {fn : Func} {c : Code} {args : List FV} {Φ : FV → Prop} (n : Nat) (hf : P.funcs[f]? = some fn) (hm : P.follows .mixedOrders = true) (hb : fn.body = some c) (hok : okFn fn args.length = true)
    (h : ∀ E : Ent, E.n = 0 → ∀ Ph Ps, AWn ⟨P, f, fn.ntmps, fn.results.toList, E, RF Φ, none, Ph, Ps⟩ n [] [] [.code c] ⟨slots 0 (args.map .f), [], 0⟩) : PC P f args Φ := by
  intro S w vals hS hv
  let E : Ent := ⟨w, fun _ => ⟨none, 0⟩, 0, fun _ => False, S, []⟩
  let C : Cx := ⟨P, f, fn.ntmps, fn.results.toList, E, RF Φ, none, fun v w' => ∃ r S', Φ r ∧ (∀ b, S b → S' b) ∧ (∀ b, S' b → S b ∨ (w.heap.size ≤ b ∧ b < w'.heap.size)) ∧ Quiet w w' ∧ FR S' w' r v, fun _ _ => False⟩
  simp only [okFn, hb, Bool.and_eq_true, decide_eq_true_eq] at hok
  have hmem : Mem E [] 0 E.ι S w :=
    { obj := fun id o h => by simp [lk] at h
      own := fun id o b h => by simp [lk] at h
      inj := fun id id' o o' b h => by simp [lk] at h
      slt := hS
      ssub := fun b h => .inl h
      ssup := fun b h => h
      keep := fun b hb _ => rfl
      size := Nat.le_refl _
      os := rfl
      tape := rfl
      output := rfl
      names := Nat.le_refl _
      same := fun _ h => rfl }
  have hs : Sim E fn.ntmps ⟨slots 0 (args.map .f), [], 0⟩ E.ι S ⟨vals ++ Array.replicate (fn.ntmps - vals.size) undef, []⟩ w :=
    sim_entry hmem (VRs_map_f.2 hv) (by simpa using hok.2) rfl
  have ok : C.Ok := Cx.Ok.plain (C := C) hf rfl hm rfl rfl fun v w' hF => fin_RF (C := C) rfl (fun _ h => h) hF
  have hg : Goes C [.code c] ⟨vals ++ Array.replicate (fn.ntmps - vals.size) undef, []⟩ w :=
    at_nil.1 (AWn_sound n [] [] _ _ (h E rfl _ _) ok (List.suffix_refl _) rfl (by simp [okItems, okItem, hok.1]) _ _ _ _ hs)
  refine (calls_of_goes (C := C) rfl hf hb hg).mono ?_
  rintro e w' ⟨v, rfl, r, S', h1, h2, h3, h4, h5⟩
  exact ⟨v, r, S', rfl, h1, h2, h3, h4, h5⟩

/-- a call that works on frozen values alone -/
theorem wp_pure {C : Cx} {o : Oper} {a : Act} {w w0 : World} {f : FuncId} {vals : Array Value} {args : List FV} {Φ : FV → Prop} {next : Act → World → Prop} {k : List Item} (hrun : (execOp a.eval o).run C.P w = .ok (.enter f vals) w)
    (hpc : PC C.P f args Φ) {σ : St} {ι : Nat → Loc} {S : Nat → Prop} (hs : Sim C.E C.N σ ι S a w) (hv : FRs S w args vals.toList) (hd : ∀ d, o.dst = some d → d < C.N)
    (h : ∀ r S' a' w', Φ r → Sim C.E C.N (σ.put o.dst (.f r)) ι S' a' w' → next a' w') : o.wp C.P a w next (QN C k) := by
  unfold Oper.wp
  rw [hrun, Oper.upon_enter]
  refine (hpc S w vals hs.mem.slt hv).mono ?_
  rintro e w' ⟨v, r, S', rfl, hΦ, h1, h2, hq, hr⟩
  have hs' : Sim C.E C.N σ ι S' a w' := (hs.quiet hq).more h1 (fun b hb => (h2 b hb).imp id fun ⟨h3, h4⟩ =>
    ⟨h4, .inr (Nat.le_trans hs.mem.size h3), fun id o hl hb' => absurd (hs.mem.own id o b hl hb').1 (by omega)⟩)
  exact h r S' _ w' hΦ (hs'.put hd (by simpa only [VR] using hr))

mutual
/-- a value that is frozen as it stands -/
def AV.fz : AV → Option FV
  | .f x => some x
  | .agg xs => match AV.fzs xs with | some ys => some (.agg ys) | none => none
  | .tup xs => match AV.fzs xs with | some ys => some (.tup ys) | none => none
  | .clo q a b => match AV.fzs a, AV.fzs b with | some x, some y => some (.clo q x y) | _, _ => none
  | _ => none
def AV.fzs : List AV → Option (List FV)
  | [] => some []
  | x :: xs => match AV.fz x, AV.fzs xs with | some y, some ys => some (y :: ys) | _, _ => none
end
mutual
theorem fz_sound {S : Nat → Prop} {ι : Nat → Loc} {n : Nat} {w : World} : ∀ (x : AV) {y : FV} {v : Value}, x.fz = some y → VR S ι n w x v → FR S w y v
  | .f x, y, v, h, hv => by simp only [AV.fz, Option.some.injEq] at h; subst h; simpa only [VR] using hv
  | .agg xs, y, v, h, hv => by
    simp only [AV.fz] at h
    split at h
    · rename_i ys h1
      simp only [Option.some.injEq] at h; subst h
      simp only [VR] at hv; obtain ⟨zs, e, h2, h3⟩ := hv
      simp only [FR]; exact ⟨zs, e, fzs_sound xs h1 h2, h3⟩
    · cases h
  | .tup xs, y, v, h, hv => by
    simp only [AV.fz] at h
    split at h
    · rename_i ys h1
      simp only [Option.some.injEq] at h; subst h
      simp only [VR] at hv; obtain ⟨zs, e, h2⟩ := hv
      simp only [FR]; exact ⟨zs, e, fzs_sound xs h1 h2⟩
    · cases h
  | .clo f a b, y, v, h, hv => by
    simp only [AV.fz] at h
    split at h
    · rename_i p q h1 h2
      simp only [Option.some.injEq] at h; subst h
      simp only [VR] at hv; obtain ⟨fs, cs, e, h3, h4⟩ := hv
      simp only [FR]; exact ⟨fs, cs, e, fzs_sound a h1 h3, fzs_sound b h2 h4⟩
    · cases h
  | .ptr _ _, _, _, h, _ => by simp [AV.fz] at h
  | .rp _ _ _ _, _, _, h, _ => by simp [AV.fz] at h
  | .sl _ _ _ _, _, _, h, _ => by simp [AV.fz] at h
  | .mp _, _, _, h, _ => by simp [AV.fz] at h
  | .it _, _, _, h, _ => by simp [AV.fz] at h
  | .g _, _, _, h, _ => by simp [AV.fz] at h
theorem fzs_sound {S : Nat → Prop} {ι : Nat → Loc} {n : Nat} {w : World} : ∀ (xs : List AV) {ys : List FV} {vs : List Value}, AV.fzs xs = some ys → VRs S ι n w xs vs → FRs S w ys vs
  | [], ys, vs, h, hv => by simp only [AV.fzs, Option.some.injEq] at h; subst h; simpa only [VRs, FRs] using hv
  | x :: xs, ys, vs, h, hv => by
    simp only [AV.fzs] at h
    split at h
    · rename_i y ys' h1 h2
      simp only [Option.some.injEq] at h; subst h
      simp only [VRs] at hv; obtain ⟨z, zs, e, h3, h4⟩ := hv
      simp only [FRs]; exact ⟨z, zs, e, fz_sound x h1 h3, fzs_sound xs h2 h4⟩
    · cases h
end

section
variable {C : Cx} {n : Nat} {all os : List Oper} {o : Oper} {k : List Item} {σ : St} {c : Bool} {need : Prop} {f : FuncId} {args : List AV}

theorem call_val {op : Op} {need : Prop} {f : FuncId} {args : List AV} (h : aop (tk C.P) σ op = .call need f args) : ∃ c x, op = .call c ∧ c.callee = .value x ∧ aCallV (ev σ x) (evl σ c.args.toList) = .call need f args := by
  cases op <;> simp only [aop, reduceCtorEq] at h
  case call cl =>
    split at h
    · exfalso; revert h; split <;> simp only [aLen, reduceCtorEq, false_imp_iff] <;> (repeat' split) <;> simp
    · exfalso; revert h; split <;> simp only [aAppend, apT, apE, apRow, reduceCtorEq, false_imp_iff] <;> (repeat' split) <;> simp
    · rename_i x hc; exact ⟨cl, x, rfl, hc, h⟩
    · cases h
  case unOp op T x => exfalso; revert h; cases op <;> simp only [aNot, aNeg, aXor, reduceCtorEq, false_imp_iff] <;> (repeat' split) <;> simp
  case slice T x lo hi mx => exfalso; revert h; cases mx <;> simp only [aSlice, slStr, slF, slO, reduceCtorEq, false_imp_iff] <;> (repeat' split) <;> simp
  case next => exfalso; revert h; simp only [aNext]; (repeat' split) <;> first | (simp; done) | (rename_i s pos _; cases hp : decide (pos < s.length) <;> simp [nextS])
  all_goals
    exfalso; revert h
    simp only [aMove, aPick, aBin, resV, aConv, aNil, aAlloc, newCells, aBox, aLoad, ldAgg, aStore, aStoreRow, aFieldAddr, aField, partOf, aIndexAddr, idxAddrE, arrAddrE, aIndex, arrIdx, aExtract, aBuild, aggRes, aBuildSlice, bslE, bslRes, aMakeSlice, mkSl, aRange, aMkFunc]
    (repeat' split) <;> simp

/-- a call under no guard, or under one that holds -/
theorem ACall.pure (as : List FV) (Φ : FV → Prop) (hf : enters C.P f = true) (hpc : PC C.P f as Φ) (ha : AV.fzs args = some as) (hn : need) (hk : ∀ r, Φ r → AWn C n all os k (σ.put o.dst (.f r))) :
    ACall C n all o os k σ true need f args := by
  intro hg hop ok hsuf hok hki ι S a w hs
  obtain ⟨cl, x, ho, hcal, hcall⟩ := call_val hop
  have hd := okOps_mem hok (hsuf.subset (List.mem_cons_self ..))
  have hsuf' : os <:+ all := (List.suffix_cons o os).trans hsuf
  refine at_step (σ := σ) ?_ ?_ hs hg hsuf hok
  · intro c' hc' _
    obtain ⟨vals, hrun, hv⟩ := s_call hs ho hcal hcall hn hf
    refine wp_pure (w0 := w) hrun hpc hs (fzs_sound _ ha hv) hd ?_
    intro r S' a' w' hΦ hs'
    exact AWn_sound _ _ _ _ _ (hk r hΦ) ok hsuf' hok hki ι S' a' w' hs'
  · intro c' hc' hct
    rw [hg] at hc'; simp only [Option.some.injEq] at hc'
    rw [← hc'] at hct; cases hct

/-- a call under a guard -/
theorem ACall.pureG (as : List FV) (r : FV) (hf : c = true → enters C.P f = true) (hpc : c = true → PC C.P f as (· = r)) (ha : c = true → AV.fzs args = some as) (hn : c = true → need) (hk : AWn C n all os k (σ.put o.dst (mkg c (.f r)))) :
    ACall C n all o os k σ c need f args := by
  cases c with
  | true => exact ACall.pure as _ (hf rfl) (hpc rfl) (ha rfl) (hn rfl) (by rintro _ rfl; exact hk)
  | false =>
    intro hg hop ok hsuf hok hki ι S a w hs
    have hd := okOps_mem hok (hsuf.subset (List.mem_cons_self ..))
    have hsuf' : os <:+ all := (List.suffix_cons o os).trans hsuf
    refine at_step (σ := σ) ?_ ?_ hs hg hsuf hok
    · intro c' hc' hct
      rw [hg] at hc'; simp only [Option.some.injEq] at hc'
      rw [← hc'] at hct; cases hct
    · intro c' hc' hct
      exact AWn_sound _ _ _ _ _ hk ok hsuf' hok hki ι S _ w (put_false hs hd _)
end
end Go.Fw

set_option linter.unusedVariables false
namespace Go.Fw
open Go

/-- whatever stands as the first says stands as the second says -/
def Imp (E : Ent) (σ σ' : St) : Prop := ∀ N ι S a w, Sim E N σ ι S a w → ∃ ι' S', Sim E N σ' ι' S' a w
theorem Imp.refl (E : Ent) (σ : St) : Imp E σ σ := fun _ ι S _ _ h => ⟨ι, S, h⟩
theorem Imp.trans {E : Ent} {σ σ' σ'' : St} (h : Imp E σ σ') (h' : Imp E σ' σ'') : Imp E σ σ'' := fun N ι S a w hs =>
  let ⟨ι', S', hs'⟩ := h N ι S a w hs
  h' N ι' S' a w hs'
theorem AW.imp {C : Cx} {all os : List Oper} {k : List Item} {σ σ' : St} (h : Imp C.E σ σ') (h' : AW C all os k σ') : AW C all os k σ := fun ok hsuf hok hki ι S a w hs =>
  let ⟨ι', S', hs'⟩ := h C.N ι S a w hs
  h' ok hsuf hok hki ι' S' a w hs'
theorem AL.imp {C : Cx} {c : Code} {k : List Item} {σ σ' : St} (h : Imp C.E σ σ') (h' : AL C c k σ') : AL C c k σ := AW.imp h h'

def rn (τ : List (Nat × Nat)) (i : Nat) : Nat := match lk i τ with | some j => j | none => i
mutual
def AV.ren (τ : Nat → Nat) : AV → AV
  | .f x => .f x
  | .agg xs => .agg (AV.rens τ xs)
  | .tup xs => .tup (AV.rens τ xs)
  | .ptr id off => .ptr (τ id) off
  | .rp id sz i off => .rp (τ id) sz i off
  | .sl id sz off len => .sl (τ id) sz off len
  | .mp id => .mp (τ id)
  | .it id => .it (τ id)
  | .clo q a b => .clo q (AV.rens τ a) (AV.rens τ b)
  | .g x => .g x
def AV.rens (τ : Nat → Nat) : List AV → List AV
  | [] => []
  | x :: xs => AV.ren τ x :: AV.rens τ xs
end
mutual
def AV.und (m : Nat) : AV → Prop
  | .f _ => True
  | .agg xs => AV.unds m xs
  | .tup xs => AV.unds m xs
  | .ptr id _ => id < m
  | .rp id _ _ _ => id < m
  | .sl id _ _ _ => id < m
  | .mp id => id < m
  | .it id => id < m
  | .clo _ a b => AV.unds m a ∧ AV.unds m b
  | .g _ => True
def AV.unds (m : Nat) : List AV → Prop
  | [] => True
  | x :: xs => AV.und m x ∧ AV.unds m xs
end
def AO.ren (τ : Nat → Nat) : AO → AO
  | .cells T cs => .cells T (AV.rens τ cs)
  | o => o
def AO.und (m : Nat) : AO → Prop
  | .cells _ cs => AV.unds m cs
  | _ => True

section
variable {S : Nat → Prop} {ι : Nat → Loc} {n m : Nat} {w : World} {τ : Nat → Nat}
mutual
theorem ren_sound : ∀ (x : AV) {y : Value}, VR S ι n w (x.ren τ) y → x.und m → VR S (fun i => ι (τ i)) m w x y
  | .f x, y, h, _ => by simpa only [AV.ren, VR] using h
  | .agg xs, y, h, hb => by
    simp only [AV.ren, VR, AV.und] at h hb ⊢
    obtain ⟨ys, e, h1, h2⟩ := h
    exact ⟨ys, e, rens_sound xs h1 hb, h2⟩
  | .tup xs, y, h, hb => by
    simp only [AV.ren, VR, AV.und] at h hb ⊢
    obtain ⟨ys, e, h1⟩ := h
    exact ⟨ys, e, rens_sound xs h1 hb⟩
  | .ptr _ _, y, h, hb => by simp only [AV.ren, VR, AV.und] at h hb ⊢; exact ⟨hb, h.2⟩
  | .rp _ _ _ _, y, h, hb => by simp only [AV.ren, VR, AV.und] at h hb ⊢; exact ⟨hb, h.2⟩
  | .sl _ _ _ _, y, h, hb => by simp only [AV.ren, VR, AV.und] at h hb ⊢; exact ⟨hb, h.2⟩
  | .mp _, y, h, hb => by simp only [AV.ren, VR, AV.und] at h hb ⊢; exact ⟨hb, h.2⟩
  | .it _, y, h, hb => by simp only [AV.ren, VR, AV.und] at h hb ⊢; exact ⟨hb, h.2⟩
  | .clo q a b, y, h, hb => by
    simp only [AV.ren, VR, AV.und] at h hb ⊢
    obtain ⟨fs, cs, e, h1, h2⟩ := h
    exact ⟨fs, cs, e, rens_sound a h1 hb.1, rens_sound b h2 hb.2⟩
  | .g _, y, h, _ => by simpa only [AV.ren, VR] using h
theorem rens_sound : ∀ (xs : List AV) {ys : List Value}, VRs S ι n w (AV.rens τ xs) ys → AV.unds m xs → VRs S (fun i => ι (τ i)) m w xs ys
  | [], ys, h, _ => by simpa only [AV.rens, VRs] using h
  | x :: xs, ys, h, hb => by
    simp only [AV.rens, VRs, AV.unds] at h hb ⊢
    obtain ⟨y, ys', e, h1, h2⟩ := h
    exact ⟨y, ys', e, ren_sound x h1 hb.1, rens_sound xs h2 hb.2⟩
end
theorem oren_sound : ∀ (o : AO) {l : Loc}, OR S ι n w l (o.ren τ) → o.und m → OR S (fun i => ι (τ i)) m w l o
  | .cells T cs, l, h, hb => by
    simp only [AO.ren, OR, AO.und] at h hb ⊢
    obtain ⟨b, vs, e, h1, h2, h3⟩ := h
    exact ⟨b, vs, e, h1, rens_sound cs h2 hb, h3⟩
  | .row T sz xs, l, h, hb => h
  | .map kv, l, h, hb => h
  | .mape kv st, l, h, hb => h
  | .siter s pos, l, h, hb => h
end

def subT (τ : List (Nat × Nat)) (m : Nat) (t : List (Nat × AV)) : List (Nat × AV) → Prop
  | [] => True
  | (i, v) :: l => lk i t = some (v.ren (rn τ)) ∧ v.und m ∧ subT τ m t l
def subH (τ : List (Nat × Nat)) (m : Nat) (h : Heap) : Heap → Prop
  | [] => True
  | (i, o) :: l => lk (rn τ i) h = some (o.ren (rn τ)) ∧ i < m ∧ o.und m ∧ subH τ m h l
def apart1 (τ : List (Nat × Nat)) (j : Nat) : Heap → Prop
  | [] => True
  | (i, _) :: l => j ≠ rn τ i ∧ apart1 τ j l
def apartH (τ : List (Nat × Nat)) : Heap → Prop
  | [] => True
  | (i, _) :: l => apart1 τ (rn τ i) l ∧ apartH τ l

theorem subT_spec {τ : List (Nat × Nat)} {m : Nat} {t : List (Nat × AV)} : ∀ {l : List (Nat × AV)}, subT τ m t l → ∀ i v, lk i l = some v → lk i t = some (v.ren (rn τ)) ∧ v.und m
  | [], _, i, v, h => by simp [lk] at h
  | (j, u) :: l, hs, i, v, h => by
    simp only [subT] at hs
    rw [lk_cons] at h
    split at h
    · rename_i e; subst e; simp only [Option.some.injEq] at h; subst h; exact ⟨hs.1, hs.2.1⟩
    · exact subT_spec hs.2.2 i v h
theorem subH_spec {τ : List (Nat × Nat)} {m : Nat} {h0 : Heap} : ∀ {l : Heap}, subH τ m h0 l → ∀ i o, lk i l = some o → lk (rn τ i) h0 = some (o.ren (rn τ)) ∧ i < m ∧ o.und m
  | [], _, i, v, h => by simp [lk] at h
  | (j, u) :: l, hs, i, v, h => by
    simp only [subH] at hs
    rw [lk_cons] at h
    split at h
    · rename_i e; subst e; simp only [Option.some.injEq] at h; subst h; exact ⟨hs.1, hs.2.1, hs.2.2.1⟩
    · exact subH_spec hs.2.2.2 i v h
theorem apart1_spec {τ : List (Nat × Nat)} {j : Nat} : ∀ {l : Heap}, apart1 τ j l → ∀ i o, lk i l = some o → j ≠ rn τ i
  | [], _, i, o, h => by simp [lk] at h
  | (k, u) :: l, hs, i, o, h => by
    simp only [apart1] at hs
    rw [lk_cons] at h
    split at h
    · rename_i e; subst e; exact hs.1
    · exact apart1_spec hs.2 i o h
theorem apartH_spec {τ : List (Nat × Nat)} : ∀ {l : Heap}, apartH τ l → ∀ i i' o o', lk i l = some o → lk i' l = some o' → rn τ i = rn τ i' → i = i'
  | [], _, i, _, o, _, h, _, _ => by simp [lk] at h
  | (k, u) :: l, hs, i, i', o, o', h, h', e => by
    simp only [apartH] at hs
    rw [lk_cons] at h h'
    split at h <;> split at h'
    · rename_i e1 e2; rw [e1, e2]
    · rename_i e1 e2; subst e1; exact absurd e (apart1_spec hs.1 i' o' h')
    · rename_i e1 e2; subst e2; exact absurd e.symm (apart1_spec hs.1 i o h)
    · exact apartH_spec hs.2 i i' o o' h h' e

/-- less is said, and names are turned -/
theorem Imp.sub {E : Ent} {σ σ' : St} (τ : List (Nat × Nat)) (hfix : ∀ i, i < E.n → rn τ i = i) (hn : E.n ≤ σ'.n) (ht : subT τ σ'.n σ.t σ'.t) (hh : subH τ σ'.n σ.h σ'.h) (ha : apartH τ σ'.h) : Imp E σ σ' := by
  intro N ι S a w hs
  refine ⟨fun i => ι (rn τ i), S, ?_, hs.tsz, ?_, hs.def0⟩
  · exact
    { obj := fun id o h => by
        obtain ⟨h1, h2, h3⟩ := subH_spec hh id o h
        exact ⟨h2, oren_sound o (hs.mem.obj _ _ h1).2 h3⟩
      own := fun id o b h hb => hs.mem.own _ _ b (subH_spec hh id o h).1 hb
      inj := fun id id' o o' b h h' hb hb' => apartH_spec ha id id' o o' h h' (hs.mem.inj _ _ _ _ b (subH_spec hh id o h).1 (subH_spec hh id' o' h').1 hb hb')
      slt := hs.mem.slt
      ssub := hs.mem.ssub
      ssup := hs.mem.ssup
      keep := hs.mem.keep
      size := hs.mem.size
      os := hs.mem.os
      tape := hs.mem.tape
      output := hs.mem.output
      names := hn
      same := fun id hid => by simp only [hfix id hid]; exact hs.mem.same id hid }
  · intro t v h
    obtain ⟨h1, h2⟩ := subT_spec ht t v h
    exact ren_sound v (hs.tm t _ h1) h2

/-- a nil slice in a slot may be told as an owned row of none -/
theorem Imp.adopt {E : Ent} {σ : St} (t : Nat) (T : TypeId) (sz : Nat) (h : lk t σ.t = some (.f (.v (.slice none 0 0)))) : Imp E σ ⟨(t, .sl σ.n sz 0 0) :: σ.t, (σ.n, .row T sz []) :: σ.h, σ.n + 1⟩ := by
  intro N ι S a w hs
  have hs' := hs.name (l := ⟨none, 0⟩) (o := .row T sz []) (by simp) (.inl ⟨rfl, rfl, rfl⟩)
  refine ⟨_, S, hs'.mem, hs.tsz, ?_, hs.def0⟩
  intro t' v' hl
  rw [lk_cons] at hl
  split at hl
  · rename_i e; subst e
    simp only [Option.some.injEq] at hl; subst hl
    have e1 := vr_v (hs.tm t' _ h)
    simp only [VR, ext_new]
    exact ⟨Nat.lt_succ_self _, .inl ⟨trivial, trivial, trivial, trivial, e1⟩⟩
  · exact hs'.tm t' v' hl

/-- a nil slice in a cell of an object may be told so too -/
theorem Imp.adoptCell {E : Ent} {σ : St} (id i : Nat) (T U : TypeId) (sz : Nat) {cs : List AV} (h : lk id σ.h = some (.cells U cs)) (hc : cs[i]? = some (.f (.v (.slice none 0 0)))) :
    Imp E σ ⟨σ.t, hset id (.cells U (cs.set i (.sl σ.n sz 0 0))) ((σ.n, .row T sz []) :: σ.h), σ.n + 1⟩ := by
  intro N ι S a w hs
  have hs' := hs.name (l := ⟨none, 0⟩) (o := .row T sz []) (by simp) (.inl ⟨rfl, rfl, rfl⟩)
  obtain ⟨hid, b, vs, hb, hh, hv, hone⟩ := hs.mem.obj id _ h
  have hl : lk id ((σ.n, AO.row T sz []) :: σ.h) = some (.cells U cs) := by rw [lk_cons, if_neg (Nat.ne_of_lt hid)]; exact h
  obtain ⟨_, b', vs', hb', hh', hv', hone'⟩ := hs'.mem.obj id _ hl
  have hself : Only w w b' := ⟨fun _ _ => rfl, rfl, rfl, rfl, rfl⟩
  refine ⟨_, S, hs'.upd hl hb' hself ⟨b', vs', hb', hh', ?_, hone'⟩⟩
  obtain ⟨y, hy, hvy⟩ := hv'.get hc
  have e1 := vr_v hvy
  have hset := hv'.set (i := i) (x := .sl σ.n sz 0 0) (y := y) (by
    simp only [VR, ext_new]
    exact ⟨Nat.lt_succ_self _, .inl ⟨trivial, trivial, trivial, trivial, e1⟩⟩)
  have : vs'.toList.set i y = vs'.toList := by
    apply List.ext_getElem?
    intro j
    rw [List.getElem?_set]
    split
    · rename_i e; subst e
      split
      · exact hy.symm
      · rename_i hlt
        rw [List.getElem?_eq_none (by omega)]
    · rfl
  rwa [this] at hset

mutual
/-- an owned row's views, told by what they hold -/
def frzV (id sz : Nat) (xs : List FV) : AV → AV
  | .sl i s off len => match i == id && s == sz && decide (off + len ≤ xs.length) with
    | true => .f (.sl sz ((xs.drop off).take len))
    | false => .sl i s off len
  | .agg ys => .agg (frzVs id sz xs ys)
  | .tup ys => .tup (frzVs id sz xs ys)
  | .clo q a b => .clo q (frzVs id sz xs a) (frzVs id sz xs b)
  | v => v
def frzVs (id sz : Nat) (xs : List FV) : List AV → List AV
  | [] => []
  | y :: ys => frzV id sz xs y :: frzVs id sz xs ys
end
def frzO (id sz : Nat) (xs : List FV) : AO → AO
  | .cells T cs => .cells T (frzVs id sz xs cs)
  | o => o
def frzT (id sz : Nat) (xs : List FV) : List (Nat × AV) → List (Nat × AV)
  | [] => []
  | (i, v) :: l => (i, frzV id sz xs v) :: frzT id sz xs l
def frzH (id sz : Nat) (xs : List FV) : Heap → Heap
  | [] => []
  | (i, o) :: l => match i == id with
    | true => frzH id sz xs l
    | false => (i, frzO id sz xs o) :: frzH id sz xs l

theorem lk_frzT (id sz : Nat) (xs : List FV) : ∀ (l : List (Nat × AV)) (t : Nat), lk t (frzT id sz xs l) = (lk t l).map (frzV id sz xs)
  | [], t => rfl
  | (i, v) :: l, t => by
    simp only [frzT, lk_cons]
    split
    · rfl
    · exact lk_frzT id sz xs l t
theorem lk_frzH (id sz : Nat) (xs : List FV) : ∀ (l : Heap) (t : Nat), lk t (frzH id sz xs l) = if t = id then none else (lk t l).map (frzO id sz xs)
  | [], t => by simp [frzH, lk]
  | (i, v) :: l, t => by
    simp only [frzH]
    split
    · rename_i e
      simp only [beq_iff_eq] at e; subst e
      rw [lk_frzH i sz xs l t, lk_cons]
      split <;> rfl
    · rename_i e
      simp only [beq_eq_false_iff_ne] at e
      simp only [lk_cons]
      rw [lk_frzH id sz xs l t]
      by_cases h1 : t = i
      · subst h1
        simp only [if_true, if_neg e, Option.map_some]
      · simp only [if_neg h1]

section
variable {S S' : Nat → Prop} {ι : Nat → Loc} {n : Nat} {w : World} {id sz : Nat} {xs : List FV}
mutual
theorem frzV_sound (hS : ∀ b, S b → S' b) (hrow : ∀ off len y, off + len ≤ xs.length → VR S ι n w (.sl id sz off len) y → FR S' w (.sl sz ((xs.drop off).take len)) y) : ∀ (x : AV) {y : Value}, VR S ι n w x y → VR S' ι n w (frzV id sz xs x) y
  | .sl i s off len, y, h => by
    simp only [frzV]
    split
    · rename_i e
      simp only [Bool.and_eq_true, beq_iff_eq, decide_eq_true_eq] at e
      obtain ⟨⟨rfl, rfl⟩, hle⟩ := e
      simp only [VR] at hrow ⊢
      exact hrow off len y hle (by simpa only [VR] using h)
    · exact h.mono hS (fun _ _ => rfl) (Nat.le_refl _) (fun _ _ => rfl)
  | .agg ys, y, h => by
    simp only [frzV, VR] at h ⊢
    obtain ⟨vs, e, h1, h2⟩ := h
    exact ⟨vs, e, frzVs_sound hS hrow ys h1, h2⟩
  | .tup ys, y, h => by
    simp only [frzV, VR] at h ⊢
    obtain ⟨vs, e, h1⟩ := h
    exact ⟨vs, e, frzVs_sound hS hrow ys h1⟩
  | .clo q a b, y, h => by
    simp only [frzV, VR] at h ⊢
    obtain ⟨fs, cs, e, h1, h2⟩ := h
    exact ⟨fs, cs, e, frzVs_sound hS hrow a h1, frzVs_sound hS hrow b h2⟩
  | .f _, y, h => by simp only [frzV]; exact h.mono hS (fun _ _ => rfl) (Nat.le_refl _) (fun _ _ => rfl)
  | .ptr _ _, y, h => by simp only [frzV]; exact h.mono hS (fun _ _ => rfl) (Nat.le_refl _) (fun _ _ => rfl)
  | .rp _ _ _ _, y, h => by simp only [frzV]; exact h.mono hS (fun _ _ => rfl) (Nat.le_refl _) (fun _ _ => rfl)
  | .mp _, y, h => by simp only [frzV]; exact h.mono hS (fun _ _ => rfl) (Nat.le_refl _) (fun _ _ => rfl)
  | .it _, y, h => by simp only [frzV]; exact h.mono hS (fun _ _ => rfl) (Nat.le_refl _) (fun _ _ => rfl)
  | .g _, y, h => by simp only [frzV]; exact h.mono hS (fun _ _ => rfl) (Nat.le_refl _) (fun _ _ => rfl)
theorem frzVs_sound (hS : ∀ b, S b → S' b) (hrow : ∀ off len y, off + len ≤ xs.length → VR S ι n w (.sl id sz off len) y → FR S' w (.sl sz ((xs.drop off).take len)) y) : ∀ (vs : List AV) {ys : List Value}, VRs S ι n w vs ys → VRs S' ι n w (frzVs id sz xs vs) ys
  | [], ys, h => by simpa only [frzVs, VRs] using h
  | x :: vs, ys, h => by
    simp only [frzVs, VRs] at h ⊢
    obtain ⟨y, ys', e, h1, h2⟩ := h
    exact ⟨y, ys', e, frzV_sound hS hrow x h1, frzVs_sound hS hrow vs h2⟩
end
end

/-- an owned row is frozen -/
theorem Imp.frz {E : Ent} {σ : St} (id : Nat) {T : TypeId} {sz : Nat} {xs : List FV} (h : lk id σ.h = some (.row T sz xs)) : Imp E σ ⟨frzT id sz xs σ.t, frzH id sz xs σ.h, σ.n⟩ := by
  intro N ι S a w hs
  obtain ⟨hid, ho⟩ := hs.mem.obj id _ h
  let S' : Nat → Prop := fun b => S b ∨ (ι id).b = some b
  have hrow : ∀ off len y, off + len ≤ xs.length → VR S ι σ.n w (.sl id sz off len) y → FR S' w (.sl sz ((xs.drop off).take len)) y := by
    intro off len y hle hv
    have hs0 : Sim E N ⟨[], σ.h, σ.n⟩ ι S a w := ⟨hs.mem, hs.tsz, fun t v h => by simp [lk] at h, hs.def0⟩
    simp only [VR] at hv
    simp only [FR]
    obtain ⟨_, ⟨hb, _, rfl, _, e⟩ | ⟨b, o, hb, hcap, hoo, _, e⟩⟩ := hv
    · exact .inl ⟨by simp, _, _, e⟩
    · rcases ho with ⟨hb', _⟩ | ⟨b', vs, hb', hh, hlc, hcm, hvs, hr⟩
      · rw [hb] at hb'; cases hb'
      · rw [hb] at hb'; simp only [Option.some.injEq] at hb'; subst hb'
        by_cases h0 : len = 0
        · subst h0; exact .inl ⟨by simp, _, _, e⟩
        · have hlen : ((xs.drop off).take len).length = len := by simp; omega
          have := hoo (by omega); subst this
          have hr' := ((hr.drop off).take len).mono (S' := S') (w' := w) (fun _ h => .inl h) (fun _ _ => rfl)
          exact .inr ⟨b, off * sz, _, vs, T, _, by rw [hlen]; exact e, .inr hb, hh, hr', by rw [hlen]; omega⟩
  have hS : ∀ b, S b → S' b := fun b h => .inl h
  have hmem := (hs.mem.del id).more (S' := S') hS (by
    rintro b (hb | hb)
    · exact .inl hb
    · refine .inr ⟨(hs.mem.own id _ b h hb).1, (hs.mem.own id _ b h hb).2.2, fun id' o' hl' hb' => ?_⟩
      rw [lk_hdel] at hl'
      split at hl'
      · cases hl'
      · rename_i hne
        exact hne (hs.mem.inj id' id o' _ b hl' h hb' hb))
  have back : ∀ i o, lk i (frzH id sz xs σ.h) = some o → ∃ o0, lk i (hdel id σ.h) = some o0 ∧ lk i σ.h = some o0 ∧ o = frzO id sz xs o0 := by
    intro i o hl
    rw [lk_frzH] at hl
    split at hl
    · cases hl
    · rename_i hne
      cases ho' : lk i σ.h with
      | none => rw [ho'] at hl; cases hl
      | some o0 =>
        rw [ho'] at hl
        simp only [Option.map_some, Option.some.injEq] at hl
        exact ⟨o0, by rw [lk_hdel, if_neg hne]; exact ho', rfl, hl.symm⟩
  refine ⟨ι, S', ?_, hs.tsz, ?_, hs.def0⟩
  · exact
    { obj := fun i o hl => by
        obtain ⟨o0, h1, h2, rfl⟩ := back i o hl
        refine ⟨(hmem.obj i o0 h1).1, ?_⟩
        cases o0 with
        | cells U cs =>
          obtain ⟨_, b, vs, hb, hh, hv, hone⟩ := hs.mem.obj i _ h2
          exact ⟨b, vs, hb, hh, frzVs_sound hS hrow cs hv, hone⟩
        | row => exact (hmem.obj i _ h1).2
        | map => exact (hmem.obj i _ h1).2
        | mape => exact (hmem.obj i _ h1).2
        | siter => exact (hmem.obj i _ h1).2
      own := fun i o b hl hb => by
        obtain ⟨o0, h1, _⟩ := back i o hl
        exact hmem.own i o0 b h1 hb
      inj := fun i i' o o' b hl hl' hb hb' => by
        obtain ⟨o0, h1, _⟩ := back i o hl
        obtain ⟨o1, h1', _⟩ := back i' o' hl'
        exact hmem.inj i i' _ _ b h1 h1' hb hb'
      slt := hmem.slt
      ssub := hmem.ssub
      ssup := hmem.ssup
      keep := hmem.keep
      size := hmem.size
      os := hmem.os
      tape := hmem.tape
      output := hmem.output
      names := hmem.names
      same := hmem.same }
  · intro t v hl
    rw [lk_frzT] at hl
    cases hv : lk t σ.t with
    | none => rw [hv] at hl; cases hl
    | some v0 =>
      rw [hv] at hl
      simp only [Option.map_some, Option.some.injEq] at hl
      subst hl
      exact frzV_sound hS hrow v0 (hs.tm t v0 hv)

/-- a loop, by what it holds on to and what goes down -/
theorem AL.ind {C : Cx} {c : Code} {k : List Item} {σ0 : St} {X : Type} (n : Nat) (I : X → Prop) (μ : X → Nat) (st : X → St) (x0 : X) (h0 : I x0) (himp : Imp C.E σ0 (st x0))
    (hstep : ∀ x, I x → (∀ y σ', I y → μ y < μ x → Imp C.E σ' (st y) → AL C c k σ') → AWn C n [] [] (.code c :: .inLoop c :: k) (st x)) : AL C c k σ0 := by
  have key : ∀ m x, μ x = m → I x → AL C c k (st x) := by
    intro m
    induction m using Nat.strongRecOn with
    | _ m ih =>
      intro x hm hI
      exact AWn_sound n _ _ _ _ (hstep x hI fun y σ' hy hlt hi => .imp hi (ih (μ y) (hm ▸ hlt) y rfl hy))
  exact .imp himp (key _ x0 rfl h0)

theorem ACall.imp {C : Cx} {n : Nat} {all os : List Oper} {o : Oper} {k : List Item} {σ σ' : St} {c : Bool} {need : Prop} {f : FuncId} {args : List AV} (h : Imp C.E σ σ') (h' : AWn C (n + 1) all (o :: os) k σ') : ACall C n all o os k σ c need f args :=
  fun _ _ => .imp h (AWn_sound _ _ _ _ _ h')
end Go.Fw

set_option linter.unusedVariables false
namespace Go.Fw
open Go

def FinE (E : Ent) (R : AV → St → Prop) (v : Value) (w' : World) : Prop := ∃ av h n ι S, R av ⟨[], h, n⟩ ∧ Mem E h n ι S w' ∧ VR S ι n w' av v
def ownOf (h : Heap) (ι : Nat → Loc) (b : Nat) : Prop := ∃ id o, lk id h = some o ∧ (ι id).b = some b
def entOf (w : World) (ι : Nat → Loc) (n : Nat) (h : Heap) (S : Nat → Prop) : Ent := ⟨w, ι, n, ownOf h ι, S, []⟩

/-- a promise on what is handed in: objects named below n0, values over them -/
def GC (P : Program) (f : FuncId) (n0 : Nat) (h0 : Heap) (args : List AV) (R : AV → St → Prop) : Prop :=
  ∀ (S : Nat → Prop) (ι : Nat → Loc) (w : World) (vals : Array Value), Mem (entOf w ι n0 h0 S) h0 n0 ι S w → VRs S ι n0 w args vals.toList →
    Calls P f vals w fun e w' => ∃ v, e = .returned v ∧ FinE (entOf w ι n0 h0 S) R v w'

theorem GC.mono {P : Program} {f : FuncId} {n0 : Nat} {h0 : Heap} {args : List AV} {R R' : AV → St → Prop} (h : GC P f n0 h0 args R) (hi : ∀ av σ, R av σ → R' av σ) : GC P f n0 h0 args R' := by
  intro S ι w vals hm hv
  refine (h S ι w vals hm hv).mono ?_
  rintro e w' ⟨v, rfl, av, h, n, ι', S', hr, rest⟩
  exact ⟨v, rfl, av, h, n, ι', S', hi _ _ hr, rest⟩

/-- the end may be told more simply: in other names, with less of the memory -/
def RI (E : Ent) (Q : AV → St → Prop) (av : AV) (σ : St) : Prop := ∃ av1 h1 n1, Imp E ⟨[(0, av)], σ.h, σ.n⟩ ⟨[(0, av1)], h1, n1⟩ ∧ Q av1 ⟨[], h1, n1⟩

theorem finE_RI {E : Ent} {Q : AV → St → Prop} {v : Value} {w' : World} (h : FinE E (RI E Q) v w') : FinE E Q v w' := by
  obtain ⟨av, h, n, ι, S, ⟨av1, h1, n1, hi, hq⟩, hm, hv⟩ := h
  have hs : Sim E 1 ⟨[(0, av)], h, n⟩ ι S ⟨#[v], E.defs⟩ w' := ⟨hm, rfl, fun t v' hl => by
    rw [lk_cons] at hl
    split at hl
    · rename_i e; subst e
      simp only [Option.some.injEq] at hl; subst hl
      simpa using hv
    · simp [lk] at hl, rfl⟩
  obtain ⟨ι', S', hs'⟩ := hi _ _ _ _ _ hs
  exact ⟨av1, h1, n1, ι', S', hq, hs'.mem, by simpa using hs'.tm 0 av1 (by simp [lk])⟩

theorem GC.intro {P : Program} {f : FuncId} {fn : Func} {c : Code} {n0 : Nat} {h0 : Heap} {args : List AV} {Q : AV → St → Prop} (n : Nat) (hf : P.funcs[f]? = some fn) (hm : P.follows .mixedOrders = true) (hb : fn.body = some c) (hok : okFn fn args.length = true)
    (h : ∀ E : Ent, E.n = n0 → ∀ Ph Ps, AWn ⟨P, f, fn.ntmps, fn.results.toList, E, RI E Q, none, Ph, Ps⟩ n [] [] [.code c] ⟨slots 0 args, h0, n0⟩) : GC P f n0 h0 args Q := by
  intro S ι w vals hmem hv
  let E := entOf w ι n0 h0 S
  let C : Cx := ⟨P, f, fn.ntmps, fn.results.toList, E, RI E Q, none, fun v w' => ∃ av h n ι S, Q av ⟨[], h, n⟩ ∧ Mem E h n ι S w' ∧ VR S ι n w' av v, fun _ _ => False⟩
  simp only [okFn, hb, Bool.and_eq_true, decide_eq_true_eq] at hok
  have hs : Sim E fn.ntmps ⟨slots 0 args, h0, n0⟩ ι S ⟨vals ++ Array.replicate (fn.ntmps - vals.size) undef, []⟩ w := sim_entry hmem hv hok.2 rfl
  have ok : C.Ok := Cx.Ok.plain (C := C) hf rfl hm rfl rfl fun v w' hF => finE_RI (E := E) hF
  have hg : Goes C [.code c] ⟨vals ++ Array.replicate (fn.ntmps - vals.size) undef, []⟩ w :=
    at_nil.1 (AWn_sound n [] [] _ _ (h E rfl _ _) ok (List.suffix_refl _) rfl (by simp [okItems, okItem, hok.1]) _ _ _ _ hs)
  refine (calls_of_goes (C := C) rfl hf hb hg).mono ?_
  rintro e w' ⟨v, rfl, hF⟩
  exact ⟨v, rfl, hF⟩

/- the call -/
def shift (τ : List (Nat × Nat)) (n0 m : Nat) (i : Nat) : Nat := bif decide (i < n0) then rn τ i else m + (i - n0)
def renH (τ : Nat → Nat) : Heap → Heap
  | [] => []
  | (i, o) :: l => (τ i, o.ren τ) :: renH τ l
def delAll (τ : List (Nat × Nat)) : Heap → Heap → Heap
  | [], h => h
  | (i, _) :: l, h => delAll τ l (hdel (rn τ i) h)
def belowAll (τ : List (Nat × Nat)) (m : Nat) : Nat → Prop
  | 0 => True
  | n + 1 => rn τ n < m ∧ belowAll τ m n
theorem belowAll_spec {τ : List (Nat × Nat)} {m : Nat} : ∀ {n : Nat}, belowAll τ m n → ∀ i, i < n → rn τ i < m
  | n + 1, h, i, hi => by
    simp only [belowAll] at h
    by_cases e : i = n
    · subst e; exact h.1
    · exact belowAll_spec h.2 i (by omega)

theorem lk_append {β : Type} (t : Nat) : ∀ (l l' : List (Nat × β)), lk t (l ++ l') = match lk t l with | some x => some x | none => lk t l'
  | [], l' => rfl
  | (i, v) :: l, l' => by
    simp only [List.cons_append, lk_cons]
    split
    · rfl
    · exact lk_append t l l'
theorem lk_renH (τ : Nat → Nat) : ∀ (h : Heap) (t : Nat) {o : AO}, lk t (renH τ h) = some o → ∃ i o0, t = τ i ∧ lk i h = some o0 ∧ o = o0.ren τ
  | [], t, o, h => by simp [renH, lk] at h
  | (j, v) :: l, t, o, h => by
    simp only [renH, lk_cons] at h
    split at h
    · rename_i e
      simp only [Option.some.injEq] at h
      exact ⟨j, v, e, by rw [lk_cons, if_pos rfl], h.symm⟩
    · rename_i hne
      obtain ⟨i, o0, e, hl, ho⟩ := lk_renH τ l t h
      refine ⟨i, o0, e, ?_, ho⟩
      rw [lk_cons, if_neg]
      · exact hl
      · intro e'; subst e'; exact hne e
theorem lk_delAll (τ : List (Nat × Nat)) : ∀ (l h : Heap) (t : Nat) {o : AO}, lk t (delAll τ l h) = some o → lk t h = some o ∧ ∀ i o', lk i l = some o' → t ≠ rn τ i
  | [], h, t, o, hl => ⟨hl, fun i o' h' => by simp [lk] at h'⟩
  | (j, v) :: l, h, t, o, hl => by
    simp only [delAll] at hl
    obtain ⟨h1, h2⟩ := lk_delAll τ l _ t hl
    rw [lk_hdel] at h1
    split at h1
    · cases h1
    · rename_i hne
      refine ⟨h1, fun i o' hi => ?_⟩
      rw [lk_cons] at hi
      split at hi
      · rename_i e; subst e; exact hne
      · exact h2 i o' hi

section
variable {S : Nat → Prop} {ι ι' : Nat → Loc} {n n' : Nat} {w : World} {τ : Nat → Nat}
mutual
theorem renF_sound (hτ : ∀ i, i < n → τ i < n' ∧ ι' (τ i) = ι i) : ∀ (x : AV) {y : Value}, VR S ι n w x y → VR S ι' n' w (x.ren τ) y
  | .f x, y, h => by simpa only [AV.ren, VR] using h
  | .agg xs, y, h => by
    simp only [AV.ren, VR] at h ⊢
    obtain ⟨ys, e, h1, h2⟩ := h
    exact ⟨ys, e, renFs_sound hτ xs h1, h2⟩
  | .tup xs, y, h => by
    simp only [AV.ren, VR] at h ⊢
    obtain ⟨ys, e, h1⟩ := h
    exact ⟨ys, e, renFs_sound hτ xs h1⟩
  | .ptr id _, y, h => by simp only [AV.ren, VR] at h ⊢; rw [(hτ id h.1).2]; exact ⟨(hτ id h.1).1, h.2⟩
  | .rp id _ _ _, y, h => by simp only [AV.ren, VR] at h ⊢; rw [(hτ id h.1).2]; exact ⟨(hτ id h.1).1, h.2⟩
  | .sl id _ _ _, y, h => by simp only [AV.ren, VR] at h ⊢; rw [(hτ id h.1).2]; exact ⟨(hτ id h.1).1, h.2⟩
  | .mp id, y, h => by simp only [AV.ren, VR] at h ⊢; rw [(hτ id h.1).2]; exact ⟨(hτ id h.1).1, h.2⟩
  | .it id, y, h => by simp only [AV.ren, VR] at h ⊢; rw [(hτ id h.1).2]; exact ⟨(hτ id h.1).1, h.2⟩
  | .clo q a b, y, h => by
    simp only [AV.ren, VR] at h ⊢
    obtain ⟨fs, cs, e, h1, h2⟩ := h
    exact ⟨fs, cs, e, renFs_sound hτ a h1, renFs_sound hτ b h2⟩
  | .g _, y, h => by simpa only [AV.ren, VR] using h
theorem renFs_sound (hτ : ∀ i, i < n → τ i < n' ∧ ι' (τ i) = ι i) : ∀ (xs : List AV) {ys : List Value}, VRs S ι n w xs ys → VRs S ι' n' w (AV.rens τ xs) ys
  | [], ys, h => by simpa only [AV.rens, VRs] using h
  | x :: xs, ys, h => by
    simp only [AV.rens, VRs] at h ⊢
    obtain ⟨y, ys', e, h1, h2⟩ := h
    exact ⟨y, ys', e, renF_sound hτ x h1, renFs_sound hτ xs h2⟩
end
theorem orenF_sound (hτ : ∀ i, i < n → τ i < n' ∧ ι' (τ i) = ι i) : ∀ (o : AO) {l : Loc}, OR S ι n w l o → OR S ι' n' w l (o.ren τ)
  | .cells T cs, l, h => by
    simp only [AO.ren, OR] at h ⊢
    obtain ⟨b, vs, e, h1, h2, h3⟩ := h
    exact ⟨b, vs, e, h1, renFs_sound hτ cs h2, h3⟩
  | .row T sz xs, l, h => h
  | .map kv, l, h => h
  | .mape kv st, l, h => h
  | .siter s pos, l, h => h
end

/-- what is handed in, as the callee sees it -/
theorem mem_entry {E : Ent} {N : Nat} {σ : St} {ι : Nat → Loc} {S : Nat → Prop} {a : Act} {w : World} (hs : Sim E N σ ι S a w) {τ : List (Nat × Nat)} {n0 : Nat} {h0 : Heap} (hh : subH τ n0 σ.h h0) (ha : apartH τ h0) :
    Mem (entOf w (fun i => ι (rn τ i)) n0 h0 S) h0 n0 (fun i => ι (rn τ i)) S w :=
  { obj := fun id o h => by
      obtain ⟨h1, h2, h3⟩ := subH_spec hh id o h
      exact ⟨h2, oren_sound o (hs.mem.obj _ _ h1).2 h3⟩
    own := fun id o b h hb => by
      have := hs.mem.own _ _ b (subH_spec hh id o h).1 hb
      exact ⟨this.1, this.2.1, .inl ⟨id, o, h, hb⟩⟩
    inj := fun id id' o o' b h h' hb hb' => apartH_spec ha id id' o o' h h' (hs.mem.inj _ _ _ _ b (subH_spec hh id o h).1 (subH_spec hh id' o' h').1 hb hb')
    slt := hs.mem.slt
    ssub := fun b h => .inl h
    ssup := fun b h => h
    keep := fun b hb _ => rfl
    size := Nat.le_refl _
    os := rfl
    tape := rfl
    output := rfl
    names := Nat.le_refl _
    same := fun id _ => rfl }

/-- the caller's memory behind the call -/
theorem sim_after {E : Ent} {N : Nat} {σ : St} {ι : Nat → Loc} {S : Nat → Prop} {a : Act} {w w' : World} (hs : Sim E N σ ι S a w) {τ : List (Nat × Nat)} {n0 : Nat} {h0 : Heap} (hh : subH τ n0 σ.h h0) (hb : belowAll τ σ.n n0)
    {h : Heap} {n : Nat} {ι' : Nat → Loc} {S' : Nat → Prop} (hm : Mem (entOf w (fun i => ι (rn τ i)) n0 h0 S) h n ι' S' w') :
    ∃ ι'', (∀ i, i < n → shift τ n0 σ.n i < σ.n + (n - n0) ∧ ι'' (shift τ n0 σ.n i) = ι' i) ∧
      Sim E N ⟨σ.t, renH (shift τ n0 σ.n) h ++ delAll τ h0 σ.h, σ.n + (n - n0)⟩ ι'' S' a w' := by
  have hn0 : n0 ≤ n := hm.names
  let ι'' : Nat → Loc := fun i => if i < σ.n then ι i else ι' (n0 + (i - σ.n))
  have hι : ∀ i, i < σ.n → ι'' i = ι i := fun i hi => by simp [ι'', hi]
  have hτ : ∀ i, i < n → shift τ n0 σ.n i < σ.n + (n - n0) ∧ ι'' (shift τ n0 σ.n i) = ι' i := by
    intro i hi
    by_cases h0 : i < n0
    · have h1 := belowAll_spec hb i h0
      have e : shift τ n0 σ.n i = rn τ i := by simp [shift, h0]
      rw [e]
      refine ⟨by omega, ?_⟩
      rw [hι _ h1]
      exact (hm.same i h0).symm
    · have e : shift τ n0 σ.n i = σ.n + (i - n0) := by simp [shift, h0]
      rw [e]
      refine ⟨by omega, ?_⟩
      simp only [ι'']
      rw [if_neg (by omega)]
      congr 1
      omega
  refine ⟨ι'', hτ, ?_⟩
  have ownE : ∀ b, (entOf w (fun i => ι (rn τ i)) n0 h0 S).own b → b < w.heap.size ∧ ¬ S b ∧ (E.own b ∨ E.w.heap.size ≤ b) ∧ ∃ i o, lk i h0 = some o ∧ lk (rn τ i) σ.h = some (o.ren (rn τ)) ∧ (ι (rn τ i)).b = some b := by
    rintro b ⟨id, o, hl, hb'⟩
    obtain ⟨h1, h2, h3⟩ := subH_spec hh id o hl
    have := hs.mem.own _ _ b h1 hb'
    exact ⟨this.1, this.2.1, this.2.2, id, o, hl, h1, hb'⟩
  have keepS : ∀ b, S b → w'.heap[b]? = w.heap[b]? := fun b hb' => hm.keep b (hs.mem.slt b hb') (fun ho => (ownE b ho).2.1 hb')
  have ssup : ∀ b, S b → S' b := hm.ssup
  -- an old object that was not handed over
  have old : ∀ id o, lk id (delAll τ h0 σ.h) = some o → lk id σ.h = some o ∧ ∀ b, (ι id).b = some b → ¬ (entOf w (fun i => ι (rn τ i)) n0 h0 S).own b := by
    intro id o hl
    obtain ⟨h1, h2⟩ := lk_delAll τ h0 σ.h id hl
    refine ⟨h1, fun b hb' ho => ?_⟩
    obtain ⟨_, _, _, i, o', h3, h4, h5⟩ := ownE b ho
    exact h2 i o' h3 (hs.mem.inj _ _ _ _ b h1 h4 hb' h5)
  have new : ∀ id o, lk id (renH (shift τ n0 σ.n) h) = some o → ∃ i o0, id = shift τ n0 σ.n i ∧ lk i h = some o0 ∧ o = o0.ren (shift τ n0 σ.n) ∧ i < n ∧ ι'' id = ι' i := by
    intro id o hl
    obtain ⟨i, o0, rfl, h1, rfl⟩ := lk_renH _ _ _ hl
    have hi := (hm.obj i o0 h1).1
    exact ⟨i, o0, rfl, h1, rfl, hi, (hτ i hi).2⟩
  have both : ∀ id o, lk id (renH (shift τ n0 σ.n) h ++ delAll τ h0 σ.h) = some o → lk id (renH (shift τ n0 σ.n) h) = some o ∨ lk id (delAll τ h0 σ.h) = some o := by
    intro id o hl
    rw [lk_append] at hl
    split at hl
    · rename_i x hx
      exact .inl (hx.trans hl)
    · exact .inr hl
  have keepO : ∀ id o b, lk id (delAll τ h0 σ.h) = some o → (ι id).b = some b → w'.heap[b]? = w.heap[b]? := fun id o b hl hb' =>
    hm.keep b (hs.mem.own id o b (old id o hl).1 hb').1 ((old id o hl).2 b hb')
  refine ⟨?_, hs.tsz, fun t v hl => (hs.tm t v hl).mono ssup keepS (by show σ.n ≤ σ.n + (n - n0); omega) hι, hs.def0⟩
  exact
    { obj := fun id o hl => by
        rcases both id o hl with hl | hl
        · obtain ⟨i, o0, rfl, h1, rfl, hi, hii⟩ := new id o hl
          refine ⟨(hτ i hi).1, ?_⟩
          rw [hii]
          exact orenF_sound hτ o0 (hm.obj i o0 h1).2
        · have h1 := (old id o hl).1
          have h2 := hs.mem.obj id o h1
          refine ⟨by have := h2.1; show id < σ.n + (n - n0); omega, ?_⟩
          rw [hι id h2.1]
          exact h2.2.mono ssup keepS (by show σ.n ≤ σ.n + (n - n0); omega) hι (fun b hb' => keepO id o b hl hb')
      own := fun id o b hl hb' => by
        rcases both id o hl with hl | hl
        · obtain ⟨i, o0, rfl, h1, rfl, hi, hii⟩ := new id o hl
          rw [hii] at hb'
          have := hm.own i o0 b h1 hb'
          refine ⟨this.1, this.2.1, ?_⟩
          rcases this.2.2 with h | h
          · exact (ownE b h).2.2.1
          · exact .inr (Nat.le_trans hs.mem.size h)
        · have h1 := (old id o hl).1
          have h2 := hs.mem.obj id o h1
          rw [hι id h2.1] at hb'
          have h3 := hs.mem.own id o b h1 hb'
          refine ⟨Nat.lt_of_lt_of_le h3.1 hm.size, fun hS => ?_, h3.2.2⟩
          rcases hm.ssub b hS with h | h | h
          · exact h3.2.1 h
          · exact (old id o hl).2 b hb' h
          · exact absurd h3.1 (Nat.not_lt.2 h)
      inj := fun id id' o o' b hl hl' hb1 hb2 => by
        rcases both id o hl with hl | hl <;> rcases both id' o' hl' with hl' | hl'
        · obtain ⟨i, o0, rfl, h1, rfl, hi, hii⟩ := new id o hl
          obtain ⟨i', o0', rfl, h1', rfl, hi', hii'⟩ := new id' o' hl'
          rw [hii] at hb1; rw [hii'] at hb2
          rw [hm.inj i i' _ _ b h1 h1' hb1 hb2]
        · obtain ⟨i, o0, rfl, h1, rfl, hi, hii⟩ := new id o hl
          rw [hii] at hb1
          have h2 := hs.mem.obj id' o' (old id' o' hl').1
          rw [hι id' h2.1] at hb2
          rcases (hm.own i o0 b h1 hb1).2.2 with h | h
          · exact absurd h ((old id' o' hl').2 b hb2)
          · exact absurd (hs.mem.own id' o' b (old id' o' hl').1 hb2).1 (Nat.not_lt.2 h)
        · obtain ⟨i, o0, rfl, h1, rfl, hi, hii⟩ := new id' o' hl'
          rw [hii] at hb2
          have h2 := hs.mem.obj id o (old id o hl).1
          rw [hι id h2.1] at hb1
          rcases (hm.own i o0 b h1 hb2).2.2 with h | h
          · exact absurd h ((old id o hl).2 b hb1)
          · exact absurd (hs.mem.own id o b (old id o hl).1 hb1).1 (Nat.not_lt.2 h)
        · have h2 := hs.mem.obj id o (old id o hl).1
          have h2' := hs.mem.obj id' o' (old id' o' hl').1
          rw [hι id h2.1] at hb1
          rw [hι id' h2'.1] at hb2
          exact hs.mem.inj id id' o o' b (old id o hl).1 (old id' o' hl').1 hb1 hb2
      slt := hm.slt
      ssub := fun b hb' => by
        rcases hm.ssub b hb' with h | h | h
        · exact hs.mem.ssub b h
        · exact .inr (ownE b h).2.2.1
        · exact .inr (.inr (Nat.le_trans hs.mem.size h))
      ssup := fun b hb' => ssup b (hs.mem.ssup b hb')
      keep := fun b hb' hno => by
        refine (hm.keep b (Nat.lt_of_lt_of_le hb' hs.mem.size) fun ho => ?_).trans (hs.mem.keep b hb' hno)
        rcases (ownE b ho).2.2.1 with h | h
        · exact hno h
        · omega
      size := Nat.le_trans hs.mem.size hm.size
      os := hm.os.trans hs.mem.os
      tape := hm.tape.trans hs.mem.tape
      output := hm.output.trans hs.mem.output
      names := by have := hs.mem.names; show E.n ≤ σ.n + (n - n0); omega
      same := fun id hid => by rw [hι id (Nat.lt_of_lt_of_le hid hs.mem.names)]; exact hs.mem.same id hid }

section
variable {C : Cx} {n : Nat} {all os : List Oper} {o : Oper} {k : List Item} {σ : St} {need : Prop} {f : FuncId} {args : List AV}

/-- a call that is handed objects -/
theorem ACall.own (τ : List (Nat × Nat)) {n0 : Nat} {h0 : Heap} {as : List AV} {R : AV → St → Prop} (hf : enters C.P f = true) (hgc : GC C.P f n0 h0 as R) (ha : args = AV.rens (rn τ) as) (hau : AV.unds n0 as) (hh : subH τ n0 σ.h h0) (hap : apartH τ h0) (hb : belowAll τ σ.n n0) (hn : need)
    (hk : ∀ av h m, R av ⟨[], h, m⟩ → AWn C n all os k (St.put ⟨σ.t, renH (shift τ n0 σ.n) h ++ delAll τ h0 σ.h, σ.n + (m - n0)⟩ o.dst (av.ren (shift τ n0 σ.n)))) :
    ACall C n all o os k σ true need f args := by
  intro hg hop ok hsuf hok hki ι S a w hs
  obtain ⟨cl, x, ho, hcal, hcall⟩ := call_val hop
  have hd := okOps_mem hok (hsuf.subset (List.mem_cons_self ..))
  have hsuf' : os <:+ all := (List.suffix_cons o os).trans hsuf
  refine at_step (σ := σ) ?_ ?_ hs hg hsuf hok
  · intro c' hc' _
    obtain ⟨vals, hrun, hv⟩ := s_call hs ho hcal hcall hn hf
    unfold Oper.wp
    rw [hrun, Oper.upon_enter]
    rw [ha] at hv
    refine (hgc S (fun i => ι (rn τ i)) w vals (mem_entry hs hh hap) (rens_sound as hv hau)).mono ?_
    rintro e w' ⟨v, rfl, av, h, m, ι', S', hR, hm, hvr⟩
    obtain ⟨ι'', hτ, hs'⟩ := sim_after hs hh hb hm
    have hput := hs'.put hd (renF_sound hτ av hvr)
    exact AWn_sound _ _ _ _ _ (hk av h m hR) ok hsuf' hok hki _ _ _ _ hput
  · intro c' hc' hct
    rw [hg] at hc'; simp only [Option.some.injEq] at hc'
    rw [← hc'] at hct; cases hct
end
end Go.Fw

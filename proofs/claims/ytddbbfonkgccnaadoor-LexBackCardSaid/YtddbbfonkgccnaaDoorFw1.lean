/-
  Fw1: an abstract machine over the model: frozen values told by their contents, objects of the call's own told by names.
  Definitions alone; what they say of the model is proved in Fw2 and behind.
-/
import Derived.Calls
import Derived.KernelRfl
import Derived.Laws.AppendOwn
namespace Go.Fw

/-- what is told by its contents: never written again -/
inductive FV where
  | v (x : Value)
  | agg (xs : List FV)
  | tup (xs : List FV)
  | sl (sz : Nat) (xs : List FV)
  | p (x : FV) (off : Nat)
  | m (kv : List (Value × FV))
  | clo (f : FuncId) (first cap : List FV)

/-- a value in a slot: frozen, or it leads to an object of the call's own (by name) -/
inductive AV where
  | f (x : FV)
  | agg (xs : List AV)
  | tup (xs : List AV)
  | ptr (id off : Nat)
  | rp (id sz i off : Nat)
  | sl (id sz off len : Nat)
  | mp (id : Nat)
  | it (id : Nat)
  | clo (f : FuncId) (first cap : List AV)
  | g (x : AV)

inductive AO where
  | cells (T : TypeId) (cs : List AV)
  | row (T : TypeId) (sz : Nat) (xs : List FV)
  | map (kv : List (Value × FV))
  | siter (s : List UInt8) (pos : Nat)

abbrev Heap := List (Nat × AO)
structure St where
  t : List (Nat × AV)
  h : Heap
  n : Nat

def lk {β : Type} (n : Nat) : List (Nat × β) → Option β
  | [] => none
  | (m, v) :: l => match n == m with | true => some v | false => lk n l

def hset (n : Nat) (o : AO) : Heap → Heap
  | [] => []
  | (m, x) :: l => match n == m with | true => (n, o) :: l | false => (m, x) :: hset n o l

def hdel (n : Nat) : Heap → Heap
  | [] => []
  | (m, x) :: l => match n == m with | true => hdel n l | false => (m, x) :: hdel n l

def St.put (σ : St) (d : Option Nat) (v : AV) : St := match d with | some d => ⟨(d, v) :: σ.t, σ.h, σ.n⟩ | none => σ

inductive TD where
  | int (k : IntKind) | bool | str | slice (e : TypeId) | array (n : Nat) (e : TypeId)
  | struct (fs : List (Nat × TypeId)) | ptr (e : TypeId) | map (k e : TypeId) | func | iface | other
structure TK where
  sz : Nat
  bytes : Nat
  agg : Bool
  zero : FV
  desc : TD

def FV.cells : FV → List FV
  | .agg xs => xs
  | x => [x]
def AV.cells : AV → List AV
  | .agg xs => xs
  | .f (.agg xs) => xs.map .f
  | x => [x]

def bl (s : ByteArray) : List UInt8 := s.data.toList
abbrev str (l : List UInt8) : Value := .string ⟨⟨l⟩⟩
abbrev AV.s (x : Value) : AV := .f (.v x)
theorem bl_mk (l : List UInt8) : bl ⟨⟨l⟩⟩ = l := rfl

def strip : AV → Bool × AV
  | .g x => (false, (strip x).2)
  | x => (true, x)
def mkg (c : Bool) (x : AV) : AV := bif c then x else .g x
theorem strip_mkg (c : Bool) (v : AV) : strip (mkg c v) = (c && (strip v).1, (strip v).2) := by
  cases c <;> simp [mkg, strip]
theorem mkg_true (v : AV) : mkg true v = v := rfl

def tdOf (P : Program) : TypeDesc → TD
  | .int k => .int k
  | .bool => .bool
  | .string => .str
  | .slice e => .slice e
  | .array n e => .array n e
  | .struct fs => if fs.all (fun f => match P.info? f.type with | some i => i.size != 0 | none => false) then .struct (fs.toList.map fun f => (f.offset, f.type)) else .other
  | .pointer e => .ptr e
  | .map k e => .map k e
  | .func .. => .func
  | .interface _ => .iface
  | _ => .other
def zFV : Value → FV
  | .agg cs => .agg (cs.toList.map .v)
  | x => .v x
def isAggD : TypeDesc → Bool
  | .struct _ => true
  | .array .. => true
  | _ => false
def zKind (d : TypeDesc) : Value → Bool
  | .agg _ => isAggD d
  | .tuple _ => false
  | _ => !isAggD d
def tk (P : Program) (t : TypeId) : Option TK := match P.info? t, P.underlying t with
  | some i, some d => match i.zero with
    | some z => match z.cells.size == i.size && z.cells.all Value.oneCell' && zKind d z with
      | true => some { sz := i.size, bytes := i.bytes, agg := isAggD d, zero := zFV z, desc := tdOf P d }
      | false => none
    | none => none
  | _, _ => none

section
variable (tk : TypeId → Option TK)

def constAV (v : Value) : Option AV := match v with
  | .bool b => some (.s (.bool b))
  | .int k n => some (.s (.int k n))
  | .string s => some (.s (.string s))
  | .pointer none => some (.s (.pointer none))
  | .slice none 0 0 => some (.s (.slice none 0 0))
  | .map none => some (.s (.map none))
  | .nilFunc => some (.s .nilFunc)
  | .nilIface => some (.s .nilIface)
  | _ => none
def evo (σ : St) : Operand → Option AV
  | .tmp t => lk t σ.t
  | .const v => constAV v
  | .func f => some (.clo f [] [])
  | .global _ => none
def evs : Option AV → Option (Bool × AV)
  | some v => some (strip v)
  | none => none
def ev (σ : St) (x : Operand) : Option (Bool × AV) := evs (evo σ x)
def evl (σ : St) : List Operand → Option (Bool × List AV)
  | [] => some (true, [])
  | x :: xs => match ev σ x, evl σ xs with
    | some (c, v), some (d, vs) => some (c && d, v :: vs)
    | _, _ => none

inductive Res where
  | val (need : Prop) (v : AV) (σ : St)
  | call (need : Prop) (f : FuncId) (args : List AV)
  | bad

def bopInt (op : BinOp) (k : IntKind) (a : Int) (k' : IntKind) (b : Int) : Prop × Value := match op with
  | .add => (k = k', .int k (k.wrap (a + b)))
  | .sub => (k = k', .int k (k.wrap (a - b)))
  | .mul => (k = k', .int k (k.wrap (a * b)))
  | .quo => (k = k' ∧ b ≠ 0, .int k (k.wrap (a.tdiv b)))
  | .rem => (k = k' ∧ b ≠ 0, .int k (a.tmod b))
  | .and => (k = k', .int k (k.wrap (BitVec.ofInt k.bits a &&& BitVec.ofInt k.bits b).toNat))
  | .or => (k = k', .int k (k.wrap (BitVec.ofInt k.bits a ||| BitVec.ofInt k.bits b).toNat))
  | .xor => (k = k', .int k (k.wrap (BitVec.ofInt k.bits a ^^^ BitVec.ofInt k.bits b).toNat))
  | .andNot => (k = k', .int k (k.wrap (BitVec.ofInt k.bits a &&& ~~~ BitVec.ofInt k.bits b).toNat))
  | .shl => (0 ≤ b, .int k (k.wrap (a * 2 ^ (min b.toNat k.bits))))
  | .shr => (0 ≤ b, .int k (a.fdiv (2 ^ (min b.toNat k.bits))))
  | .eql => (k = k', .bool (a == b))
  | .neq => (k = k', .bool (a != b))
  | .lss => (k = k', .bool (decide (a < b)))
  | .leq => (k = k', .bool (decide (a ≤ b)))
  | .gtr => (k = k', .bool (decide (a > b)))
  | .geq => (k = k', .bool (decide (a ≥ b)))

def bopStr (op : BinOp) (s t : List UInt8) : Option (Prop × Value) := match op with
  | .add => some (s.length + t.length ≤ 9223372036854775807, str (s ++ t))
  | .eql => some (True, .bool (s == t))
  | .neq => some (True, .bool (!(s == t)))
  | .lss => some (True, .bool (Op.bytesLess s t))
  | .leq => some (True, .bool (Op.bytesLess s t || s == t))
  | .gtr => some (True, .bool (!(Op.bytesLess s t || s == t)))
  | .geq => some (True, .bool (!Op.bytesLess s t))
  | _ => none

def bopBool (op : BinOp) (a b : Bool) : Option (Prop × Value) := match op with
  | .eql => some (True, .bool (a == b))
  | .neq => some (True, .bool (!(a == b)))
  | _ => none

def bopV (op : BinOp) (T : TypeId) : Value → Value → Option (Prop × Value)
  | .int k a, .int k' b => some (bopInt op k a k' b)
  | .string s, .string t => bopStr op (bl s) (bl t)
  | .bool a, .bool b => match tk T with
    | some ⟨_, _, _, _, .bool⟩ => bopBool op a b
    | _ => none
  | _, _ => none

def resV (σ : St) (c : Prop) : Option (Prop × Value) → Res
  | some (n, r) => .val (c ∧ n) (.s r) σ
  | none => .bad

def aBin (σ : St) (op : BinOp) (T : TypeId) : Option (Bool × AV) → Option (Bool × AV) → Res
  | some (c, .f (.v x)), some (d, .f (.v y)) => resV σ (c = true ∧ d = true) (bopV tk op T x y)
  | _, _ => .bad

def aPick (σ : St) : Option (Bool × AV) → Option (Bool × AV) → Option (Bool × AV) → Res
  | some (c1, .f (.v (.bool c))), some (c2, .f (.v (.bool a))), some (c3, .f (.v (.bool b))) =>
    .val (c1 = true ∧ (c = true → c2 = true) ∧ (c = false → c3 = true)) (.s (.bool (bif c then a else b))) σ
  | _, _, _ => .bad

def aMove (σ : St) : Option (Bool × AV) → Res
  | some (c, v) => .val (c = true) v σ
  | none => .bad

def aNot (σ : St) : Option (Bool × AV) → Res
  | some (c, .f (.v (.bool b))) => .val (c = true) (.s (.bool (!b))) σ
  | _ => .bad
def aNeg (σ : St) : Option (Bool × AV) → Res
  | some (c, .f (.v (.int k n))) => .val (c = true) (.s (.int k (k.wrap (0 - n)))) σ
  | _ => .bad
def aXor (σ : St) : Option (Bool × AV) → Res
  | some (c, .f (.v (.int k n))) => .val (c = true) (.s (.int k (k.wrap (BitVec.ofInt k.bits (if k.signed then -1 else k.max) ^^^ BitVec.ofInt k.bits n).toNat))) σ
  | _ => .bad

def fvByte : FV → UInt8
  | .v (.int _ n) => UInt8.ofNat n.toNat
  | _ => 0
def FV.isByte : FV → Prop
  | .v (.int .u8 _) => True
  | _ => False
def u8 (b : UInt8) : FV := .v (.int .u8 b.toNat)

/-- the elements of a slice, of whatever form (sz: how many cells one is to have) -/
def rdSl (σ : St) (sz : Nat) : AV → Option (Prop × List FV)
  | .f (.sl sz' xs) => some (sz' = sz, xs)
  | .f (.v (.slice none 0 0)) => some (True, [])
  | .sl id sz' off len => match lk id σ.h with
    | some (.row _ sz'' xs) => some (sz' = sz ∧ sz'' = sz ∧ off + len ≤ xs.length, (xs.drop off).take len)
    | _ => none
  | _ => none

def aConv (σ : St) : Option (Bool × AV) → Option TK → Option TK → Res
  | some (c, .f (.v (.int _ n))), some ⟨_, _, _, _, .int _⟩, some ⟨_, _, _, _, .int k⟩ => .val (c = true) (.s (.int k (k.wrap n))) σ
  | some (c, .f (.v (.string s))), some ⟨_, _, _, _, .str⟩, some ⟨_, _, _, _, .str⟩ => .val (c = true) (.s (.string s)) σ
  | some (c, .f (.v (.string s))), some ⟨_, _, _, _, .str⟩, some ⟨_, _, _, _, .slice e⟩ => match tk e with
    | some ⟨_, _, _, _, .int .u8⟩ => .val (c = true ∧ (bl s).length < 9223372036854775808) (.f (.sl 1 ((bl s).map u8))) σ
    | _ => .bad
  | some (c, v), some ⟨_, _, _, _, .slice e⟩, some ⟨_, _, _, _, .str⟩ => match tk e, rdSl σ 1 v with
    | some ⟨_, _, _, _, .int .u8⟩, some (n, xs) => .val (c = true ∧ n ∧ ∀ x ∈ xs, FV.isByte x) (.s (str (xs.map fvByte))) σ
    | _, _ => .bad
  | _, _, _ => .bad

def aNil (σ : St) : Option (Bool × AV) → Res
  | some (c, .ptr id off) => .val (c = true) (.ptr id off) σ
  | some (c, .rp id sz i off) => .val (c = true) (.rp id sz i off) σ
  | some (c, .f (.p x off)) => .val (c = true) (.f (.p x off)) σ
  | some (c, .clo f a b) => .val (c = true) (.clo f a b) σ
  | some (c, .f (.clo f a b)) => .val (c = true) (.f (.clo f a b)) σ
  | _ => .bad

def newCells (σ : St) (c : Prop) (T : TypeId) (cs : List AV) : Res := .val c (.ptr σ.n 0) ⟨σ.t, (σ.n, .cells T cs) :: σ.h, σ.n + 1⟩

def aAlloc (σ : St) (T : TypeId) : Option TK → Res
  | some k => newCells σ True T (AV.f k.zero).cells
  | none => .bad
def AV.one : AV → Bool
  | .agg _ => false
  | .tup _ => false
  | .g _ => false
  | .f (.agg _) => false
  | .f (.tup _) => false
  | _ => true
def aBox (σ : St) (T : TypeId) : Option (Bool × AV) → Res
  | some (c, v) => newCells σ (c = true ∧ v.cells.all AV.one = true) T v.cells
  | none => .bad

def ldAgg (a : Bool) (need1 need2 : Prop) (v1 v2 : AV) (σ : St) : Res := match a with | true => .val need1 v1 σ | false => .val need2 v2 σ

def aLoad (σ : St) : Option (Bool × AV) → Option TK → Res
  | some (c, .ptr id off), some k => match lk id σ.h with
    | some (.cells _ cs) => ldAgg k.agg (c = true ∧ off + k.sz ≤ cs.length) (c = true ∧ off < cs.length) (.agg ((cs.drop off).take k.sz)) (cs.getD off (.f k.zero)) σ
    | _ => .bad
  | some (c, .rp id sz i off), some k => match lk id σ.h with
    | some (.row _ sz' xs) => ldAgg k.agg (c = true ∧ sz = sz' ∧ i < xs.length ∧ off + k.sz ≤ sz) (c = true ∧ sz = sz' ∧ i < xs.length ∧ off < sz)
        (.f (.agg (((xs.getD i k.zero).cells.drop off).take k.sz))) (.f ((xs.getD i k.zero).cells.getD off k.zero)) σ
    | _ => .bad
  | some (c, .f (.p x off)), some k =>
    ldAgg k.agg (c = true ∧ off + k.sz ≤ x.cells.length) (c = true ∧ off < x.cells.length) (.f (.agg ((x.cells.drop off).take k.sz))) (.f (x.cells.getD off k.zero)) σ
  | _, _ => .bad

def writeAt {α : Type} (cs : List α) (off : Nat) : List α → List α
  | [] => cs
  | v :: vs => writeAt (cs.set off v) (off + 1) vs

/-- an owned slice is frozen where it is put into something: its name goes -/
def release (σ : St) : AV → Option (Prop × FV × St)
  | .sl id sz off len => match lk id σ.h with
    | some (.row _ sz' xs) => some (sz = sz' ∧ off + len ≤ xs.length, .sl sz ((xs.drop off).take len), ⟨σ.t, hdel id σ.h, σ.n⟩)
    | _ => none
  | .agg xs => match rels σ xs with | some (c, ys, σ') => some (c, .agg ys, σ') | none => none
  | .tup xs => match rels σ xs with | some (c, ys, σ') => some (c, .tup ys, σ') | none => none
  | .clo f a b => match rels σ a with
    | some (c, as, σ1) => match rels σ1 b with
      | some (d, bs, σ2) => some (c ∧ d, .clo f as bs, σ2)
      | none => none
    | none => none
  | .f x => some (True, x, σ)
  | _ => none
where rels (σ : St) : List AV → Option (Prop × List FV × St)
  | [] => some (True, [], σ)
  | x :: xs => match release σ x with
    | some (c, y, σ1) => match rels σ1 xs with
      | some (d, ys, σ2) => some (c ∧ d, y :: ys, σ2)
      | none => none
    | none => none

def FV.okE : FV → Bool
  | .tup _ => false
  | _ => true
def aStoreRow (c : Prop) (id i off sz : Nat) (k : TK) (T : TypeId) (sz' : Nat) (xs : List FV) : Option (Prop × FV × St) → Res
  | some (d, y, σ') => .val (c ∧ d ∧ lk id σ'.h = some (.row T sz' xs) ∧ i < xs.length ∧ off + k.sz ≤ sz ∧ sz = sz' ∧ y.cells.length = k.sz ∧ y.okE = true ∧ k.sz ≠ 0) (.tup [])
      ⟨σ'.t, hset id (.row T sz' (xs.set i (bif sz == 1 then y else .agg (writeAt (xs.getD i k.zero).cells off y.cells)))) σ'.h, σ'.n⟩
  | none => .bad
def aStore (σ : St) : Option (Bool × AV) → Option (Bool × AV) → Option TK → Res
  | some (c, .ptr id off), some (d, v), some k => match lk id σ.h with
    | some (.cells U cs) => .val (c = true ∧ d = true ∧ v.cells.length = k.sz ∧ off + k.sz ≤ cs.length ∧ v.cells.all AV.one = true) (.tup []) ⟨σ.t, hset id (.cells U (writeAt cs off v.cells)) σ.h, σ.n⟩
    | _ => .bad
  | some (c, .rp id sz i off), some (d, v), some k => match lk id σ.h with
    | some (.row T sz' xs) => aStoreRow (c = true ∧ d = true) id i off sz k T sz' xs (release σ v)
    | _ => .bad
  | _, _, _ => .bad

def fldAt (i : Nat) : Option TK → Option (Nat × TypeId)
  | some ⟨_, _, _, _, .struct fs⟩ => fs[i]?
  | _ => none
def aFieldAddr (σ : St) : Option (Bool × AV) → Option (Nat × TypeId) → Res
  | some (c, .ptr id off), some (o, _) => .val (c = true) (.ptr id (off + o)) σ
  | some (c, .rp id sz i off), some (o, _) => .val (c = true) (.rp id sz i (off + o)) σ
  | some (c, .f (.p x off)), some (o, _) => .val (c = true) (.f (.p x (off + o))) σ
  | _, _ => .bad

def partOf (σ : St) (c : Prop) (cs : List AV) (o : Nat) : Option TK → Res
  | some k => ldAgg k.agg (c ∧ o + k.sz ≤ cs.length) (c ∧ o < cs.length) (.agg ((cs.drop o).take k.sz)) (cs.getD o (.f k.zero)) σ
  | none => .bad
def aField (σ : St) : Option (Bool × AV) → Option (Nat × TypeId) → Res
  | some (c, .agg cs), some (o, e) => partOf σ (c = true) cs o (tk e)
  | some (c, .f (.agg cs)), some (o, e) => match tk e with
    | some k => ldAgg k.agg (c = true ∧ o + k.sz ≤ cs.length) (c = true ∧ o < cs.length) (.f (.agg ((cs.drop o).take k.sz))) (.f (cs.getD o k.zero)) σ
    | none => .bad
  | _, _ => .bad

def idxAddrE (σ : St) (c : Prop) (n : Int) : AV → Option TK → Res
  | .f (.sl sz xs), some k => .val (c ∧ 0 ≤ n ∧ n < xs.length ∧ k.sz = sz) (.f (.p (xs.getD n.toNat k.zero) 0)) σ
  | .sl id sz off len, some k => .val (c ∧ 0 ≤ n ∧ n < len ∧ k.sz = sz) (.rp id sz (off + n.toNat) 0) σ
  | _, _ => .bad
def arrAddrE (σ : St) (c : Prop) (n : Int) (len : Nat) : AV → Option TK → Res
  | .ptr id off, some k => .val (c ∧ 0 ≤ n ∧ n < len) (.ptr id (off + n.toNat * k.sz)) σ
  | .rp id sz i off, some k => .val (c ∧ 0 ≤ n ∧ n < len) (.rp id sz i (off + n.toNat * k.sz)) σ
  | .f (.p x off), some k => .val (c ∧ 0 ≤ n ∧ n < len) (.f (.p x (off + n.toNat * k.sz))) σ
  | _, _ => .bad
def aIndexAddr (σ : St) : Option (Bool × AV) → Option (Bool × AV) → Option TK → Res
  | some (c, v), some (d, .f (.v (.int _ n))), some ⟨_, _, _, _, .slice e⟩ => idxAddrE σ (c = true ∧ d = true) n v (tk e)
  | some (c, v), some (d, .f (.v (.int _ n))), some ⟨_, _, _, _, .array len e⟩ => arrAddrE σ (c = true ∧ d = true) n len v (tk e)
  | _, _, _ => .bad

def arrIdx (σ : St) (c : Prop) (n : Int) (len : Nat) (cs : List AV) : Option TK → Res
  | some k => ldAgg k.agg (c ∧ 0 ≤ n ∧ n < len ∧ n.toNat * k.sz + k.sz ≤ cs.length) (c ∧ 0 ≤ n ∧ n < len ∧ n.toNat * k.sz < cs.length) (.agg ((cs.drop (n.toNat * k.sz)).take k.sz)) (cs.getD (n.toNat * k.sz) (.f k.zero)) σ
  | none => .bad
def aIndex (σ : St) : Option (Bool × AV) → Option (Bool × AV) → Option TK → Res
  | some (c, .f (.v (.string s))), some (d, .f (.v (.int _ n))), some ⟨_, _, _, _, .str⟩ =>
    .val (c = true ∧ d = true ∧ 0 ≤ n ∧ n < (bl s).length) (.s (.int .u8 ((bl s).getD n.toNat 0).toNat)) σ
  | some (c, .agg cs), some (d, .f (.v (.int _ n))), some ⟨_, _, _, _, .array len e⟩ => arrIdx σ (c = true ∧ d = true) n len cs (tk e)
  | some (c, .f (.agg cs)), some (d, .f (.v (.int _ n))), some ⟨_, _, _, _, .array len e⟩ => arrIdx σ (c = true ∧ d = true) n len (cs.map .f) (tk e)
  | _, _, _ => .bad

/-- the bounds of a slice expression: what must hold, from, to -/
def bnds (σ : St) (len : Nat) : Option Operand → Option Operand → Option (Prop × Nat × Nat)
  | none, none => some (True, 0, len)
  | some l, none => match ev σ l with
    | some (c, .f (.v (.int _ l))) => some (c = true ∧ 0 ≤ l ∧ l ≤ len, l.toNat, len)
    | _ => none
  | none, some h => match ev σ h with
    | some (c, .f (.v (.int _ h))) => some (c = true ∧ 0 ≤ h ∧ h ≤ len, 0, h.toNat)
    | _ => none
  | some l, some h => match ev σ l, ev σ h with
    | some (c, .f (.v (.int _ l))), some (d, .f (.v (.int _ h))) => some (c = true ∧ d = true ∧ 0 ≤ l ∧ l ≤ h ∧ h ≤ len, l.toNat, h.toNat)
    | _, _ => none
def slStr (σ : St) (c : Prop) (s : List UInt8) : Option (Prop × Nat × Nat) → Res
  | some (n, l, h) => .val (c ∧ n) (.s (str ((s.take h).drop l))) σ
  | none => .bad
def slF (σ : St) (c : Prop) (sz : Nat) (xs : List FV) : Option (Prop × Nat × Nat) → Option TK → Res
  | some (n, l, h), some k => .val (c ∧ n ∧ k.sz = sz) (.f (.sl sz ((xs.take h).drop l))) σ
  | _, _ => .bad
def slO (σ : St) (c : Prop) (id sz off : Nat) : Option (Prop × Nat × Nat) → Option TK → Res
  | some (n, l, h), some k => .val (c ∧ n ∧ k.sz = sz) (.sl id sz (off + l) (h - l)) σ
  | _, _ => .bad
def aSlice (σ : St) (lo hi : Option Operand) : Option (Bool × AV) → Option TK → Res
  | some (c, .f (.v (.string s))), some ⟨_, _, _, _, .str⟩ => slStr σ (c = true) (bl s) (bnds σ (bl s).length lo hi)
  | some (c, .f (.sl sz xs)), some ⟨_, _, _, _, .slice e⟩ => slF σ (c = true) sz xs (bnds σ xs.length lo hi) (tk e)
  | some (c, .sl id sz off len), some ⟨_, _, _, _, .slice e⟩ => slO σ (c = true) id sz off (bnds σ len lo hi) (tk e)
  | _, _ => .bad

def aExtract (σ : St) (i : Nat) : Option (Bool × AV) → Res
  | some (c, .tup vs) => aMove σ (match vs[i]? with | some v => some (c, v) | none => none)
  | some (c, .f (.tup vs)) => aMove σ (match vs[i]? with | some v => some (c, .f v) | none => none)
  | _ => .bad

def bldParts (σ : St) (fs : List (Nat × TypeId)) : List (Nat × Operand) → Prop → List AV → Option (Prop × List AV)
  | [], need, cs => some (need, cs)
  | (i, x) :: ps, need, cs => match ev σ x, fs[i]? with
    | some (c, v), some (o, e) => match tk e with
      | some ke => bldParts σ fs ps (need ∧ c = true ∧ v.cells.length = ke.sz ∧ o + ke.sz ≤ cs.length ∧ v.cells.all AV.one = true) (writeAt cs o v.cells)
      | none => none
    | _, _ => none
def aggRes (σ : St) : Option (Prop × List AV) → Res
  | some (need, cs) => .val need (.agg cs) σ
  | none => .bad
def arrFs (n : Nat) (sz : Nat) (e : TypeId) : List (Nat × TypeId) := (List.range n).map fun i => (i * sz, e)
def aBuild (σ : St) (ps : List (Nat × Operand)) : Option TK → Res
  | some ⟨_, _, _, z, .struct fs⟩ => aggRes σ (bldParts tk σ fs ps True (AV.f z).cells)
  | some ⟨_, _, _, z, .array n e⟩ => match tk e with
    | some k => aggRes σ (bldParts tk σ (arrFs n k.sz e) ps True (AV.f z).cells)
    | none => .bad
  | _ => .bad

/-- the parts of a slice's literal, as frozen elements -/
def bslParts (σ : St) (sz : Nat) : List (Nat × Operand) → Prop → List FV → Option (Prop × List FV × St)
  | [], need, xs => some (need, xs, σ)
  | (i, x) :: ps, need, xs => match ev σ x with
    | some (c, v) => match release σ v with
      | some (d, y, σ') => bslParts σ' sz ps (need ∧ c = true ∧ d ∧ i < xs.length ∧ y.cells.length = sz ∧ y.okE = true) (xs.set i y)
      | none => none
    | none => none
def bslRes (T : TypeId) (sz len : Nat) : Option (Prop × List FV × St) → Res
  | some (need, xs, σ) => .val (need ∧ len * sz ≤ 16777216 ∧ len ≤ 16777216) (.sl σ.n sz 0 len) ⟨σ.t, (σ.n, .row T sz xs) :: σ.h, σ.n + 1⟩
  | none => .bad
def bslE (σ : St) (len : Nat) (ps : List (Nat × Operand)) (e : TypeId) : Option TK → Res
  | some k => bslRes e k.sz len (bslParts σ k.sz ps True (List.replicate len k.zero))
  | none => .bad
def aBuildSlice (σ : St) (len : Nat) (ps : List (Nat × Operand)) : Option TK → Res
  | some ⟨_, _, _, _, .slice e⟩ => bslE σ len ps e (tk e)
  | _ => .bad

def mkSl (σ : St) (c : Prop) (l cp : Int) (e : TypeId) : Option TK → Res
  | some k => .val (c ∧ 0 ≤ l ∧ l ≤ cp ∧ cp * k.bytes ≤ 281474976710656 ∧ cp ≤ 281474976710656 ∧ k.sz ≠ 0) (.sl σ.n k.sz 0 l.toNat) ⟨σ.t, (σ.n, .row e k.sz (List.replicate l.toNat k.zero)) :: σ.h, σ.n + 1⟩
  | none => .bad
def aMakeSlice (σ : St) : Option (Bool × AV) → Option (Bool × AV) → Option TK → Res
  | some (c, .f (.v (.int _ l))), some (d, .f (.v (.int _ cp))), some ⟨_, _, _, _, .slice e⟩ => mkSl σ (c = true ∧ d = true) l cp e (tk e)
  | _, _, _ => .bad

def aLen (σ : St) : Option (Bool × AV) → Option TK → Res
  | some (c, .f (.v (.string s))), some ⟨_, _, _, _, .str⟩ => .val (c = true) (.s (.int .i64 (bl s).length)) σ
  | some (c, .f (.sl _ xs)), some ⟨_, _, _, _, .slice _⟩ => .val (c = true) (.s (.int .i64 xs.length)) σ
  | some (c, .f (.v (.slice none 0 0))), some ⟨_, _, _, _, .slice _⟩ => .val (c = true) (.s (.int .i64 0)) σ
  | some (c, .sl _ _ _ len), some ⟨_, _, _, _, .slice _⟩ => .val (c = true) (.s (.int .i64 len)) σ
  | _, _ => .bad

def apRow (σ : St) (c : Prop) (bytes : Nat) (T : TypeId) (sz : Nat) (xs ys : List FV) (h : Heap) : Res :=
  .val (c ∧ (xs.length + ys.length) * bytes ≤ 140737488355328 ∧ xs.length + ys.length ≤ 140737488355328) (.sl σ.n sz 0 (xs.length + ys.length)) ⟨σ.t, (σ.n, .row T sz (xs ++ ys)) :: h, σ.n + 1⟩
def apE (σ : St) (c : Prop) (e : TypeId) (k : TK) : AV → Option (Prop × List FV) → Res
  | .f (.v (.slice none 0 0)), some (n, ys) => apRow σ (c ∧ n ∧ k.sz ≠ 0) k.bytes e k.sz [] ys σ.h
  | .sl id sz off len, some (n, ys) => match lk id σ.h with
    | some (.row T sz' xs) => apRow σ (c ∧ n ∧ k.sz ≠ 0 ∧ off = 0 ∧ len ≤ xs.length ∧ sz = k.sz ∧ sz' = k.sz ∧ T = e) k.bytes e k.sz (xs.take len) ys (hdel id σ.h)
    | _ => .bad
  | _, _ => .bad
def apT (σ : St) (c : Prop) (e : TypeId) (s x : AV) : Option TK → Res
  | some k => apE σ c e k s (rdSl σ k.sz x)
  | none => .bad
def aAppend (σ : St) (T U : TypeId) : Option (Bool × AV) → Option (Bool × AV) → Option TK → Res
  | some (c, s), some (d, x), some ⟨_, _, _, _, .slice e⟩ => apT σ (T = U ∧ c = true ∧ d = true) e s x (tk e)
  | _, _, _ => .bad

def aRange (σ : St) : Option (Bool × AV) → Option TK → Res
  | some (c, .f (.v (.string s))), some ⟨_, _, _, _, .str⟩ => .val (c = true) (.it σ.n) ⟨σ.t, (σ.n, .siter (bl s) 0) :: σ.h, σ.n + 1⟩
  | _, _ => .bad
def dec (s : List UInt8) (pos : Nat) : Nat × Nat := Utf8.decode ⟨⟨s⟩⟩ pos
def nextS (σ : St) (c : Prop) (id : Nat) (s : List UInt8) (pos : Nat) : Bool → Res
  | true => .val (c ∧ pos < s.length) (.tup [.s (.bool true), .s (.int .i64 pos), .s (.int .i32 (dec s pos).1)]) ⟨σ.t, hset id (.siter s (pos + (dec s pos).2)) σ.h, σ.n⟩
  | false => .val (c ∧ ¬ pos < s.length) (.tup [.s (.bool false)]) σ
def aNext (σ : St) : Option (Bool × AV) → Bool → Res
  | some (c, .it id), true => match lk id σ.h with
    | some (.siter s pos) => nextS σ (c = true) id s pos (decide (pos < s.length))
    | _ => .bad
  | _, _ => .bad

def aMkFunc (σ : St) (fn : Fn) : Option (Bool × List AV) → Option (Bool × List AV) → Res
  | some (c, a), some (d, b) => match fn with
    | .func f => .val (c = true ∧ d = true) (.clo f a b) σ
    | _ => .bad
  | _, _ => .bad

def aCallV : Option (Bool × AV) → Option (Bool × List AV) → Res
  | some (c, .clo f first cap), some (d, vs) => .call (c = true ∧ d = true) f (first ++ (vs ++ cap))
  | some (c, .f (.clo f first cap)), some (d, vs) => .call (c = true ∧ d = true) f (first.map .f ++ (vs ++ cap.map .f))
  | _, _ => .bad

def aop (σ : St) (op : Op) : Res := match op with
  | .move x => aMove σ (ev σ x)
  | .assign x => aMove σ (ev σ x)
  | .pick c a b => aPick σ (ev σ c) (ev σ a) (ev σ b)
  | .binOp op T x y _ => aBin tk σ op T (ev σ x) (ev σ y)
  | .unOp .not _ x => aNot σ (ev σ x)
  | .unOp .neg _ x => aNeg σ (ev σ x)
  | .unOp .xor _ x => aXor σ (ev σ x)
  | .convert s d x => aConv tk σ (ev σ x) (tk s) (tk d)
  | .nilCheck x => aNil σ (ev σ x)
  | .alloc T => aAlloc σ T (tk T)
  | .box T x => aBox σ T (ev σ x)
  | .load T x => aLoad σ (ev σ x) (tk T)
  | .store T x y => aStore σ (ev σ x) (ev σ y) (tk T)
  | .fieldAddr S x i => aFieldAddr σ (ev σ x) (fldAt i (tk S))
  | .field S x i => aField tk σ (ev σ x) (fldAt i (tk S))
  | .indexAddr T x i => aIndexAddr tk σ (ev σ x) (ev σ i) (tk T)
  | .index T x i => aIndex tk σ (ev σ x) (ev σ i) (tk T)
  | .slice T x lo hi none => aSlice tk σ lo hi (ev σ x) (tk T)
  | .extract x i => aExtract σ i (ev σ x)
  | .build T ps => aBuild tk σ ps.toList (tk T)
  | .buildSlice T len ps => aBuildSlice tk σ len ps.toList (tk T)
  | .makeSlice T l c => aMakeSlice tk σ (ev σ l) (ev σ c) (tk T)
  | .range T x => aRange σ (ev σ x) (tk T)
  | .next it isS => aNext σ (ev σ it) isS
  | .makeFunc fn first cap => aMkFunc σ fn (evl σ first.toList) (evl σ cap.toList)
  | .call c => match c.callee with
    | .builtin .len => match c.args.toList, c.argTypes.toList with
      | [x], [t] => aLen σ (ev σ x) (tk t)
      | _, _ => .bad
    | .builtin .append => match c.args.toList, c.argTypes.toList with
      | [s, x], [t, u] => aAppend tk σ t u (ev σ s) (ev σ x) (tk t)
      | _, _ => .bad
    | .value f => aCallV (ev σ f) (evl σ c.args.toList)
    | _ => .bad
  | _ => .bad

def gd (want : Bool) : Option (Bool × AV) → Option Bool
  | some (c, .f (.v (.bool b))) => some (c && (match want with | true => b | false => !b))
  | _ => none
def guardOf (ops : List Oper) (σ : St) : Option (Nat × Bool) → Option Bool
  | none => some true
  | some (j, want) => match (ops[j]?).bind (·.dst) with
    | some d => gd want (ev σ (.tmp d))
    | none => none
end
end Go.Fw

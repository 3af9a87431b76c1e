/- The abstract machine: values that are trees, objects that are written, and what its operations come to. No premise; definitions alone. -/
import Derived.Test.YthjniafhfboggaaGreatDoorA0
namespace Go.Ab
open Go

/-- May a slice be appended to: no; yes, its array is full; yes, what lies behind it in its block is its own. -/
inductive Own where
  | no | shut | tail
  deriving DecidableEq, Inhabited

inductive V where
  | sc (v : Value)
  | slice (o : Own) (sz : Nat) (l : List (List V))
  | ptr (id off : Nat)
  | imm (cells : List V)
  | arr (id off n sz : Nat)
  | map (id : Nat)
  | func (fn : Fn) (first captured : List V)
  | iface (t : TypeId) (v : V)
  | agg (cells : List V)
  | tup (vs : List V)

instance : Inhabited V := ⟨.sc (.bool false)⟩

abbrev V.int (n : Int) : V := .sc (.int .i64 n)
abbrev V.bool (b : Bool) : V := .sc (.bool b)
abbrev V.str (s : ByteArray) : V := .sc (.string s)
abbrev V.nilp : V := .sc (.pointer none)
abbrev V.undef : V := .sc (.tuple #[])

def V.cells : V → List V
  | .agg cs => cs
  | v => [v]

@[simp] def Own.er : Own → Own
  | .no => .no
  | .shut => .shut
  | .tail => .no
def V.eraseLeaf : V → V
  | .slice o sz l => .slice o.er sz l
  | v => v

/-- The value without leave to write behind it. -/
def V.erase : V → V
  | .agg cs => .agg (cs.map V.eraseLeaf)
  | v => v.eraseLeaf

/-- The cells of a box that is made of it. -/
def V.boxed : V → List V
  | .agg cs => cs
  | v => [v.eraseLeaf]

def V.eraseAll : V → V
  | .tup vs => .tup (vs.map V.erase)
  | v => v.erase

/-- May a cell hold it? -/
def V.leaf : V → Bool
  | .sc (.agg _) | .sc (.tuple _) | .agg _ | .tup _ => false
  | _ => true

mutual
/-- All objects that a value leads to have numbers below n. -/
def V.inside (n : Nat) : V → Bool
  | .sc _ => true
  | .slice _ _ l => insideLL n l
  | .ptr id _ => decide (id < n)
  | .imm cs => insideL n cs
  | .arr id _ _ _ => decide (id < n)
  | .map id => decide (id < n)
  | .func _ a b => insideL n a && insideL n b
  | .iface _ v => v.inside n
  | .agg cs => insideL n cs
  | .tup vs => insideL n vs
def insideL (n : Nat) : List V → Bool
  | [] => true
  | v :: vs => v.inside n && insideL n vs
def insideLL (n : Nat) : List (List V) → Bool
  | [] => true
  | l :: ls => insideL n l && insideLL n ls
end

inductive Obj where
  | cells (cs : List V)
  | row (e : TypeId) (cs : List V)
  | var (t : TypeId) (cs : List V)
  | map (es : List (V × V))
  | mapD (es : List (V × V))
  | dead
  deriving Inhabited

/-- The objects; those below base are not written. -/
structure St where
  objs : List Obj
  base : Nat
  deriving Inhabited

inductive EV where
  | v (x : V)
  | box (cs : List V)
  deriving Inhabited

inductive Opd where
  | slot (i : Nat)
  | res (j : Nat)
  | const (v : V)
  deriving Inhabited

inductive Cmp where
  | eql | neq
  deriving DecidableEq, Inhabited

/-- What an operation does to values and objects. -/
inductive A where
  | mov
  | lit (v : V)
  | pick
  | ibin (op : BinOp)
  | shift (op : BinOp)
  | sbin (op : BinOp)
  | bbin (c : Cmp)
  | nilp (c : Cmp)
  | nilif (c : Cmp)
  | not
  | neg
  | ptrEq (c : Cmp)
  | ptrMov
  | aggEq (kd : Nat) (c : Cmp)
  | chr
  | sliceData
  | unsafeStr (e : TypeId)
  | conv (k : IntKind)
  | mkIface (t : TypeId)
  | mkFunc (fn : Fn) (nfirst : Nat)
  | mkMap
  | lookup (kd : Nat) (zero : V) (ok : Bool)
  | mapSet (kd : Nat)
  | mapDel (kd : Nat)
  | mapEntry (kd : Nat) (zero : V)
  | entryStore
  | build (zero : List V) (parts : List (Nat × Nat))
  | buildSlice (sz len : Nat) (zero : List V) (parts : List Nat)
  | makeSlice (zero : List V) (arr : Bool)
  | alloc (t : TypeId) (zero : List V)
  | box (t : TypeId)
  | load (n : Nat) (agg : Bool)
  | store (n : Nat)
  | nilCheck
  | fieldAddr (off : Nat)
  | field (off n : Nat) (agg : Bool)
  | indexAddr (sz : Nat)
  | indexAgg (sz n : Nat) (agg : Bool)
  | indexStr
  | sliceS (sz : Nat) (lo hi mx : Bool)
  | sliceStr (lo hi : Bool)
  | len (k : Nat)
  | append (sz : Nat) (arr : Bool)
  | appendB (e : TypeId)
  | appendNil (sz : Nat) (arr : Bool)
  | extract (i : Nat)
  | str
  | bytes
  | assertT (t : TypeId) (zero : V) (ok : Bool)
  | assertI (yes no : List TypeId) (zero : V) (ok : Bool)
  | call (f : FuncId) (ro : Bool)
  | callOwn (f : FuncId)
  | callv (ro : Bool)
  | invoke (table : List (TypeId × FuncId)) (ro : Bool)
  | bad
  | imin
  | clearA (sz : Nat) (zero : List V)
  | callNew (f : FuncId)
  | nilsl (c : Cmp)
  | allocArr (zero : List V)
  | indexPtr (sz n : Nat)
  | slicePtr (sz n : Nat) (lo hi : Bool)
  | capS
  | appendZ (sz : Nat) (zero : List V)
  | loadT (t : TypeId) (off : Nat)
  | callF (f : FuncId) (ks : List (TypeId × Nat))
  deriving Inhabited

/-- What a step does: an operation whose operands stay where they are; or one that takes what it is given, with the leave to append. -/
inductive K where
  | nop (k : Nat)
  | act (a : A)
  | move (j : Nat)
  | mvt (slot : Nat)
  | own (a : A) (j : Nat)
  | allocBox (zero : List V)
  | boxBox
  | loadBox (slot off n : Nat) (agg : Bool)
  | takeBox (slot off : Nat)
  | storeBox (slot off n : Nat)
  | keepBox (slot off n j : Nat)
  | boxTake (j : Nat)
  deriving Inhabited

structure MOper where
  dst : Option Nat
  k : K
  args : List Opd
  guard : Option (Nat × Bool)
  deriving Inhabited

inductive MCode where
  | skip
  | reg (ops : List MOper)
  | seq (a b : MCode)
  | cond (c : Opd) (a b : MCode)
  | block (id : Nat) (b : MCode)
  | loop (b : MCode)
  | exit (id : Nat)
  | ret
  deriving Inhabited

inductive MRes where
  | slot (i : Nat)
  | box (i n : Nat) (agg : Bool)
  | ptr (i n : Nat) (agg : Bool)
  deriving Inhabited

structure MFunc where
  nargs : Nat
  slots : List Tmp
  body : MCode
  res : List MRes
  deriving Inhabited

/-! ## operations -/

def fits (lo hi : Nat) : Int → Bool
  | .ofNat m => Nat.blt m hi
  | .negSucc m => Nat.blt m lo
/-- As the kind's own wrap, quick for numbers that it holds. -/
def wrapF (k : IntKind) (n : Int) : Int := match k with
  | .i64 => if fits 9223372036854775808 9223372036854775808 n then n else k.wrap n
  | .u8 => if fits 0 256 n then n else k.wrap n
  | k => k.wrap n
theorem wrapF_eq (k : IntKind) (n : Int) : wrapF k n = k.wrap n := by
  have hp : (2 : Int) ^ 64 = 18446744073709551616 := by decide
  have hq : (2 : Int) ^ 63 = 9223372036854775808 := by decide
  have hr : (2 : Int) ^ 8 = 256 := by decide
  unfold wrapF
  split
  · split
    · rename_i h
      have hb : -9223372036854775808 ≤ n ∧ n < 9223372036854775808 := by
        cases n with
        | ofNat m => simp [fits, Nat.blt] at h; simp only [Int.ofNat_eq_natCast]; constructor <;> omega
        | negSucc m => simp [fits, Nat.blt] at h; constructor <;> omega
      simp only [IntKind.wrap, IntKind.bits, IntKind.signed, Bool.true_and, hp, show 64 - 1 = 63 from rfl, hq]
      split
      · rename_i h2
        have := of_decide_eq_true h2
        omega
      · rename_i h2
        have : ¬ (n % 18446744073709551616 ≥ 9223372036854775808) := fun h3 => h2 (decide_eq_true h3)
        omega
    · rfl
  · split
    · rename_i h
      have hb : 0 ≤ n ∧ n < 256 := by
        cases n with
        | ofNat m => simp [fits, Nat.blt] at h; simp only [Int.ofNat_eq_natCast]; constructor <;> omega
        | negSucc m => simp [fits, Nat.blt] at h
      simp only [IntKind.wrap, IntKind.bits, IntKind.signed, Bool.false_and, Bool.false_eq_true, if_false, hr]
      omega
    · rfl
  · rfl

def bitsBin (op : BinOp) (k : IntKind) (x y : Int) : Option Value :=
  let a := BitVec.ofInt k.bits x
  let b := BitVec.ofInt k.bits y
  match op with
  | .and => some (.int k (wrapF k (a &&& b).toNat))
  | .or => some (.int k (wrapF k (a ||| b).toNat))
  | .xor => some (.int k (wrapF k (a ^^^ b).toNat))
  | _ => none

def intBin (op : BinOp) (k : IntKind) (a b : Int) : Option Value :=
  match op with
  | .add => some (.int k (wrapF k (a + b)))
  | .sub => some (.int k (wrapF k (a - b)))
  | .mul => some (.int k (wrapF k (a * b)))
  | .quo => if b = 0 then none else some (.int k (wrapF k (a.tdiv b)))
  | .rem => if b = 0 then none else some (.int k (a.tmod b))
  | .eql => some (.bool (a == b))
  | .neq => some (.bool (a != b))
  | .lss => some (.bool (decide (a < b)))
  | .leq => some (.bool (decide (a ≤ b)))
  | .gtr => some (.bool (decide (a > b)))
  | .geq => some (.bool (decide (a ≥ b)))
  | .and => bitsBin .and k a b
  | .or => bitsBin .or k a b
  | .xor => bitsBin .xor k a b
  | _ => none

def shiftBin (op : BinOp) (k : IntKind) (a b : Int) : Option Value :=
  if b < 0 then none else
  match op with
  | .shl => some (.int k (wrapF k (a * 2 ^ (min b.toNat k.bits))))
  | .shr => some (.int k (a.fdiv (2 ^ (min b.toNat k.bits))))
  | _ => none

/-- Texts by their bytes. -/
def strLt (a b : ByteArray) : Bool := Op.bytesLess a.data.toList b.data.toList

def strBin (op : BinOp) (a b : ByteArray) : Option Value :=
  match op with
  | .add => if a.size + b.size ≤ 2 ^ 40 then some (.string (a ++ b)) else none
  | .eql => some (.bool (decide (a = b)))
  | .neq => some (.bool (!decide (a = b)))
  | .lss => some (.bool (strLt a b))
  | .leq => some (.bool (strLt a b || decide (a = b)))
  | .gtr => some (.bool !(strLt a b || decide (a = b)))
  | .geq => some (.bool !(strLt a b))
  | _ => none

def Cmp.on (c : Cmp) (b : Bool) : Bool := match c with | .eql => b | .neq => !b

def scEq : Value → Value → Option Bool
  | .int k a, .int k' b => if k = k' then some (a == b) else none
  | .string a, .string b => some (decide (a = b))
  | .bool a, .bool b => some (a == b)
  | _, _ => none

def keysEq : List V → List V → Option Bool
  | [], [] => some true
  | .sc a :: as, .sc b :: bs => match scEq a b with
    | none => none
    | some e => match keysEq as bs with
      | none => none
      | some r => some (e && r)
  | _, _ => none

/-- Are two keys the same? -/
def keyEq : V → V → Option Bool
  | .sc a, .sc b => scEq a b
  | .agg as, .agg bs => keysEq as bs
  | _, _ => none

def scKind : V → Option Nat
  | .sc (.int _ _) => some 0
  | .sc (.string _) => some 1
  | .sc (.bool _) => some 2
  | _ => none
def kindsOK : Nat → List V → Bool
  | c, [] => c == 0
  | c, v :: vs => (match scKind v with
    | some k => c % 4 == k + 1
    | none => false) && kindsOK (c / 4) vs

/-- Is it a key of this kind: a number, a text, a truth value; from 4 on a row of such, kind by kind? -/
def kindOK (kd : Nat) (v : V) : Bool := match v with
  | .agg cs => decide (4 ≤ kd) && kindsOK (kd - 4) cs
  | v => scKind v == some kd

def mapIdx (k : V) : List (V × V) → Option (Option Nat)
  | [] => some none
  | (k', _) :: es => match keyEq k k' with
    | none => none
    | some true => some (some 0)
    | some false => match mapIdx k es with
      | none => none
      | some none => some none
      | some (some i) => some (some (i + 1))

def mapFind (k : V) (es : List (V × V)) : Option (Option V) := match mapIdx k es with
  | none => none
  | some none => some none
  | some (some i) => match es[i]? with
    | some (_, v) => some (some v)
    | none => none

def mapPut (k v : V) (es : List (V × V)) : Option (List (V × V)) := match mapIdx k es with
  | none => none
  | some none => some (es ++ [(k, v)])
  | some (some i) => match es[i]? with
    | some (k', _) => some (es.set i (k', v))
    | none => none

def mapDrop (k : V) (es : List (V × V)) : Option (List (V × V)) := match mapIdx k es with
  | none => none
  | some none => some es
  | some (some i) => some (es.eraseIdx i)

/-- A part of a row of cells. -/
def part (cs : List V) (off n : Nat) (agg : Bool) : Option V :=
  if off + n ≤ cs.length then
    if agg then some (.agg ((cs.drop off).take n)) else (if n = 1 then cs[off]? else none)
  else none

/-- A row of cells with some of them overwritten. -/
def splice (cs : List V) (off : Nat) (xs : List V) : List V := cs.take off ++ xs ++ cs.drop (off + xs.length)

def fillParts (cs : List V) : List (Nat × Nat) → List V → Option (List V)
  | [], [] => some cs
  | (off, n) :: ps, x :: xs =>
    if x.cells.length = n ∧ off + n ≤ cs.length then fillParts (splice cs off (x.erase.cells)) ps xs else none
  | _, _ => none

def fillElems (sz : Nat) (l : List (List V)) : List Nat → List V → Option (List (List V))
  | [], [] => some l
  | i :: is, x :: xs => if x.cells.length = sz ∧ i < l.length ∧ x.cells.all V.leaf = true then fillElems sz (l.set i x.erase.cells) is xs else none
  | _, _ => none

def chunks (sz : Nat) : Nat → List V → List (List V)
  | 0, _ => []
  | n + 1, cs => cs.take sz :: chunks sz n (cs.drop sz)

/-- The greatest length to which a slice grows here. -/
def roomy : Nat := 2 ^ 32

def St.get (s : St) (id : Nat) : Option (List V) :=
  match s.objs[id]? with
  | some (.cells cs) => some cs
  | _ => none

/-- A variable's cells, and how they are put back. -/
def Obj.cs : Obj → Option (List V)
  | .cells cs => some cs
  | .var _ cs => some cs
  | _ => none
def Obj.with (o : Obj) (cs : List V) : Obj := match o with
  | .var t _ => .var t cs
  | _ => .cells cs

def St.getRow (s : St) (id : Nat) : Option (TypeId × List V) :=
  match s.objs[id]? with
  | some (.row e cs) => some (e, cs)
  | _ => none

def St.getMap (s : St) (id : Nat) : Option (List (V × V)) :=
  match s.objs[id]? with
  | some (.map es) => some es
  | _ => none

/-- A map, worn (entries were taken out of it) or not. -/
def St.getMapL (s : St) (id : Nat) : Option (List (V × V)) :=
  match s.objs[id]? with
  | some (.map es) => some es
  | some (.mapD es) => some es
  | _ => none

def St.set (s : St) (id : Nat) (o : Obj) : St := { s with objs := s.objs.set id o }
def St.push (s : St) (o : Obj) : St := { s with objs := s.objs ++ [o] }

/-- The elements of a slice. -/
def elems (s : St) (sz : Nat) : V → Option (List (List V))
  | .slice _ sz' l => if sz' = sz then some l else none
  | .arr id off n sz' => if sz' = sz then
      match s.get id with
      | some cs => if off + n * sz ≤ cs.length then some (chunks sz n (cs.drop off)) else none
      | none => none
    else none
  | .sc (.string b) => if sz = 1 then some (b.data.toList.map fun c => [.sc (.int .u8 c.toNat)]) else none
  | _ => none

def toBytes : List (List V) → Option (List UInt8)
  | [] => some []
  | [.sc (.int .u8 n)] :: l => match toBytes l with
    | some bs => some (UInt8.ofNat n.toNat :: bs)
    | none => none
  | _ => none

def bound (hi : Int) (n : Nat) : Option Nat := if 0 ≤ hi ∧ hi ≤ n then some hi.toNat else none

def sliceArgs (lo hi mx : Bool) (n : Nat) : List V → Option (Nat × Nat × Bool)
  | xs => match lo, hi, mx, xs with
    | false, false, false, [] => some (0, n, false)
    | true, false, false, [.sc (.int _ l)] => (bound l n).map fun l => (l, n, false)
    | false, true, false, [.sc (.int _ h)] => (bound h n).map fun h => (0, h, false)
    | true, true, false, [.sc (.int _ l), .sc (.int _ h)] => match bound h n with
      | some h => (bound l h).map fun l => (l, h, false)
      | none => none
    | false, true, true, [.sc (.int _ h), .sc (.int _ m)] => if h = m then (bound h n).map fun h => (0, h, true) else none
    | _, _, _, _ => none

abbrev CallT := FuncId → List V → St → Option (V × St)

/-- A row that was made by what comes to its end: from now on it is not written. -/
def freezeLeaf (s : St) (n : Nat) : V → Option V
  | .arr id off k sz => if n ≤ id then
      match elems s sz (.arr id off k sz) with
      | some l => some (.slice .no sz l)
      | none => none
    else some (.arr id off k sz)
  | v => some v
def freezeList (s : St) (n : Nat) : List V → Option (List V)
  | [] => some []
  | v :: vs => match freezeLeaf s n v with
    | none => none
    | some x => match freezeList s n vs with
      | none => none
      | some xs => some (x :: xs)
def freezeV (s : St) (n : Nat) : V → Option V
  | .agg cs => match freezeList s n cs with
    | some xs => some (.agg xs)
    | none => none
  | v => freezeLeaf s n v
def freezeAll (s : St) (n : Nat) : V → Option V
  | .tup vs => match freezeParts s n vs with
    | some xs => some (.tup xs)
    | none => none
  | v => freezeV s n v
  where
  freezeParts (s : St) (n : Nat) : List V → Option (List V)
  | [] => some []
  | v :: vs => match freezeV s n v with
    | none => none
    | some x => match freezeParts s n vs with
      | none => none
      | some xs => some (x :: xs)

/-- A call whose writes are to what it makes itself; that is dropped. -/
def callRO (call : CallT) (f : FuncId) (xs : List V) (s : St) : Option (V × St) :=
  match call f xs { s with base := s.objs.length } with
  | some (r, s') => match freezeAll s' s.objs.length r with
    | some r' => if r'.inside s.objs.length then some (r', s) else none
    | none => none
  | none => none

/-- Such a call whose row may be appended to. -/
def callOwn (call : CallT) (f : FuncId) (xs : List V) (s : St) : Option (V × St) :=
  match call f xs { s with base := s.objs.length } with
  | some (.arr id off n sz, s') => if s.objs.length ≤ id ∧ off = 0 then
      match s'.get id with
      | some cs => if cs.length = n * sz ∧ insideL s.objs.length cs = true then some (.slice .tail sz (chunks sz n cs), s) else none
      | none => none
    else none
  | some (.slice .shut sz [], _) => some (.slice .shut sz [], s)
  | _ => none

/-- A call that makes objects and writes none that there were. -/
def callNew (call : CallT) (f : FuncId) (xs : List V) (s : St) : Option (V × St) :=
  match call f xs { s with base := s.objs.length } with
  | some (r, s') => some (r, ⟨s.objs ++ s'.objs.drop s.objs.length, s.base⟩)
  | none => none

def callBy (call : CallT) (ro : Bool) (f : FuncId) (xs : List V) (s : St) : Option (V × St) :=
  if ro then callRO call f xs s else call f xs s

def look (t : TypeId) : List (TypeId × FuncId) → Option FuncId
  | [] => none
  | (u, f) :: r => if t = u then some f else look t r

abbrev ActR := Option (V × St)

def actPick (xs : List V) (s : St) : ActR := match xs with
  | [.sc (.bool c), x, y] => some (if c then x else y, s)
  | _ => none
def actIbin (op : BinOp) (xs : List V) (s : St) : ActR := match xs with
  | [.sc (.int k a), .sc (.int k' b)] => if k = k' then (intBin op k a b).map fun v => (.sc v, s) else none
  | _ => none
def actShift (op : BinOp) (xs : List V) (s : St) : ActR := match xs with
  | [.sc (.int k a), .sc (.int _ b)] => (shiftBin op k a b).map fun v => (.sc v, s)
  | _ => none
def actSbin (op : BinOp) (xs : List V) (s : St) : ActR := match xs with
  | [.sc (.string a), .sc (.string b)] => (strBin op a b).map fun v => (.sc v, s)
  | _ => none
def actBbin (c : Cmp) (xs : List V) (s : St) : ActR := match xs with
  | [.sc (.bool a), .sc (.bool b)] => some (.bool (c.on (a == b)), s)
  | _ => none
def actNilp (c : Cmp) (xs : List V) (s : St) : ActR := match xs with
  | [.sc (.pointer none), .sc (.pointer none)] => some (.bool (c.on true), s)
  | [.ptr _ _, .sc (.pointer none)] => some (.bool (c.on false), s)
  | [.imm _, .sc (.pointer none)] => some (.bool (c.on false), s)
  | _ => none
def actNilif (c : Cmp) (xs : List V) (s : St) : ActR := match xs with
  | [.sc .nilIface, .sc .nilIface] => some (.bool (c.on true), s)
  | [.iface _ _, .sc .nilIface] => some (.bool (c.on false), s)
  | _ => none
def actNot (xs : List V) (s : St) : ActR := match xs with
  | [.sc (.bool b)] => some (.bool (!b), s)
  | _ => none
def actNeg (xs : List V) (s : St) : ActR := match xs with
  | [.sc (.int k a)] => some (.sc (.int k (wrapF k (0 - a))), s)
  | _ => none
def actPtrEq (c : Cmp) (xs : List V) (s : St) : ActR := match xs with
  | [.ptr i o, .ptr j p] => if i = j then some (.bool (c.on (decide (o = p))), s) else none
  | _ => none
def actAggEq (kd : Nat) (c : Cmp) (xs : List V) (s : St) : ActR := match xs with
  | [.agg as, .agg bs] => if kindOK kd (.agg as) = true then (keysEq as bs).map fun e => (.bool (c.on e), s) else none
  | _ => none
def actChr (xs : List V) (s : St) : ActR := match xs with
  | [.sc (.int _ n)] => if 0 ≤ n ∧ n < 128 then some (.str ⟨#[UInt8.ofNat n.toNat]⟩, s) else none
  | _ => none
def actPtrMov (xs : List V) (s : St) : ActR := match xs with
  | [.ptr i o] => some (.ptr i o, s)
  | _ => none
def actSliceData (xs : List V) (s : St) : ActR := match xs with
  | [.arr id off n _] => if n ≠ 0 then some (.ptr id off, s) else none
  | _ => none
def byteV : V → Bool
  | .sc (.int .u8 n) => decide (0 ≤ n ∧ n < 256)
  | _ => false
def actUnsafeStr (e : TypeId) (xs : List V) (s : St) : ActR := match xs with
  | [.ptr id off, .sc (.int .i64 n)] => if s.base ≤ id ∧ off = 0 ∧ 0 < n ∧ n ≤ roomy then
      match s.getRow id with
      | some (e', cs) => if e' = e ∧ (cs.length : Int) = n ∧ cs.all byteV = true then
          match toBytes (cs.map fun c => [c]) with
          | some bs => some (.str ⟨bs.toArray⟩, s.set id .dead)
          | none => none
        else none
      | none => none
    else none
  | _ => none
def actConv (k : IntKind) (xs : List V) (s : St) : ActR := match xs with
  | [.sc (.int _ n)] => some (.sc (.int k (wrapF k n)), s)
  | _ => none
def actMkIface (t : TypeId) (xs : List V) (s : St) : ActR := match xs with
  | [x] => some (.iface t x.erase, s)
  | _ => none
def actMkMap (xs : List V) (s : St) : ActR := match xs with
  | [] => some (.map s.objs.length, s.push (.map []))
  | _ => none
def actLookup (kd : Nat) (zero : V) (ok : Bool) (xs : List V) (s : St) : ActR := match xs with
  | [.map id, k] => if kindOK kd k = true then
      match s.getMapL id with
      | some es => match mapFind k es with
        | some (some v) => some (if ok then .tup [v, .bool true] else v, s)
        | some none => some (if ok then .tup [zero, .bool false] else zero, s)
        | none => none
      | none => none
    else none
  | _ => none
def actMapSet (kd : Nat) (xs : List V) (s : St) : ActR := match xs with
  | [.map id, k, v] => if s.base ≤ id ∧ kindOK kd k = true then
      match s.objs[id]? with
      | some (.map es) => (mapPut k v es).map fun es' => (.undef, s.set id (.map es'))
      | some (.mapD es) => (mapPut k v es).map fun es' => (.undef, s.set id (.mapD es'))
      | _ => none
    else none
  | _ => none
def actMapDel (kd : Nat) (xs : List V) (s : St) : ActR := match xs with
  | [.map id, k] => if s.base ≤ id ∧ kindOK kd k = true then
      match s.getMapL id with
      | some es => (mapDrop k es).map fun es' => (.undef, s.set id (.mapD es'))
      | none => none
    else none
  | _ => none
def actMapEntry (kd : Nat) (zero : V) (xs : List V) (s : St) : ActR := match xs with
  | [.map id, k] => if s.base ≤ id ∧ kindOK kd k = true then
      match s.getMap id with
      | some es => match mapIdx k es with
        | some (some i) => match es[i]? with
          | some (_, v) => some (.tup [v, .int i], s)
          | none => none
        | some none => some (.tup [zero, .int es.length], s.set id (.map (es ++ [(k, zero)])))
        | none => none
      | none => none
    else none
  | _ => none
def actEntryStore (xs : List V) (s : St) : ActR := match xs with
  | [.map id, .sc (.int .i64 i), v] => if s.base ≤ id ∧ 0 ≤ i then
      match s.getMap id with
      | some es => match es[i.toNat]? with
        | some (k, _) => some (.undef, s.set id (.map (es.set i.toNat (k, v))))
        | none => none
      | none => none
    else none
  | _ => none
def actBuild (zero : List V) (ps : List (Nat × Nat)) (xs : List V) (s : St) : ActR :=
  (fillParts zero ps xs).map fun cs => (.agg cs, s)
def actBuildSlice (sz n : Nat) (zero : List V) (is : List Nat) (xs : List V) (s : St) : ActR :=
  if zero.length = sz ∧ n ≤ 2 ^ 20 ∧ zero.all V.leaf = true then (fillElems sz (List.replicate n zero) is xs).map fun l => (.slice .shut sz l, s) else none
def actMakeSlice (zero : List V) (arr : Bool) (xs : List V) (s : St) : ActR := match xs with
  | [.sc (.int _ n), .sc (.int _ c)] =>
    if 0 ≤ n ∧ n ≤ c ∧ c ≤ roomy ∧ zero.all V.leaf = true then
      if arr then (if n = c then some (.arr s.objs.length 0 n.toNat zero.length, s.push (.cells (List.replicate n.toNat zero).flatten)) else none)
      else if n = 0 then some (.slice .tail zero.length [], s)
      else none
    else none
  | _ => none
def actAlloc (t : TypeId) (zero : List V) (xs : List V) (s : St) : ActR := match xs with
  | [] => if zero.all V.leaf = true then some (.ptr s.objs.length 0, s.push (.var t zero)) else none
  | _ => none
def actBox (t : TypeId) (xs : List V) (s : St) : ActR := match xs with
  | [x] => if x.cells.all V.leaf = true then some (.ptr s.objs.length 0, s.push (.var t x.cells)) else none
  | _ => none
def actLoad (n : Nat) (agg : Bool) (xs : List V) (s : St) : ActR := match xs with
  | [.ptr id off] => match s.objs[id]? with
    | some o => match o.cs with
      | some cs => (part cs off n agg).map fun v => (v, s)
      | none => none
    | none => none
  | [.imm cs] => (part cs 0 n agg).map fun v => (v, s)
  | _ => none
def actStore (n : Nat) (xs : List V) (s : St) : ActR := match xs with
  | [.ptr id off, x] => if s.base ≤ id ∧ x.cells.length = n ∧ x.cells.all V.leaf = true then
      match s.objs[id]? with
      | some o => match o.cs with
        | some cs => if off + n ≤ cs.length then some (.undef, s.set id (o.with (splice cs off x.cells))) else none
        | none => none
      | none => none
    else none
  | _ => none
def actNilCheck (xs : List V) (s : St) : ActR := match xs with
  | [.ptr id off] => some (.ptr id off, s)
  | [.imm cs] => some (.imm cs, s)
  | _ => none
def actFieldAddr (off : Nat) (xs : List V) (s : St) : ActR := match xs with
  | [.ptr id o] => some (.ptr id (o + off), s)
  | [.imm cs] => some (.imm (cs.drop off), s)
  | _ => none
def actField (off n : Nat) (agg : Bool) (xs : List V) (s : St) : ActR := match xs with
  | [.agg cs] => (part cs off n agg).map fun v => (v, s)
  | _ => none
def actIndexAddr (sz : Nat) (xs : List V) (s : St) : ActR := match xs with
  | [.slice _ sz' l, .sc (.int _ i)] => if sz = sz' ∧ 0 ≤ i then (l[i.toNat]?).map fun cs => (.imm cs, s) else none
  | [.arr id off n sz', .sc (.int _ i)] => if sz = sz' ∧ 0 ≤ i ∧ i < n then some (.ptr id (off + i.toNat * sz), s) else none
  | _ => none
def actIndexAgg (sz n : Nat) (agg : Bool) (xs : List V) (s : St) : ActR := match xs with
  | [.agg cs, .sc (.int _ i)] => if 0 ≤ i ∧ i < n then (part cs (i.toNat * sz) sz agg).map fun v => (v, s) else none
  | _ => none
def actIndexStr (xs : List V) (s : St) : ActR := match xs with
  | [.sc (.string b), .sc (.int _ i)] => if 0 ≤ i then (b.data.toList[i.toNat]?).map fun c => (.sc (.int .u8 c.toNat), s) else none
  | _ => none
def actSliceS (sz : Nat) (lo hi mx : Bool) (xs : List V) (s : St) : ActR := match xs with
  | .slice o sz' l :: ys => match sliceArgs lo hi mx l.length ys with
    | some (a, b, m) => if sz' = sz then some (.slice (if m then .shut else if b = l.length then o else .no) sz ((l.take b).drop a), s) else none
    | none => none
  | .arr id off n sz' :: ys => match sliceArgs lo hi mx n ys with
    | some (a, b, m) => if sz' = sz then some (if a = 0 ∨ a < b then (if m = true ∧ b = 0 then .slice .shut sz [] else .arr id (off + a * sz) (b - a) sz) else .slice .no sz [], s) else none
    | none => none
  | _ => none
def actSliceStr (lo hi : Bool) (xs : List V) (s : St) : ActR := match xs with
  | .sc (.string b) :: ys => (sliceArgs lo hi false b.size ys).map fun (l, h, _) => (.sc (.string (b.extract l h)), s)
  | _ => none
def actLen (k : Nat) (xs : List V) (s : St) : ActR := match xs with
  | [.slice _ _ l] => if k = 0 then some (.int l.length, s) else none
  | [.arr _ _ n _] => if k = 0 then some (.int n, s) else none
  | [.sc (.string b)] => if k = 1 then some (.int b.size, s) else none
  | [.map id] => if k = 2 then
      match s.getMap id with
      | some es => some (.int es.length, s)
      | none => none
    else none
  | _ => none
def actAppendNil (sz : Nat) (arr : Bool) (xs : List V) (s : St) : ActR := match xs with
  | [x] => match elems s sz x with
    | some l' => if l'.length ≤ roomy then
        if arr then some (.arr s.objs.length 0 l'.length sz, s.push (.cells l'.flatten)) else some (.slice .tail sz l', s)
      else none
    | none => none
  | _ => none
def actAppend (sz : Nat) (arr : Bool) (xs : List V) (s : St) : ActR := match xs with
  | [.slice o sz' l, x] => match elems s sz x with
    | some l' => if arr then
        if o = .shut ∧ sz' = sz ∧ l.length = 0 ∧ l'.length ≤ roomy then
          (if l'.length = 0 then some (.slice .shut sz [], s) else some (.arr s.objs.length 0 l'.length sz, s.push (.cells l'.flatten))) else none
      else if o ≠ .no ∧ sz' = sz ∧ l.length + l'.length ≤ roomy then some (.slice (if l'.length = 0 then o else .tail) sz (l ++ l'), s) else none
    | none => none
  | [.arr id off n sz', x] => if s.base ≤ id then
      match elems s sz x, s.get id with
      | some l', some cs => if sz' = sz ∧ off = 0 ∧ n * sz ≤ cs.length ∧ n + l'.length ≤ roomy then
          some (.arr s.objs.length 0 (n + l'.length) sz, (s.set id .dead).push (.cells (cs.take (n * sz) ++ l'.flatten))) else none
      | _, _ => none
    else none
  | _ => none
def actAppendB (e : TypeId) (xs : List V) (s : St) : ActR := match xs with
  | [.slice o sz' l, x] => match elems s 1 x with
    | some l' => if o = .shut ∧ sz' = 1 ∧ l.length = 0 ∧ l'.length ≤ roomy then
        (if l'.length = 0 then some (.slice .shut 1 [], s) else some (.arr s.objs.length 0 l'.length 1, s.push (.row e l'.flatten))) else none
    | none => none
  | [.arr id off n sz', x] => if s.base ≤ id then
      match elems s 1 x, s.getRow id with
      | some l', some (e', cs) => if e' = e ∧ sz' = 1 ∧ off = 0 ∧ cs.length = n ∧ n + l'.length ≤ roomy then
          some (.arr s.objs.length 0 (n + l'.length) 1, (s.set id .dead).push (.row e (cs ++ l'.flatten))) else none
      | _, _ => none
    else none
  | _ => none
def actExtract (i : Nat) (xs : List V) (s : St) : ActR := match xs with
  | [.tup vs] => (vs[i]?).map fun v => (v, s)
  | _ => none
def actStr (xs : List V) (s : St) : ActR := match xs with
  | [x] => match elems s 1 x with
    | some l => (toBytes l).map fun bs => (V.str ⟨bs.toArray⟩, s)
    | none => none
  | _ => none
def actBytes (xs : List V) (s : St) : ActR := match xs with
  | [.sc (.string b)] => some (.slice .tail 1 (b.data.toList.map fun c => [.sc (.int .u8 c.toNat)]), s)
  | _ => none
def actAssertT (t : TypeId) (zero : V) (ok : Bool) (xs : List V) (s : St) : ActR := match xs with
  | [.iface t' v] => if t = t' then some (if ok then .tup [v, .bool true] else v, s)
      else if ok then some (.tup [zero, .bool false], s) else none
  | [.sc .nilIface] => if ok then some (.tup [zero, .bool false], s) else none
  | _ => none
def actAssertI (yes no : List TypeId) (zero : V) (ok : Bool) (xs : List V) (s : St) : ActR := match xs with
  | [.iface t v] => if t ∈ yes then some (if ok then .tup [.iface t v, .bool true] else .iface t v, s)
      else if t ∈ no ∧ ok = true then some (.tup [zero, .bool false], s) else none
  | [.sc .nilIface] => if ok then some (.tup [zero, .bool false], s) else none
  | _ => none
def actCallv (call : CallT) (ro : Bool) (xs : List V) (s : St) : ActR := match xs with
  | .func (.func f) first cap :: ys => callBy call ro f (first ++ ys ++ cap) s
  | _ => none
def actInvoke (call : CallT) (tab : List (TypeId × FuncId)) (ro : Bool) (xs : List V) (s : St) : ActR := match xs with
  | .iface t v :: ys => match look t tab with
    | some f => callBy call ro f (v :: ys) s
    | none => none
  | _ => none

def actAllocArr (zero : List V) (xs : List V) (s : St) : ActR := match xs with
  | [] => if zero.all V.leaf = true then some (.ptr s.objs.length 0, s.push (.cells zero)) else none
  | _ => none
def actNilsl (c : Cmp) (xs : List V) (s : St) : ActR := match xs with
  | [.arr _ _ _ _] => some (.bool (c.on false), s)
  | [.slice _ _ (_ :: _)] => some (.bool (c.on false), s)
  | _ => none
/-- Zero elements behind nothing. -/
def actAppendZ (sz : Nat) (zero : List V) (xs : List V) (s : St) : ActR := match xs with
  | [.slice .shut sz' [], .sc (.int .i64 n)] => if sz' = sz ∧ zero.length = sz ∧ 0 < n ∧ n ≤ 1048576 then
      some (.arr s.objs.length 0 n.toNat sz, s.push (.cells (List.replicate n.toNat zero).flatten)) else none
  | _ => none
/-- How many elements a slice's array has, where that is known: just its own. -/
def actCapS (xs : List V) (s : St) : ActR := match xs with
  | [.slice .shut _ l] => some (.int l.length, s)
  | _ => none
def actImin (xs : List V) (s : St) : ActR := match xs with
  | [.sc (.int k a), .sc (.int _ b)] => some (.sc (.int k (if b < a then b else a)), s)
  | _ => none
def actClearA (sz : Nat) (zero : List V) (xs : List V) (s : St) : ActR := match xs with
  | [.slice _ _ []] => some (.undef, s)
  | [.arr id off n sz'] => if s.base ≤ id ∧ sz' = sz ∧ zero.length = sz ∧ n ≠ 0 then
      match s.get id with
      | some cs => if off + n * sz ≤ cs.length then some (.undef, s.set id (.cells (splice cs off (List.replicate n zero).flatten))) else none
      | none => none
    else if n = 0 then some (.undef, s) else none
  | _ => none
def actIndexPtr (sz n : Nat) (xs : List V) (s : St) : ActR := match xs with
  | [.ptr id off, .sc (.int _ i)] => if 0 ≤ i ∧ i < n then some (.ptr id (off + i.toNat * sz), s) else none
  | _ => none
def actSlicePtr (sz n : Nat) (lo hi : Bool) (xs : List V) (s : St) : ActR := match xs with
  | .ptr id off :: ys => match sliceArgs lo hi false n ys, s.get id with
    | some (a, b, _), some cs => if off + n * sz ≤ cs.length ∧ (a = 0 ∨ a < b) ∧ n < 2 ^ 63 then some (.arr id (off + a * sz) (b - a) sz, s) else none
    | _, _ => none
  | _ => none

/-- A cell of a variable of this type. -/
def actLoadT (t : TypeId) (off : Nat) (xs : List V) (s : St) : ActR := match xs with
  | [.ptr id off'] => if off' = off then match s.objs[id]? with
    | some (.var u cs) => if u = t then (cs[off]?).map fun v => (v, s) else none
    | _ => none
    else none
  | _ => none
/-- Are two cells the same, as far as that is looked at? -/
def sameV : V → V → Bool
  | .sc (.int k a), .sc (.int k' b) => decide (k = k') && a == b
  | .sc (.pointer none), .sc (.pointer none) => true
  | .ptr i o, .ptr i' o' => i == i' && o == o'
  | .arr i o n z, .arr i' o' n' z' => i == i' && o == o' && n == n' && z == z'
  | .slice o n [], .slice o' n' [] => decide (o = o') && n == n'
  | .map i, .map j => i == j
  | _, _ => false
def leavesAt (t : TypeId) (off : Nat) : List Obj → List Obj → Bool
  | [], _ => true
  | o :: l, o' :: l' => (match o with
      | .var u cs => if u = t then (match o' with
        | .var u' cs' => u' == t && (match cs[off]?, cs'[off]? with
          | some v, some v' => sameV v v'
          | none, none => true
          | _, _ => false)
        | _ => false) else true
      | _ => true) && leavesAt t off l l'
  | _ :: _, [] => false
/-- A call that leaves these cells of all variables of these types. -/
def actCallF (call : CallT) (f : FuncId) (ks : List (TypeId × Nat)) (xs : List V) (s : St) : ActR := match call f xs s with
  | some (r, s') => if (ks.all fun p => leavesAt p.1 p.2 s.objs s'.objs) = true then some (r, s') else none
  | none => none

def A.act (call : CallT) (a : A) (xs : List V) (s : St) : ActR :=
  match a with
  | .mov => match xs with
    | [x] => some (x, s)
    | _ => none
  | .lit v => match xs with
    | [] => some (v, s)
    | _ => none
  | .pick => actPick xs s
  | .ibin op => actIbin op xs s
  | .shift op => actShift op xs s
  | .sbin op => actSbin op xs s
  | .bbin c => actBbin c xs s
  | .nilp c => actNilp c xs s
  | .nilif c => actNilif c xs s
  | .not => actNot xs s
  | .neg => actNeg xs s
  | .ptrEq c => actPtrEq c xs s
  | .ptrMov => actPtrMov xs s
  | .aggEq kd c => actAggEq kd c xs s
  | .chr => actChr xs s
  | .sliceData => actSliceData xs s
  | .unsafeStr e => actUnsafeStr e xs s
  | .appendB e => actAppendB e xs s
  | .conv k => actConv k xs s
  | .mkIface t => actMkIface t xs s
  | .mkFunc fn n => some (.func fn (xs.take n) (xs.drop n), s)
  | .mkMap => actMkMap xs s
  | .lookup kd zero ok => actLookup kd zero ok xs s
  | .mapSet kd => actMapSet kd xs s
  | .mapDel kd => actMapDel kd xs s
  | .mapEntry kd zero => actMapEntry kd zero xs s
  | .entryStore => actEntryStore xs s
  | .build zero ps => actBuild zero ps xs s
  | .buildSlice sz n zero is => actBuildSlice sz n zero is xs s
  | .makeSlice zero arr => actMakeSlice zero arr xs s
  | .alloc t zero => actAlloc t zero xs s
  | .box t => actBox t xs s
  | .load n agg => actLoad n agg xs s
  | .store n => actStore n xs s
  | .nilCheck => actNilCheck xs s
  | .fieldAddr off => actFieldAddr off xs s
  | .field off n agg => actField off n agg xs s
  | .indexAddr sz => actIndexAddr sz xs s
  | .indexAgg sz n agg => actIndexAgg sz n agg xs s
  | .indexStr => actIndexStr xs s
  | .sliceS sz lo hi mx => actSliceS sz lo hi mx xs s
  | .sliceStr lo hi => actSliceStr lo hi xs s
  | .len k => actLen k xs s
  | .append sz arr => actAppend sz arr xs s
  | .appendNil sz arr => actAppendNil sz arr xs s
  | .extract i => actExtract i xs s
  | .str => actStr xs s
  | .bytes => actBytes xs s
  | .assertT t zero ok => actAssertT t zero ok xs s
  | .assertI yes no zero ok => actAssertI yes no zero ok xs s
  | .call f ro => callBy call ro f xs s
  | .callOwn f => Go.Ab.callOwn call f xs s
  | .callv ro => actCallv call ro xs s
  | .invoke tab ro => actInvoke call tab ro xs s
  | .bad => none
  | .imin => actImin xs s
  | .clearA sz zero => actClearA sz zero xs s
  | .callNew f => Go.Ab.callNew call f xs s
  | .nilsl c => actNilsl c xs s
  | .allocArr zero => actAllocArr zero xs s
  | .indexPtr sz n => actIndexPtr sz n xs s
  | .slicePtr sz n lo hi => actSlicePtr sz n lo hi xs s
  | .capS => actCapS xs s
  | .appendZ sz zero => actAppendZ sz zero xs s
  | .loadT t off => actLoadT t off xs s
  | .callF f ks => actCallF call f ks xs s

/-! ## regions -/

structure FS where
  env : List EV
  R : List (Option V)
  σ : St
  deriving Inhabited

def rd (env : List EV) (R : List (Option V)) : Opd → Option V
  | .slot i => match env[i]? with
    | some (.v x) => some x.erase
    | _ => none
  | .res j => match R[j]? with
    | some (some x) => some x.erase
    | _ => none
  | .const v => some v.erase

def rds (env : List EV) (R : List (Option V)) : List Opd → Option (List V)
  | [] => some []
  | o :: os => match rd env R o with
    | none => none
    | some x => match rds env R os with
      | none => none
      | some xs => some (x :: xs)

def wanted (R : List (Option V)) : Option (Nat × Bool) → Option Bool
  | none => some true
  | some (j, want) => match R[j]? with
    | some (some (.sc (.bool b))) => some (b == want)
    | some (some (.sc (.tuple _))) => some false
    | _ => none

def FS.put (s : FS) (dst : Option Nat) (i : Nat) (x : V) : FS :=
  match dst with
  | some d => { s with env := s.env.set d (.v x) }
  | none => { s with R := s.R.set i (some x) }

/-- Does an operation make a slice that may be appended to? -/
def A.fresh : A → Bool
  | .lit _ | .build .. | .buildSlice .. | .makeSlice .. | .bytes | .callOwn _ | .append _ _ | .appendB _ | .appendNil _ _ | .sliceS _ _ _ _ => true
  | _ => false

def step (call : CallT) (i : Nat) (m : MOper) (s : FS) : Option FS :=
  match wanted s.R m.guard with
  | none => none
  | some false => some (s.put m.dst i .undef)
  | some true => match m.k with
    | .nop k => match s.R[i]?, s.env[k]? with
      | some none, some (.box _) => some s
      | _, _ => none
    | .act a => match rds s.env s.R m.args with
      | none => none
      | some xs => match a.act call xs s.σ with
        | none => none
        | some (x, σ) => some (({ s with σ } : FS).put m.dst i (if a.fresh then x else x.erase))
    | .move j => match s.R[j]? with
      | some (some x) => some (({ s with R := s.R.set j (some x.erase) } : FS).put m.dst i x)
      | _ => none
    | .mvt j => match s.env[j]? with
      | some (.v x) => some (({ s with env := s.env.set j (.v x.erase) } : FS).put m.dst i x)
      | _ => none
    | .own a j => match s.R[j]?, rds s.env s.R m.args with
      | some (some x), some xs => match a.act call (x :: xs) s.σ with
        | none => none
        | some (y, σ) => some (({ s with R := s.R.set j (some x.erase), σ } : FS).put m.dst i y)
      | _, _ => none
    | .allocBox zero => match m.dst with
      | some d => some { s with env := s.env.set d (.box zero) }
      | none => none
    | .boxBox => match rds s.env s.R m.args, m.dst with
      | some [x], some d => some { s with env := s.env.set d (.box x.erase.cells) }
      | _, _ => none
    | .loadBox j off n agg => match s.env[j]? with
      | some (.box cs) => match part cs off n agg with
        | some x => some (s.put m.dst i x.erase)
        | none => none
      | _ => none
    | .takeBox j off => match s.env[j]? with
      | some (.box cs) => match cs[off]? with
        | some x => if x.leaf = true then some (({ s with env := s.env.set j (.box (cs.set off x.erase)) } : FS).put m.dst i x) else none
        | none => none
      | _ => none
    | .storeBox j off n => match s.env[j]?, rds s.env s.R m.args with
      | some (.box cs), some [x] => if x.cells.length = n ∧ off + n ≤ cs.length ∧ x.cells.all V.leaf = true then some { s with env := s.env.set j (.box (splice cs off x.cells)) } else none
      | _, _ => none
    | .keepBox j off n r => match s.env[j]?, s.R[r]? with
      | some (.box cs), some (some x) => if x.cells.length = n ∧ off + n ≤ cs.length ∧ x.cells.all V.leaf = true then
          some { s with env := s.env.set j (.box (splice cs off x.cells)), R := s.R.set r (some x.erase) } else none
      | _, _ => none
    | .boxTake r => match s.R[r]?, m.dst with
      | some (some x), some d => some { s with env := s.env.set d (.box x.boxed), R := s.R.set r (some x.erase) }
      | _, _ => none

def runOps (call : CallT) : Nat → List MOper → FS → Option FS
  | _, [], s => some s
  | i, m :: ms, s => match step call i m s with
    | none => none
    | some s' => runOps call (i + 1) ms s'

inductive Out where
  | norm
  | exit (id : Nat)
  | ret
  deriving DecidableEq, Inhabited

abbrev Res := Option (Out × List EV × St)

def iter : Nat → (List EV → St → Res) → List EV → St → Res
  | 0, _, _, _ => none
  | n + 1, f, env, σ => match f env σ with
    | some (.norm, env', σ') => iter n f env' σ'
    | r => r

def exec (call : CallT) (fuel : Nat) : MCode → List EV → St → Res
  | .skip, env, σ => some (.norm, env, σ)
  | .reg ops, env, σ => match runOps call 0 ops ⟨env, List.replicate ops.length none, σ⟩ with
    | some s => some (.norm, s.env, s.σ)
    | none => none
  | .seq a b, env, σ => match exec call fuel a env σ with
    | some (.norm, env', σ') => exec call fuel b env' σ'
    | r => r
  | .cond c a b, env, σ => match rd env [] c with
    | some (.sc (.bool true)) => exec call fuel a env σ
    | some (.sc (.bool false)) => exec call fuel b env σ
    | _ => none
  | .block id b, env, σ => match exec call fuel b env σ with
    | some (.exit id', env', σ') => some (if id' = id then .norm else .exit id', env', σ')
    | r => r
  | .loop b, env, σ => iter fuel (fun e s => exec call fuel b e s) env σ
  | .exit id, env, σ => some (.exit id, env, σ)
  | .ret, env, σ => some (.ret, env, σ)

def MRes.get (env : List EV) (σ : St) : MRes → Option V
  | .slot i => match env[i]? with
    | some (.v x) => some x.erase
    | _ => none
  | .box i n agg => match env[i]? with
    | some (.box cs) => (part cs 0 n agg).map V.erase
    | _ => none
  | .ptr i n agg => match env[i]? with
    | some (.v (.ptr id off)) => match σ.objs[id]? with
      | some o => match o.cs with
        | some cs => (part cs off n agg).map V.erase
        | none => none
      | none => none
    | _ => none

def getAll (env : List EV) (σ : St) : List MRes → Option (List V)
  | [] => some []
  | r :: rs => match r.get env σ with
    | none => none
    | some x => match getAll env σ rs with
      | none => none
      | some xs => some (x :: xs)

def tupled : List V → V
  | [v] => v
  | vs => .tup vs

/-- The frame at the begin of a call. -/
def MFunc.start (f : MFunc) (xs : List V) : List EV := f.slots.map fun t => .v (xs.getD t .undef).erase

def MFunc.run (f : MFunc) (call : CallT) (fuel : Nat) (xs : List V) (σ : St) : Option (V × St) :=
  if xs.length = f.nargs then
    match exec call fuel f.body (f.start xs) σ with
    | some (.norm, env, σ') | some (.ret, env, σ') => (getAll env σ' f.res).map fun rs => (tupled rs, σ')
    | _ => none
  else none

/-- The functions that are known, by number. -/
abbrev Funcs := FuncId → Option MFunc

/-- Functions that are not walked: what they answer. -/
abbrev Known := FuncId → List V → St → Option (V × St)

def callN (F : Funcs) (Kn : Known) : Nat → CallT
  | 0, _, _, _ => none
  | n + 1, f, xs, σ => match Kn f xs σ with
    | some r => some r
    | none => match F f with
      | some m => m.run (callN F Kn n) n xs σ
      | none => none
end Go.Ab

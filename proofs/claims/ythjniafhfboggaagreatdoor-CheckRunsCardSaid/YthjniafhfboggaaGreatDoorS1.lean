/- Compiled code of the abstract machine, that goes on with what it comes to, all values in their last form: the kernel runs it in little memory. No premise; definitions alone. -/
import Derived.Test.YthjniafhfboggaaGreatDoorA1
namespace Go.Ab
open Go
noncomputable section
variable {ρ : Type} {α β : Type}
/-! ## forcing -/
def fList (f : α → (α → ρ) → ρ) (l : List α) : (List α → ρ) → ρ :=
  List.rec (motive := fun _ => (List α → ρ) → ρ) (fun k => k []) (fun a _ ih k => f a fun a' => ih fun l' => k (a' :: l')) l
def fId (a : α) (k : α → ρ) : ρ := k a
def fNat (n : Nat) (k : Nat → ρ) : ρ := Nat.casesOn (motive := fun _ => ρ) n (k 0) (fun p => k (p + 1))
def fInt (n : Int) (k : Int → ρ) : ρ := Int.casesOn (motive := fun _ => ρ) n (fun m => fNat m fun m => k (.ofNat m)) (fun m => fNat m fun m => k (.negSucc m))
def fBytes (s : ByteArray) (k : ByteArray → ρ) : ρ := ByteArray.casesOn (motive := fun _ => ρ) s fun a => Array.casesOn (motive := fun _ => ρ) a fun l => fList fId l fun l' => k ⟨⟨l'⟩⟩
def fVal (v : Value) (k : Value → ρ) : ρ := match v with
  | .int t n => fInt n fun n => k (.int t n)
  | .bool b => Bool.casesOn (motive := fun _ => ρ) b (k (.bool false)) (k (.bool true))
  | .string s => fBytes s fun s => k (.string s)
  | v => k v
def fOwn (b : Own) (k : Own → ρ) : ρ := match b with
  | .no => k .no
  | .shut => k .shut
  | .tail => k .tail
/-- A new leaf. -/
def fHead (v : V) (k : V → ρ) : ρ := match v with
  | .sc x => fVal x fun x => k (.sc x)
  | .slice o sz l => fOwn o fun o => k (.slice o sz l)
  | .ptr i o => fNat i fun i => fNat o fun o => k (.ptr i o)
  | .arr i o n sz => fNat i fun i => fNat o fun o => fNat n fun n => k (.arr i o n sz)
  | .map i => fNat i fun i => k (.map i)
  | v => k v
/-- The shape of a leaf. -/
def gHead (v : V) (k : V → ρ) : ρ := match v with
  | .sc x => k (.sc x)
  | .slice o sz l => fOwn o fun o => k (.slice o sz l)
  | v => k v
def gV (v : V) (k : V → ρ) : ρ := match v with
  | .agg cs => fList gHead cs fun cs => k (.agg cs)
  | .imm cs => fList gHead cs fun cs => k (.imm cs)
  | .iface t v => gHead v fun v => k (.iface t v)
  | v => gHead v k
def fLeafD (v : V) (k : V → ρ) : ρ := match v with
  | .slice o sz l => fOwn o fun o => fList (fList gHead) l fun l => k (.slice o sz l)
  | v => fHead v k
def fV (v : V) (k : V → ρ) : ρ := match v with
  | .agg cs => fList fLeafD cs fun cs => k (.agg cs)
  | .imm cs => fList fLeafD cs fun cs => k (.imm cs)
  | .iface t v => fLeafD v fun v => k (.iface t v)
  | v => fLeafD v k
def fDeep (v : V) (k : V → ρ) : ρ := match v with
  | .tup vs => fList fV vs fun vs => k (.tup vs)
  | v => fV v k
def fObj (o : Obj) (k : Obj → ρ) : ρ := match o with
  | .cells cs => fList gHead cs fun cs => k (.cells cs)
  | .row e cs => fList gHead cs fun cs => k (.row e cs)
  | .var e cs => fList gHead cs fun cs => k (.var e cs)
  | .map es => fList (fun p k => match p with | (a, b) => gV a fun a => gV b fun b => k (a, b)) es fun es => k (.map es)
  | .mapD es => fList (fun p k => match p with | (a, b) => gV a fun a => gV b fun b => k (a, b)) es fun es => k (.mapD es)
  | .dead => k .dead
/-- The objects, the last one first; how many. -/
structure SS where
  st : List Obj
  n : Nat
  base : Nat
def SS.dec (s : SS) : St := ⟨s.st.reverse, s.base⟩
def enc (σ : St) : SS := ⟨σ.objs.reverse, σ.objs.length, σ.base⟩
def revK (id : Nat) (l : List Obj) : List Obj → Nat → (List Obj → Nat → ρ) → ρ :=
  List.rec (motive := fun _ => List Obj → Nat → (List Obj → Nat → ρ) → ρ) (fun acc n k => fNat n fun n => k acc n)
    (fun a t ih acc n k => match Nat.beq n id with
      | true => fObj a fun a => ih (a :: acc) (Nat.add n 1) k
      | false => match t with
        | [] => fObj a fun a => ih (a :: acc) (Nat.add n 1) k
        | _ :: _ => ih (a :: acc) (Nat.add n 1) k) l
def idOf (xs : List V) : Nat := match xs with
  | .ptr i _ :: _ => i
  | .map i :: _ => i
  | .arr i _ _ _ :: _ => i
  | _ => 0
def encK (xs : List V) (σ : St) (k : SS → ρ) : ρ := match σ with
  | ⟨objs, base⟩ => revK (idOf xs) objs [] 0 fun st n => fNat base fun base => k ⟨st, n, base⟩
/-- What stands at a place. -/
def fGet (bot : ρ) (l : List α) : Nat → (α → ρ) → ρ :=
  List.rec (motive := fun _ => Nat → (α → ρ) → ρ) (fun _ _ => bot) (fun a _ ih i k => Nat.casesOn (motive := fun _ => ρ) i (k a) (fun p => ih p k)) l

/-- Compiled ways to a place. -/
structure Get (ρ α : Type) where
  run : List α → (α → ρ) → ρ
structure Set1 (ρ α : Type) where
  run : List α → α → (List α → ρ) → ρ
def cGet (bot : ρ) (α : Type) : Nat → Get ρ α
  | 0 => ⟨fun l k => List.rec (motive := fun _ => ρ) bot (fun a _ _ => k a) l⟩
  | 1 => ⟨fun l k => List.rec (motive := fun _ => ρ) bot (fun _ l _ => List.rec (motive := fun _ => ρ) bot (fun a _ _ => k a) l) l⟩
  | 2 => ⟨fun l k => List.rec (motive := fun _ => ρ) bot (fun _ l _ => List.rec (motive := fun _ => ρ) bot (fun _ l _ => List.rec (motive := fun _ => ρ) bot (fun a _ _ => k a) l) l) l⟩
  | 3 => ⟨fun l k => List.rec (motive := fun _ => ρ) bot (fun _ l _ => List.rec (motive := fun _ => ρ) bot (fun _ l _ => List.rec (motive := fun _ => ρ) bot (fun _ l _ => List.rec (motive := fun _ => ρ) bot (fun a _ _ => k a) l) l) l) l⟩
  | n + 4 => ⟨fun l k => List.rec (motive := fun _ => ρ) bot (fun _ l _ => List.rec (motive := fun _ => ρ) bot (fun _ l _ => List.rec (motive := fun _ => ρ) bot (fun _ l _ => List.rec (motive := fun _ => ρ) bot (fun _ l _ => (cGet bot α n).run l k) l) l) l) l⟩
def cSet (ρ α : Type) : Nat → Set1 ρ α
  | 0 => ⟨fun l x k => List.rec (motive := fun _ => ρ) (k []) (fun _ l _ => k (x :: l)) l⟩
  | 1 => ⟨fun l x k => List.rec (motive := fun _ => ρ) (k []) (fun a l _ => List.rec (motive := fun _ => ρ) (k [a]) (fun _ l _ => k (a :: x :: l)) l) l⟩
  | 2 => ⟨fun l x k => List.rec (motive := fun _ => ρ) (k []) (fun a l _ => List.rec (motive := fun _ => ρ) (k [a]) (fun b l _ => List.rec (motive := fun _ => ρ) (k [a, b]) (fun _ l _ => k (a :: b :: x :: l)) l) l) l⟩
  | n + 3 => ⟨fun l x k => List.rec (motive := fun _ => ρ) (k []) (fun a l _ => List.rec (motive := fun _ => ρ) (k [a]) (fun b l _ => List.rec (motive := fun _ => ρ) (k [a, b]) (fun c l _ => (cSet ρ α n).run l x fun l => k (a :: b :: c :: l)) l) l) l⟩
def nthL {α : Type} (l : List α) : Nat → Option α :=
  List.rec (motive := fun _ => Nat → Option α) (fun _ => none) (fun a _ ih i => Nat.rec (motive := fun _ => Option α) (some a) (fun p _ => ih p) i) l

def eLeaf (v : V) (k : V → ρ) : ρ := match v with
  | .slice .tail sz l => k (.slice .no sz l)
  | v => k v
def eV (v : V) (k : V → ρ) : ρ :=
  V.rec (motive_1 := fun _ => ρ) (motive_2 := fun _ => PUnit) (motive_3 := fun _ => PUnit) (fun x => k (.sc x)) (fun o sz l _ => Own.rec (motive := fun _ => ρ) (k (.slice .no sz l)) (k (.slice .shut sz l)) (k (.slice .no sz l)) o)
    (fun i o => k (.ptr i o)) (fun cs _ => k (.imm cs)) (fun i o n z => k (.arr i o n z)) (fun i => k (.map i)) (fun f a b _ _ => k (.func f a b)) (fun t v _ => k (.iface t v)) (fun cs _ => fList eLeaf cs fun cs => k (.agg cs)) (fun vs _ => k (.tup vs))
    ⟨⟩ (fun _ _ _ _ => ⟨⟩) ⟨⟩ (fun _ _ _ _ => ⟨⟩) v

/-! ## compiled code -/
abbrev CallS (ρ : Type) := FuncId → List V → SS → (V → SS → ρ) → ρ
abbrev KF (ρ : Type) := List EV → List (Option V) → SS → ρ
abbrev KX (ρ : Type) := Out → List EV → SS → ρ

structure Rd (ρ : Type) where
  run : List EV → List (Option V) → (V → ρ) → ρ
structure Rds (ρ : Type) where
  run : List EV → List (Option V) → (List V → ρ) → ρ
structure Ac (ρ : Type) where
  run : CallS ρ → List V → SS → (V → SS → ρ) → ρ
structure Op1 (ρ : Type) where
  run : CallS ρ → KF ρ → KF ρ
structure Put (ρ : Type) where
  run : V → KF ρ → KF ρ
structure Cod (ρ : Type) where
  run : CallS ρ → Nat → List EV → SS → KX ρ → ρ

variable (bot : ρ)
def evV (e : EV) (k : V → ρ) : ρ := match e with
  | .v x => eV x k
  | _ => bot
def rsV (e : Option V) (k : V → ρ) : ρ := match e with
  | some x => eV x k
  | _ => bot
/-- Of a result, that many results behind. -/
def cRes (i j : Nat) : Get ρ (Option V) := match Nat.blt j i with
  | true => cGet bot (Option V) (i - 1 - j)
  | false => ⟨fun _ _ => bot⟩
def cRd (i : Nat) (o : Opd) : Rd ρ := match o with
  | .slot n => ⟨fun env _ k => (cGet bot EV n).run env fun e => evV bot e k⟩
  | .res j => ⟨fun _ R k => (cRes bot i j).run R fun e => rsV bot e k⟩
  | .const v => ⟨fun _ _ k => k v.erase⟩
def cRds (i : Nat) (l : List Opd) : Rds ρ :=
  List.rec (motive := fun _ => Rds ρ) ⟨fun _ _ k => k []⟩ (fun o _ ih => ⟨fun env R k => (cRd bot i o).run env R fun x => ih.run env R fun xs => k (x :: xs)⟩) l
def cPut (dst : Option Nat) : Put ρ := match dst with
  | some d => ⟨fun x k env R σ => (cSet ρ EV d).run env (.v x) fun env => k env (none :: R) σ⟩
  | none => ⟨fun x k env R σ => k env (some x :: R) σ⟩

/-- How a new value is forced. -/
structure Frc (ρ : Type) where
  run : V → (V → ρ) → ρ
def cBy (h : Nat) : Frc ρ := match h with
  | 0 => ⟨fun x k => k x⟩
  | 1 => ⟨fHead⟩
  | 2 => ⟨gV⟩
  | _ => ⟨fDeep⟩
/-- An act that doesn't look at objects. -/
def acP (h : Nat) (f : List V → St → ActR) : Ac ρ := ⟨fun _ xs s k => match f xs ⟨[], 0⟩ with
  | some p => (cBy h).run p.1 fun x => k x s
  | none => bot⟩
/-- An act that looks at objects. -/
def acR (h : Nat) (f : List V → SS → Option V) : Ac ρ := ⟨fun _ xs s k => match f xs s with
  | some x => (cBy h).run x fun x => k x s
  | none => bot⟩
/-- Any act. -/
def acS (h : Nat) (f : List V → St → ActR) : Ac ρ := ⟨fun _ xs s k => match f xs s.dec with
  | some p => (cBy h).run p.1 fun x => encK xs p.2 fun s => k x s
  | none => bot⟩

def callROS (call : CallS ρ) (f : FuncId) (xs : List V) (s : SS) (k : V → SS → ρ) : ρ := match s with
  | ⟨st, n, base⟩ => call f xs ⟨st, n, n⟩ fun r s' => match freezeAll s'.dec n r with
    | some r' => fDeep r' fun r' => match r'.inside n with
      | true => k r' ⟨st, n, base⟩
      | false => bot
    | none => bot
def callOwnS (call : CallS ρ) (f : FuncId) (xs : List V) (s : SS) (k : V → SS → ρ) : ρ := match s with
  | ⟨st, n, base⟩ => call f xs ⟨st, n, n⟩ fun r s' => match Go.Ab.callOwn (fun _ _ _ => some (r, s'.dec)) f xs (SS.dec ⟨st, n, base⟩) with
    | some p => fDeep p.1 fun r => k r ⟨st, n, base⟩
    | none => bot
def appL (l m : List α) (k : List α → ρ) : ρ := List.rec (motive := fun _ => (List α → ρ) → ρ) (fun k => fList fId m k) (fun a _ ih k => ih fun t => k (a :: t)) l k
/-- The first ones of a row; the row itself, where these are all. -/
def trimQ {α : Type} (n : Nat) (l : List α) : List α := match Nat.beq (List.rec (motive := fun _ => Nat) 0 (fun _ _ ih => Nat.add ih 1) l) n with
  | true => l
  | false => l.take n
def callNewS (call : CallS ρ) (f : FuncId) (xs : List V) (s : SS) (k : V → SS → ρ) : ρ := match s with
  | ⟨st, n, base⟩ => call f xs ⟨st, n, n⟩ fun r s' => appL (s'.st.take (s'.n - n)) st fun st => fNat (n + (s'.n - n)) fun m => k r ⟨st, m, base⟩
def callByS (ro : Bool) (call : CallS ρ) (f : FuncId) (xs : List V) (s : SS) (k : V → SS → ρ) : ρ :=
  match ro with
  | true => callROS bot call f xs s k
  | false => call f xs s k

/-! quick numbers -/
def ltN (a b : Int) : Bool := match a, b with
  | .ofNat m, .ofNat n => Nat.blt m n
  | .ofNat _, .negSucc _ => false
  | .negSucc _, .ofNat _ => true
  | .negSucc m, .negSucc n => Nat.blt n m
def eqN (a b : Int) : Bool := match a, b with
  | .ofNat m, .ofNat n => Nat.beq m n
  | .negSucc m, .negSucc n => Nat.beq m n
  | _, _ => false
def eqL (a : List UInt8) : List UInt8 → Bool :=
  List.rec (motive := fun _ => List UInt8 → Bool) (fun b => match b with | [] => true | _ => false) (fun x _ ih b => match b with
    | [] => false
    | y :: b => match Nat.beq x.toNat y.toNat with
      | true => ih b
      | false => false) a
def eqK (a b : IntKind) : Bool := match a, b with
  | .i64, .i64 => true
  | .u8, .u8 => true
  | a, b => decide (a = b)
def ibinQ (f : IntKind → Int → Int → Value) (xs : List V) (s : St) : ActR := match xs with
  | [.sc (.int k a), .sc (.int k' b)] => match eqK k k' with
    | true => some (.sc (f k a b), s)
    | false => none
  | _ => none
def cIbin (op : BinOp) : Ac ρ := match op with
  | .add => acP bot 1 (ibinQ fun k a b => .int k (wrapF k (a + b)))
  | .sub => acP bot 1 (ibinQ fun k a b => .int k (wrapF k (a - b)))
  | .eql => acP bot 1 (ibinQ fun _ a b => .bool (eqN a b))
  | .neq => acP bot 1 (ibinQ fun _ a b => .bool (!eqN a b))
  | .lss => acP bot 1 (ibinQ fun _ a b => .bool (ltN a b))
  | .leq => acP bot 1 (ibinQ fun _ a b => .bool (!ltN b a))
  | .gtr => acP bot 1 (ibinQ fun _ a b => .bool (ltN b a))
  | .geq => acP bot 1 (ibinQ fun _ a b => .bool (!ltN a b))
  | op => acP bot 1 (actIbin op)
def sbinQ (f : ByteArray → ByteArray → Bool) (xs : List V) (s : St) : ActR := match xs with
  | [.sc (.string a), .sc (.string b)] => some (.sc (.bool (f a b)), s)
  | _ => none
def cSbin (op : BinOp) : Ac ρ := match op with
  | .eql => acP bot 1 (sbinQ fun a b => eqL a.data.toList b.data.toList)
  | .neq => acP bot 1 (sbinQ fun a b => !eqL a.data.toList b.data.toList)
  | op => acP bot 1 (actSbin op)

def getQ (s : SS) (id : Nat) : Option Obj := match Nat.blt id s.n with
  | true => nthL s.st (s.n - 1 - id)
  | false => none
def loadQ (n : Nat) (agg : Bool) (xs : List V) (s : SS) : Option V := match xs with
  | [.ptr id off] => match getQ s id with
    | some o => match o.cs with
      | some cs => match n, agg with
        | 1, false => nthL cs off
        | n, agg => part cs off n agg
      | none => none
    | none => none
  | [.imm cs] => match n, agg with
    | 1, false => match cs with
      | v :: _ => some v
      | [] => none
    | n, agg => part cs 0 n agg
  | _ => none
def lenL (l : List α) : Nat := List.rec (motive := fun _ => Nat) 0 (fun _ _ ih => Nat.add ih 1) l
def keyEqQ (a b : V) : Option Bool := match a, b with
  | .sc (.string a), .sc (.string b) => some (eqL a.data.toList b.data.toList)
  | .sc (.int k a), .sc (.int k' b) => match eqK k k' with
    | true => some (eqN a b)
    | false => none
  | a, b => keyEq a b
def mapFindQ (k : V) (es : List (V × V)) : Option (Option V) :=
  List.rec (motive := fun _ => Option (Option V)) (some none) (fun p _ ih => match keyEqQ k p.1 with
    | none => none
    | some true => some (some p.2)
    | some false => ih) es
def lookupQ (kd : Nat) (zero : V) (ok : Bool) (xs : List V) (s : SS) : Option V := match xs with
  | [.map id, k] => match kindOK kd k with
    | true => match getQ s id with
      | some (.map es) => match mapFindQ k es with
        | some (some v) => match ok with
          | true => some (.tup [v, .bool true])
          | false => some v
        | some none => match ok with
          | true => some (.tup [zero, .bool false])
          | false => some zero
        | none => none
      | some (.mapD es) => match mapFindQ k es with
        | some (some v) => match ok with
          | true => some (.tup [v, .bool true])
          | false => some v
        | some none => match ok with
          | true => some (.tup [zero, .bool false])
          | false => some zero
        | none => none
      | _ => none
    | false => none
  | _ => none
def lenQ (k : Nat) (xs : List V) (s : SS) : Option V := match xs with
  | [.slice _ _ l] => match Nat.beq k 0 with
    | true => some (.int (.ofNat (lenL l)))
    | false => none
  | [.arr _ _ n _] => match Nat.beq k 0 with
    | true => some (.int (.ofNat n))
    | false => none
  | [.sc (.string b)] => match Nat.beq k 1 with
    | true => some (.int (.ofNat (lenL b.data.toList)))
    | false => none
  | [.map id] => match Nat.beq k 2 with
    | true => match getQ s id with
      | some (.map es) => some (.int (.ofNat (lenL es)))
      | _ => none
    | false => none
  | _ => none
def elemsQ (s : SS) (sz : Nat) (v : V) : Option (List (List V)) := match v with
  | .slice _ sz' l => match Nat.beq sz' sz with
    | true => some l
    | false => none
  | .arr id off n sz' => match Nat.beq sz' sz with
    | true => match getQ s id with
      | some (.cells cs) => match Nat.ble (off + n * sz) (lenL cs) with
        | true => some (chunks sz n (cs.drop off))
        | false => none
      | _ => none
    | false => none
  | .sc (.string b) => match Nat.beq sz 1 with
    | true => some (b.data.toList.map fun c => [.sc (.int .u8 c.toNat)])
    | false => none
  | _ => none
def strQ (xs : List V) (s : SS) : Option V := match xs with
  | [x] => match elemsQ s 1 x with
    | some l => (toBytes l).map fun bs => V.str ⟨bs.toArray⟩
    | none => none
  | _ => none
def slicePtrQ (sz n : Nat) (lo hi : Bool) (xs : List V) (s : SS) : Option V := match xs with
  | .ptr id off :: ys => match sliceArgs lo hi false n ys with
    | some (a, b, _) => match getQ s id with
      | some (.cells cs) => if off + n * sz ≤ lenL cs ∧ (a = 0 ∨ a < b) ∧ n < 2 ^ 63 then some (.arr id (off + a * sz) (b - a) sz) else none
      | _ => none
    | none => none
  | _ => none
/-- One place anew. -/
def updL (l : List α) : Nat → (α → (α → ρ) → ρ) → (List α → ρ) → ρ :=
  List.rec (motive := fun _ => Nat → (α → (α → ρ) → ρ) → (List α → ρ) → ρ) (fun _ _ _ => bot) (fun a t ih i f k => Nat.rec (motive := fun _ => ρ) (f a fun a => k (a :: t)) (fun p _ => ih p f fun t => k (a :: t)) i) l
def updQ (s : SS) (id : Nat) (f : Obj → (Obj → ρ) → ρ) (k : SS → ρ) : ρ := match s with
  | ⟨st, n, base⟩ => match Nat.blt id n with
    | true => updL bot st (n - 1 - id) f fun st => k ⟨st, n, base⟩
    | false => bot
def pushQ (o : Obj) (k : V → SS → ρ) (v : Nat → V) (s : SS) : ρ := match s with
  | ⟨st, n, base⟩ => fNat (Nat.add n 1) fun m => k (v n) ⟨o :: st, m, base⟩
def putCells (off n : Nat) (x : V) (cs : List V) (k : List V → ρ) : ρ := match n, x with
  | 1, .agg _ => if off + 1 ≤ cs.length then fList gHead (splice cs off x.cells) k else bot
  | 1, x => updL bot cs off (fun _ k => k x) k
  | n, x => if off + n ≤ cs.length then fList gHead (splice cs off x.cells) k else bot
def acStore (n : Nat) : Ac ρ := ⟨fun _ xs s k => match xs with
  | [.ptr id off, x] => match Nat.ble s.base id with
    | true => if x.cells.length = n ∧ x.cells.all V.leaf = true then updQ bot s id (fun o k => match o with
        | .cells cs => putCells bot off n x cs fun cs => k (.cells cs)
        | .var t cs => putCells bot off n x cs fun cs => k (.var t cs)
        | _ => bot) fun s => k .undef s else bot
    | false => bot
  | _ => bot⟩
def mapPutC (k v : V) (es : List (V × V)) : (List (V × V) → ρ) → ρ :=
  List.rec (motive := fun _ => (List (V × V) → ρ) → ρ) (fun K => K [(k, v)]) (fun p t ih K => match keyEqQ k p.1 with
    | none => bot
    | some true => K ((p.1, v) :: t)
    | some false => ih fun t => K (p :: t)) es
def acMapSet (kd : Nat) : Ac ρ := ⟨fun _ xs s k => match xs with
  | [.map id, key, v] => match Nat.ble s.base id with
    | true => match kindOK kd key with
      | true => updQ bot s id (fun o k => match o with
        | .map es => mapPutC bot key v es fun es => k (.map es)
        | .mapD es => mapPutC bot key v es fun es => k (.mapD es)
        | _ => bot) fun s => k .undef s
      | false => bot
    | false => bot
  | _ => bot⟩
def mapDropC (k : V) (es : List (V × V)) : (List (V × V) → ρ) → ρ :=
  List.rec (motive := fun _ => (List (V × V) → ρ) → ρ) (fun K => K []) (fun p t ih K => match keyEqQ k p.1 with
    | none => bot
    | some true => K t
    | some false => ih fun t => K (p :: t)) es
def acMapDel (kd : Nat) : Ac ρ := ⟨fun _ xs s k => match xs with
  | [.map id, key] => match Nat.ble s.base id with
    | true => match kindOK kd key with
      | true => updQ bot s id (fun o k => match o with
        | .map es => mapDropC bot key es fun es => k (.mapD es)
        | .mapD es => mapDropC bot key es fun es => k (.mapD es)
        | _ => bot) fun s => k .undef s
      | false => bot
    | false => bot
  | _ => bot⟩
def acAlloc (t : TypeId) (zero : List V) : Ac ρ := ⟨fun _ xs s k => match xs with
  | [] => match zero.all V.leaf with
    | true => pushQ (.var t zero) k (fun n => .ptr n 0) s
    | false => bot
  | _ => bot⟩
def acAllocArr (zero : List V) : Ac ρ := ⟨fun _ xs s k => match xs with
  | [] => match zero.all V.leaf with
    | true => pushQ (.cells zero) k (fun n => .ptr n 0) s
    | false => bot
  | _ => bot⟩
def acBox (t : TypeId) : Ac ρ := ⟨fun _ xs s k => match xs with
  | [x] => match x.cells.all V.leaf with
    | true => fList gHead x.cells fun cs => pushQ (.var t cs) k (fun n => .ptr n 0) s
    | false => bot
  | _ => bot⟩
def acMkMap : Ac ρ := ⟨fun _ xs s k => match xs with
  | [] => pushQ (.map []) k (fun n => .map n) s
  | _ => bot⟩
def acAppend (sz : Nat) (arr : Bool) : Ac ρ := ⟨fun _ xs s k => match xs with
  | [.slice o sz' l, x] => match elemsQ s sz x with
    | some l' => match arr with
      | true => match o with
        | .shut => if sz' = sz ∧ lenL l = 0 ∧ lenL l' ≤ roomy then
            (match Nat.beq (lenL l') 0 with
              | true => k (.slice .shut sz []) s
              | false => fNat (lenL l') fun m => fList gHead l'.flatten fun cs => pushQ (.cells cs) k (fun n => .arr n 0 m sz) s) else bot
        | _ => bot
      | false => match o with
        | .no => bot
        | o => if sz' = sz ∧ lenL l + lenL l' ≤ roomy then
            (match Nat.beq (lenL l') 0 with
              | true => appL l l' fun l => k (.slice o sz l) s
              | false => appL l l' fun l => k (.slice .tail sz l) s) else bot
    | none => bot
  | [.arr id off n sz', x] => match Nat.ble s.base id with
    | true => match elemsQ s sz x with
      | some l' => match getQ s id with
        | some (.cells cs) => if sz' = sz ∧ off = 0 ∧ n * sz ≤ lenL cs ∧ n + lenL l' ≤ roomy then
            updQ bot s id (fun _ k => k .dead) fun s => fNat (n + lenL l') fun m => appL (trimQ (n * sz) cs) l'.flatten fun cs => pushQ (.cells cs) k (fun i => .arr i 0 m sz) s else bot
        | _ => bot
      | none => bot
    | false => bot
  | _ => bot⟩
def idxQ (sz : Nat) (xs : List V) (s : St) : ActR := match xs with
  | [.slice _ sz' l, .sc (.int _ i)] => match i with
    | .ofNat i => match Nat.beq sz sz' with
      | true => match nthL l i with
        | some cs => some (.imm cs, s)
        | none => none
      | false => none
    | .negSucc _ => none
  | xs => actIndexAddr sz xs s

def cAct (a : A) : Ac ρ := match a with
  | .mov => acP bot 0 fun xs s => match xs with
    | [x] => some (x, s)
    | _ => none
  | .lit v => acP bot 0 fun xs s => match xs with
    | [] => some (v, s)
    | _ => none
  | .pick => acP bot 2 (actPick)
  | .ibin op => cIbin bot op
  | .shift op => acP bot 1 (actShift op)
  | .sbin op => cSbin bot op
  | .bbin c => acP bot 1 (actBbin c)
  | .nilp c => acP bot 1 (actNilp c)
  | .nilif c => acP bot 1 (actNilif c)
  | .not => acP bot 1 actNot
  | .neg => acP bot 1 actNeg
  | .ptrEq c => acP bot 1 (actPtrEq c)
  | .ptrMov => acP bot 0 actPtrMov
  | .aggEq kd c => acP bot 1 (actAggEq kd c)
  | .chr => acP bot 1 actChr
  | .sliceData => acP bot 0 actSliceData
  | .unsafeStr e => acS bot 1 (actUnsafeStr e)
  | .appendB e => acS bot 3 (actAppendB e)
  | .conv k => acP bot 1 (actConv k)
  | .mkIface t => acP bot 2 (actMkIface t)
  | .mkFunc fn n => acP bot 0 fun xs s => some (.func fn (xs.take n) (xs.drop n), s)
  | .mkMap => acMkMap bot
  | .lookup kd zero ok => acR bot 0 (lookupQ kd zero ok)
  | .mapSet kd => acMapSet bot kd
  | .mapDel kd => acMapDel bot kd
  | .mapEntry kd zero => acS bot 0 (actMapEntry kd zero)
  | .entryStore => acS bot 0 actEntryStore
  | .build zero ps => acP bot 2 (actBuild zero ps)
  | .buildSlice sz n zero is => acP bot 3 (actBuildSlice sz n zero is)
  | .makeSlice zero arr => acS bot 3 (actMakeSlice zero arr)
  | .alloc t zero => acAlloc bot t zero
  | .box t => acBox bot t
  | .load n agg => acR bot 2 (loadQ n agg)
  | .store n => acStore bot n
  | .nilCheck => acP bot 0 actNilCheck
  | .fieldAddr off => acP bot 1 (actFieldAddr off)
  | .field off n agg => acP bot 2 (actField off n agg)
  | .indexAddr sz => acP bot 1 (idxQ sz)
  | .indexAgg sz n agg => acP bot 2 (actIndexAgg sz n agg)
  | .indexStr => acP bot 1 actIndexStr
  | .sliceS sz lo hi mx => acP bot 3 (actSliceS sz lo hi mx)
  | .sliceStr lo hi => acP bot 1 (actSliceStr lo hi)
  | .len k => acR bot 1 (lenQ k)
  | .append sz arr => acAppend bot sz arr
  | .appendNil sz arr => acS bot 3 (actAppendNil sz arr)
  | .extract i => acP bot 0 (actExtract i)
  | .str => acR bot 1 strQ
  | .bytes => acP bot 3 actBytes
  | .assertT t zero ok => acP bot 0 (actAssertT t zero ok)
  | .assertI yes no zero ok => acP bot 0 (actAssertI yes no zero ok)
  | .call f ro => match ro with
    | true => ⟨fun call xs s k => callROS bot call f xs s k⟩
    | false => ⟨fun call xs s k => call f xs s k⟩
  | .callOwn f => ⟨fun call xs s k => callOwnS bot call f xs s k⟩
  | .callv ro => ⟨fun call xs s k => match xs with
    | .func (.func f) first cap :: ys => callByS bot ro call f (first ++ ys ++ cap) s k
    | _ => bot⟩
  | .invoke tab ro => ⟨fun call xs s k => match xs with
    | .iface t v :: ys => match look t tab with
      | some f => callByS bot ro call f (v :: ys) s k
      | none => bot
    | _ => bot⟩
  | .nilsl c => acP bot 1 (actNilsl c)
  | .capS => acP bot 0 actCapS
  | .appendZ sz zero => acS bot 0 (actAppendZ sz zero)
  | .loadT t off => acS bot 2 (actLoadT t off)
  | .callF f ks => ⟨fun call xs s k => call f xs s fun r s' => match ks.all fun p => leavesAt p.1 p.2 s.dec.objs s'.dec.objs with
    | true => k r s'
    | false => bot⟩
  | .imin => acP bot 1 actImin
  | .clearA sz zero => acS bot 0 (actClearA sz zero)
  | .callNew f => ⟨fun call xs s k => callNewS call f xs s k⟩
  | .bad => acP bot 0 fun _ _ => none
  | .allocArr zero => acAllocArr bot zero
  | .indexPtr sz n => acP bot 1 (actIndexPtr sz n)
  | .slicePtr sz n lo hi => acR bot 1 (slicePtrQ sz n lo hi)

def cOp (i : Nat) (m : MOper) : Op1 ρ := match m.k with
  | .nop j => ⟨fun _ k env R σ => (cGet bot EV j).run env fun e => match e with
      | .box _ => k env (none :: R) σ
      | _ => bot⟩
  | .act a => match a.fresh with
    | true => ⟨fun call k env R σ => (cRds bot i m.args).run env R fun xs => (cAct bot a).run call xs σ fun x σ => (cPut m.dst).run x k env R σ⟩
    | false => ⟨fun call k env R σ => (cRds bot i m.args).run env R fun xs => (cAct bot a).run call xs σ fun x σ => eV x fun x => (cPut m.dst).run x k env R σ⟩
  | .move j => ⟨fun _ k env R σ => (cRes bot i j).run R fun r => match r with
      | some x => eV x fun y => (cSet ρ (Option V) (i - 1 - j)).run R (some y) fun R => (cPut m.dst).run x k env R σ
      | none => bot⟩
  | .mvt j => ⟨fun _ k env R σ => (cGet bot EV j).run env fun r => match r with
      | .v x => eV x fun y => (cSet ρ EV j).run env (.v y) fun env => (cPut m.dst).run x k env R σ
      | _ => bot⟩
  | .own a j => ⟨fun call k env R σ => (cRes bot i j).run R fun r => match r with
      | some x => (cRds bot i m.args).run env R fun xs => (cAct bot a).run call (x :: xs) σ fun y σ => eV x fun x => (cSet ρ (Option V) (i - 1 - j)).run R (some x) fun R => (cPut m.dst).run y k env R σ
      | none => bot⟩
  | .allocBox zero => match m.dst with
    | some d => ⟨fun _ k env R σ => (cSet ρ EV d).run env (.box zero) fun env => k env (none :: R) σ⟩
    | none => ⟨fun _ _ _ _ _ => bot⟩
  | .boxBox => match m.dst with
    | some d => ⟨fun _ k env R σ => (cRds bot i m.args).run env R fun xs => match xs with
      | [x] => eV x fun x => fList gHead x.cells fun cs => (cSet ρ EV d).run env (.box cs) fun env => k env (none :: R) σ
      | _ => bot⟩
    | none => ⟨fun _ _ _ _ _ => bot⟩
  | .loadBox j off n agg => ⟨fun _ k env R σ => (cGet bot EV j).run env fun e => match e with
      | .box cs => match part cs off n agg with
        | some x => gV x fun x => eV x fun x => (cPut m.dst).run x k env R σ
        | none => bot
      | _ => bot⟩
  | .takeBox j off => ⟨fun _ k env R σ => (cGet bot EV j).run env fun e => match e with
      | .box cs => (cGet bot V off).run cs fun x => match x.leaf with
        | true => eV x fun y => (cSet ρ V off).run cs y fun cs => (cSet ρ EV j).run env (.box cs) fun env => (cPut m.dst).run x k env R σ
        | false => bot
      | _ => bot⟩
  | .storeBox j off n => ⟨fun _ k env R σ => (cGet bot EV j).run env fun e => match e with
      | .box cs => (cRds bot i m.args).run env R fun xs => match xs with
        | [x] => if x.cells.length = n ∧ off + n ≤ cs.length ∧ x.cells.all V.leaf = true then fList gHead (splice cs off x.cells) fun cs => (cSet ρ EV j).run env (.box cs) fun env => k env (none :: R) σ else bot
        | _ => bot
      | _ => bot⟩
  | .keepBox j off n r => ⟨fun _ k env R σ => (cGet bot EV j).run env fun e => match e with
      | .box cs => (cRes bot i r).run R fun q => match q with
        | some x => if x.cells.length = n ∧ off + n ≤ cs.length ∧ x.cells.all V.leaf = true then
          fList gHead (splice cs off x.cells) fun cs => (cSet ρ EV j).run env (.box cs) fun env => eV x fun x => (cSet ρ (Option V) (i - 1 - r)).run R (some x) fun R => k env (none :: R) σ else bot
        | none => bot
      | _ => bot⟩
  | .boxTake r => match m.dst with
    | some d => ⟨fun _ k env R σ => (cRes bot i r).run R fun q => match q with
      | some x => fList gHead x.boxed fun b => (cSet ρ EV d).run env (.box b) fun env => eV x fun y => (cSet ρ (Option V) (i - 1 - r)).run R (some y) fun R => k env (none :: R) σ
      | none => bot⟩
    | none => ⟨fun _ _ _ _ _ => bot⟩

def cGuard (i : Nat) (m : MOper) : Op1 ρ := match m.guard with
  | none => cOp bot i m
  | some (j, want) => ⟨fun call k env R σ => (cRes bot i j).run R fun r => match r with
    | some (.sc (.bool b)) => match b == want with
      | true => (cOp bot i m).run call k env R σ
      | false => (cPut m.dst).run .undef k env R σ
    | some (.sc (.tuple _)) => (cPut m.dst).run .undef k env R σ
    | _ => bot⟩

def cOps (ms : List MOper) : Nat → Op1 ρ :=
  List.rec (motive := fun _ => Nat → Op1 ρ) (fun _ => ⟨fun _ k => k⟩) (fun m _ ih i => ⟨fun call k env R σ => (cGuard bot i m).run call (fun env R σ => (ih (i + 1)).run call k env R σ) env R σ⟩) ms

def iterS (f : List EV → SS → KX ρ → ρ) (n : Nat) : List EV → SS → KX ρ → ρ :=
  Nat.rec (motive := fun _ => List EV → SS → KX ρ → ρ) (fun _ _ _ => bot) (fun _ ih env σ k => f env σ fun o env σ => match o with
    | .norm => ih env σ k
    | .exit id => k (.exit id) env σ
    | .ret => k .ret env σ) n

def cCode (c : MCode) : Cod ρ :=
  MCode.rec (motive := fun _ => Cod ρ)
    ⟨fun _ _ env σ k => k .norm env σ⟩
    (fun ops => ⟨fun call _ env σ k => (cOps bot ops 0).run call (fun env _ σ => k .norm env σ) env [] σ⟩)
    (fun _ _ iha ihb => ⟨fun call n env σ k => iha.run call n env σ fun o env σ => match o with
      | .norm => ihb.run call n env σ k
      | .exit id => k (.exit id) env σ
      | .ret => k .ret env σ⟩)
    (fun c _ _ iha ihb => ⟨fun call n env σ k => (cRd bot 0 c).run env [] fun x => match x with
      | .sc (.bool b) => match b with
        | true => iha.run call n env σ k
        | false => ihb.run call n env σ k
      | _ => bot⟩)
    (fun id _ ih => ⟨fun call n env σ k => ih.run call n env σ fun o env σ => match o with
      | .exit id' => if id' = id then k .norm env σ else k (.exit id') env σ
      | .norm => k .norm env σ
      | .ret => k .ret env σ⟩)
    (fun _ ih => ⟨fun call n env σ k => iterS bot (fun e s k => ih.run call n e s k) n env σ k⟩)
    (fun id => ⟨fun _ _ env σ k => k (.exit id) env σ⟩)
    ⟨fun _ _ env σ k => k .ret env σ⟩ c

/-- The frame at the begin. -/
def cStart (slots : List Tmp) (n : Nat) (xs : List V) : (List EV → ρ) → ρ :=
  List.rec (motive := fun _ => (List EV → ρ) → ρ) (fun k => k []) (fun t _ ih k => match Nat.blt t n with
    | true => fGet bot xs t fun x => eV x fun x => ih fun l => k (.v x :: l)
    | false => ih fun l => k (.v .undef :: l)) slots

structure Fun1 (ρ : Type) where
  run : CallS ρ → Nat → List V → SS → (V → SS → ρ) → ρ
def cFun (f : MFunc) : Fun1 ρ := ⟨fun call n xs σ k => match Nat.beq xs.length f.nargs with
  | true => cStart bot f.slots f.nargs xs fun env => (cCode bot f.body).run call n env σ fun o env σ => match o with
      | .exit _ => bot
      | .norm => match getAll env σ.dec f.res with
        | some rs => fDeep (tupled rs) fun v => k v σ
        | none => bot
      | .ret => match getAll env σ.dec f.res with
        | some rs => fDeep (tupled rs) fun v => k v σ
        | none => bot
  | false => bot⟩

/-- What is known of a call: its answer alone; or what it does to objects. -/
inductive KE where
  | v (g : List V → Option V)
  | s (g : List V → St → Option (V × St))
/-- A table of functions: known ones first. -/
abbrev KnT := FuncId → Option KE
def knOf (K : KnT) : Known := fun f xs σ => match K f with
  | some (.v g) => (g xs).map fun r => (r, σ)
  | some (.s g) => g xs σ
  | none => none
def cRest (f : Option MFunc) : Fun1 ρ := match f with
  | some m => cFun bot m
  | none => ⟨fun _ _ _ _ _ => bot⟩
def cRow (K : Option KE) (f : Option MFunc) : Fun1 ρ := match K with
  | some (.v g) => ⟨fun call n xs s k => match g xs with
    | some r => fDeep r fun r => k r s
    | none => (cRest bot f).run call n xs s k⟩
  | some (.s g) => ⟨fun call n xs s k => match g xs s.dec with
    | some p => fDeep p.1 fun r => encK xs p.2 fun s => k r s
    | none => (cRest bot f).run call n xs s k⟩
  | none => cRest bot f
def callC (K : KnT) (F : Funcs) (n : Nat) : CallS ρ :=
  Nat.rec (motive := fun _ => CallS ρ) (fun _ _ _ _ => bot) (fun n ih f xs s k => (cRow bot (K f) (F f)).run ih n xs s k) n
end
end Go.Ab

/- Which operation of the program an operation of the abstract machine stands for; and that it does what the abstract machine says: the operations that change nothing. No premise but those named. -/
import Derived.Test.YthbebafhngihgaaGreatDoorA3
import Derived.Laws.IdiomCopy
import Derived.Laws.Cells
import Derived.WideLaws
import Derived.Laws.Build
import Derived.Laws.Unary
import Derived.Laws.Strings
namespace Go.Ab
open Go

def isSize (P : Program) (t : TypeId) (n : Nat) : Bool := match P.info? t with
  | some i => i.size == n
  | none => false
def isAggB (P : Program) (t : TypeId) (b : Bool) : Bool := match P.underlying t with
  | some (.struct _) | some (.array _ _) => b
  | some _ => !b
  | none => false
def fieldIs (P : Program) (t : TypeId) (f off : Nat) : Option TypeId := match P.underlying t with
  | some (.struct fs) => match fs[f]? with
    | some x => if x.offset = off then some x.type else none
    | none => none
  | _ => none
def isStr (P : Program) (t : TypeId) : Bool := match P.underlying t with
  | some .string => true
  | _ => false
def isInt (P : Program) (t : TypeId) (k : IntKind) : Bool := match P.underlying t with
  | some (.int k') => k' == k
  | _ => false
def isSome (P : Program) (t : TypeId) : Bool := (P.underlying t).isSome
def sliceElem (P : Program) (t : TypeId) : Option TypeId := match P.underlying t with
  | some (.slice e) => some e
  | _ => none
/-- A constant and its abstract value. -/
def constOK (v : V) (c : Value) : Bool :=
  match v, c with
  | .sc (.int k a), .int k' b => k == k' && a == b
  | .sc (.bool a), .bool b => a == b
  | .sc (.string a), .string b => decide (a = b)
  | .sc (.pointer none), .pointer none => true
  | .sc .nilIface, .nilIface => true
  | .sc .nilFunc, .nilFunc => true
  | .sc (.map none), .map none => true
  | .slice _ _ [], .slice none 0 0 => true
  | _, _ => false

theorem constOK_rel {μ lim w} {v : V} {c : Value} (h : constOK v c = true) : RelV μ lim w v c := by
  unfold constOK at h
  split at h
  · simp only [Bool.and_eq_true, beq_iff_eq] at h; obtain ⟨rfl, rfl⟩ := h; unfold RelV; exact ⟨rfl, rfl⟩
  · simp only [beq_iff_eq] at h; obtain rfl := h; unfold RelV; exact ⟨rfl, rfl⟩
  · obtain rfl := of_decide_eq_true h; unfold RelV; exact ⟨rfl, rfl⟩
  · unfold RelV; exact ⟨rfl, rfl⟩
  · unfold RelV; exact ⟨rfl, rfl⟩
  · unfold RelV; exact ⟨rfl, rfl⟩
  · unfold RelV; exact ⟨rfl, rfl⟩
  · unfold RelV; exact ⟨none, 0, rfl, ⟨by simp, fun _ => rfl⟩, by decide, rfl⟩
  · simp at h

def Cmp.op : Cmp → BinOp
  | .eql => .eql
  | .neq => .neq

/-- the operands of an operation that an operation of the abstract machine stands for; none: it doesn't stand for it -/
def fit1 (P : Program) (a : A) (op : Op) : Option (List Operand) :=
  match a with
  | .mov => match op with
    | .move x => some [x]
    | .assign x => some [x]
    | _ => none
  | .lit v => match op with
    | .move (.const c) => if constOK v c then some [] else none
    | .assign (.const c) => if constOK v c then some [] else none
    | _ => none
  | .pick => match op with
    | .pick c x y => some [c, x, y]
    | _ => none
  | .ibin b => match op with
    | .binOp b' _ x y _ => if b = b' && !(b == .shl) && !(b == .shr) then some [x, y] else none
    | _ => none
  | .shift b => match op with
    | .binOp b' _ x y _ => if b = b' && (b == .shl || b == .shr) then some [x, y] else none
    | _ => none
  | .sbin b => match op with
    | .binOp b' _ x y _ => if b = b' then some [x, y] else none
    | _ => none
  | .bbin c => match op with
    | .binOp b t x y _ => match P.underlying t with
      | some .bool => if b = c.op then some [x, y] else none
      | _ => none
    | _ => none
  | .nilp c => match op with
    | .binOp b t x y _ => match P.underlying t with
      | some (.pointer _) => if b = c.op then some [x, y] else none
      | _ => none
    | _ => none
  | .nilif c => match op with
    | .binOp b t x (.const .nilIface) _ => match P.underlying t with
      | some (.interface _) => if b = c.op then some [x, .const .nilIface] else none
      | _ => none
    | _ => none
  | .not => match op with
    | .unOp .not _ x => some [x]
    | _ => none
  | .neg => match op with
    | .unOp .neg _ x => some [x]
    | _ => none
  | .conv k => match op with
    | .convert s d x => if isSome P s && isInt P d k then some [x] else none
    | _ => none
  | .mkIface t => match op with
    | .makeInterface u x => if t = u && P.concrete t then some [x] else none
    | _ => none
  | .mkFunc fn n => match op with
    | .makeFunc fn' first cap => if fn = fn' && first.size = n then some (first.toList ++ cap.toList) else none
    | _ => none
  | .nilCheck => match op with
    | .nilCheck x => some [x]
    | _ => none
  | .fieldAddr off => match op with
    | .fieldAddr t x f => match fieldIs P t f off with
      | some ft => match P.info? ft with
        | some i => if i.size = 0 then none else some [x]
        | none => none
      | none => none
    | _ => none
  | .field off n agg => match op with
    | .field t x f => match fieldIs P t f off with
      | some ft => if isSize P ft n && isAggB P ft agg then some [x] else none
      | none => none
    | _ => none
  | .load n agg => match op with
    | .load t x => if isSize P t n && isAggB P t agg && (agg || n == 1) then some [x] else none
    | _ => none
  | .indexAddr sz => match op with
    | .indexAddr t x i => match sliceElem P t with
      | some e => if isSize P e sz then some [x, i] else none
      | none => none
    | _ => none
  | .indexAgg sz n agg => match op with
    | .index t x i => match P.underlying t with
      | some (.array k e) => if k = n && isSize P e sz && isAggB P e agg then some [x, i] else none
      | _ => none
    | _ => none
  | .indexStr => match op with
    | .index t x i => if isStr P t then some [x, i] else none
    | _ => none
  | .len k => match op with
    | .call c => match c.callee, c.args.toList, c.argTypes.toList with
      | .builtin .len, [x], [t] => match P.underlying t with
        | some .string => if k = 1 then some [x] else none
        | some (.slice _) => if k = 0 then some [x] else none
        | some (.map _ _) => if k = 2 then some [x] else none
        | _ => none
      | _, _, _ => none
    | _ => none
  | .extract i => match op with
    | .extract x j => if i = j then some [x] else none
    | _ => none
  | _ => none

/-! ## they do what is said -/

/-- An operation that changes nothing answers so. -/
def Quiet (P : Program) (μ : List Nat) (lim : Nat → Nat) (w : World) (o : Oper) (ρ : Operand → Value) (x : V) : Prop :=
  ∃ X, (execOp ρ o).run P w = .ok (.value X) w ∧ RelV μ lim w x X

section
variable {P : Program} {μ : List Nat} {lim : Nat → Nat} {w : World} {σ σ' : St} {o : Oper} {ρ : Operand → Value} {xs : List V} {x : V} {call : CallT} {opers : List Operand}

theorem isSize_spec {t n} (h : isSize P t n = true) : ∃ i, P.info? t = some i ∧ i.size = n := by
  unfold isSize at h
  cases hi : P.info? t with
  | none => simp [hi] at h
  | some i => simp [hi] at h; exact ⟨i, rfl, h⟩
theorem run_sizeOf {t n} (h : isSize P t n = true) (w : World) : (sizeOf t).run P w = .ok n w := by
  obtain ⟨i, hi, hn⟩ := isSize_spec h
  simp [sizeOf, typeInfo, hi, hn]
theorem run_isAgg {t b} (h : isAggB P t b = true) (w : World) : (isAgg t).run P w = .ok b w := by
  unfold isAggB at h
  cases hu : P.underlying t with
  | none => simp [hu] at h
  | some d =>
    have := run_underlying hu w
    simp only [isAgg, Sem.run_bind, this, Result.andThen_ok]
    cases d <;> simp [hu] at h <;> subst h <;> rfl

theorem rel2 {a b : Operand} (h : RelVs μ lim w xs ([a, b].map ρ)) : ∃ x y, xs = [x, y] ∧ RelV μ lim w x (ρ a) ∧ RelV μ lim w y (ρ b) := by
  match xs, h with
  | [x, y], h => simp only [List.map_cons, List.map_nil] at h; unfold RelVs at h; unfold RelVs at h; exact ⟨x, y, rfl, h.1, h.2.1⟩
  | [], h => simp only [List.map_cons] at h; unfold RelVs at h; exact h.elim
  | [_], h => simp only [List.map_cons] at h; unfold RelVs at h; unfold RelVs at h; exact h.2.elim
  | _ :: _ :: _ :: _, h => simp only [List.map_cons, List.map_nil] at h; unfold RelVs at h; unfold RelVs at h; unfold RelVs at h; exact h.2.2.elim
theorem rel1 {a : Operand} (h : RelVs μ lim w xs ([a].map ρ)) : ∃ x, xs = [x] ∧ RelV μ lim w x (ρ a) := by
  match xs, h with
  | [x], h => simp only [List.map_cons, List.map_nil] at h; unfold RelVs at h; exact ⟨x, rfl, h.1⟩
  | [], h => simp only [List.map_cons] at h; unfold RelVs at h; exact h.elim
  | _ :: _ :: _, h => simp only [List.map_cons, List.map_nil] at h; unfold RelVs at h; unfold RelVs at h; exact h.2.elim
theorem rel3 {a b c : Operand} (h : RelVs μ lim w xs ([a, b, c].map ρ)) : ∃ x y z, xs = [x, y, z] ∧ RelV μ lim w x (ρ a) ∧ RelV μ lim w y (ρ b) ∧ RelV μ lim w z (ρ c) := by
  match xs, h with
  | x :: xs, h =>
    simp only [List.map_cons] at h
    unfold RelVs at h
    obtain ⟨y, z, rfl, h1, h2⟩ := rel2 (a := b) (b := c) (ρ := ρ) (xs := xs) (by simpa using h.2)
    exact ⟨x, y, z, rfl, h.1, h1, h2⟩
  | [], h => simp only [List.map_cons] at h; unfold RelVs at h; exact h.elim
theorem relSc {v X : Value} (h : RelV μ lim w (.sc v) X) : X = v := by unfold RelV at h; exact h.1
theorem scRel {v : Value} (h : v.noAgg = true) : RelV μ lim w (.sc v) v := by unfold RelV; exact ⟨rfl, h⟩

end
end Go.Ab

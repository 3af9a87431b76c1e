/- Control, functions, calls of calls. No premise but those named. -/
import Derived.Test.YthjniafhfboggaaGreatDoorE3
namespace Go.Ab
open Go

/-! ## loops -/

def inLoopWp (P : Program) (c : Code) (Q : Exit → Act → World → Prop) (a : Act) (w : World) : Prop :=
  ∀ (b : Frame) (k : List Item) (cs : List Frame), ∃ e a' w', Q e a' w' ∧ Arrives P (lone (b.at a (.code c :: .inLoop c :: k)) cs w) b k cs e a' w'

theorem inLoop_step {P : Program} {c : Code} {Q : Exit → Act → World → Prop} {a : Act} {w : World} (h : c.wp P (Exit.then (inLoopWp P c Q) Q) a w) : inLoopWp P c Q a w := by
  intro b k cs
  obtain ⟨e, a₁, w₁, hq, harr⟩ := h b (.inLoop c :: k) cs
  cases e with
  | normal =>
    obtain ⟨e₂, a₂, w₂, hq₂, harr₂⟩ := hq b k cs
    exact ⟨e₂, a₂, w₂, hq₂, .of_steps (Steps.trans harr (.one step_inLoop)) harr₂⟩
  | exit id => exact ⟨_, a₁, w₁, hq, .pass (x := .inLoop c) rfl (fun _ _ => .inl (by simp)) harr⟩
  | goto l => exact ⟨_, a₁, w₁, hq, .pass (x := .inLoop c) rfl (fun _ _ => .inl (by simp)) harr⟩
  | ret => exact ⟨_, a₁, w₁, hq, .pass (x := .inLoop c) rfl (fun _ _ => .inl (by simp)) harr⟩
  | panic ch => exact ⟨_, a₁, w₁, hq, .pass (x := .inLoop c) rfl (fun _ _ => .inl (by simp)) harr⟩
  | outgrown => exact ⟨_, a₁, w₁, hq, .pass (x := .inLoop c) rfl (fun _ _ => .inl (by simp)) harr⟩

theorem loop_of {P : Program} {c : Code} {Q : Exit → Act → World → Prop} {a : Act} {w : World} (h : inLoopWp P c Q a w) : (Code.loop c).wp P Q a w := by
  intro b k cs
  obtain ⟨e, a', w', hq, harr⟩ := h b k cs
  exact ⟨e, a', w', hq, .of_steps (.one step_loop) harr⟩

/-! ## the check of a function's code -/

def dstsOf : List MOper → List Oper → List (Option Tmp)
  | m :: ms, o :: os => (if m.dst.isNone then o.dst else none) :: dstsOf ms os
  | _, _ => []

/-- The addresses into boxes, as they are made. -/
def adsOf (P : Program) (slots : List Tmp) (ops : List Oper) : List MOper → List Oper → Addrs → Addrs
  | m :: ms, o :: os, acc =>
    let x : Option (Nat × Nat) := match m.k, o.op with
      | .nop k, .fieldAddr t (.tmp u) f => match fieldOff P t f with
        | some fo => if slots[k]? == some u then some (k, fo) else
            match (List.range acc.length).find? (fun d => (ops[d]?).map (·.dst) == some (some u)) with
            | some d => match acc[d]? with
              | some (some (k', off)) => if k' == k then some (k, off + fo) else none
              | _ => none
            | none => none
        | none => none
      | _, _ => none
    adsOf P slots ops ms os (acc ++ [x])
  | _, _, acc => acc

def distinct : List (Option Tmp) → Bool
  | [] => true
  | some t :: l => !l.contains (some t) && distinct l
  | none :: l => distinct l

def frameOK (slots : List Tmp) (n : Nat) (dsts : List (Option Tmp)) : Bool :=
  distinct dsts && dsts.all fun
    | some t => decide (t < n) && !slots.contains t
    | none => true

def regOK (P : Program) (slots : List Tmp) (n : Nat) (ms : List MOper) (ops : Array Oper) (drawn : Bool) : Bool :=
  let dsts := dstsOf ms ops.toList
  let ad := adsOf P slots ops.toList ms ops.toList []
  ms.length == ops.size && frameOK slots n dsts && adFree slots ops ad && dsts.length == ops.size &&
    (if drawn then P.follows .mixedOrders && opsOK P slots dsts ops ad (waits ops) 0 ms && anyOK ops ms else opsOK P slots dsts ops ad List.range 0 ms)

def codeOK (P : Program) (slots : List Tmp) (n : Nat) : MCode → Code → Bool
  | .skip, .skip => true
  | .reg ms, .region _ ops drawn => regOK P slots n ms ops drawn
  | .seq a b, .seq x y => codeOK P slots n a x && codeOK P slots n b y
  | .cond c a b, .cond o x y => opdOK slots [] c o && codeOK P slots n a x && codeOK P slots n b y
  | .block i b, .block j y => i == j && codeOK P slots n b y
  | .loop b, .loop y => codeOK P slots n b y
  | .exit i, .exit j => i == j
  | .ret, .ret => true
  | _, _ => false

theorem distinct_spec : ∀ {l : List (Option Tmp)}, distinct l = true → ∀ (i j t : Nat), l[i]? = some (some t) → l[j]? = some (some t) → i = j
  | [], _, i, j, t, h, _ => by simp at h
  | none :: l, hd, i, j, t, hi, hj => by
    simp only [distinct] at hd
    cases i with
    | zero => simp at hi
    | succ i => cases j with
      | zero => simp at hj
      | succ j => rw [distinct_spec hd i j t (by simpa using hi) (by simpa using hj)]
  | some u :: l, hd, i, j, t, hi, hj => by
    simp only [distinct, Bool.and_eq_true, Bool.not_eq_true', List.contains_eq_mem, decide_eq_false_iff_not] at hd
    cases i with
    | zero => cases j with
      | zero => rfl
      | succ j =>
        simp at hi hj
        subst hi
        exact absurd (List.mem_of_getElem? hj) hd.1
    | succ i => cases j with
      | zero =>
        simp at hi hj
        subst hj
        exact absurd (List.mem_of_getElem? hi) hd.1
      | succ j => rw [distinct_spec hd.2 i j t (by simpa using hi) (by simpa using hj)]

theorem ctx_ok {C : Ctx} (hC : C.OK) {dsts : List (Option Tmp)} (h : frameOK C.slots C.n dsts = true) : ({ C with dsts := dsts } : Ctx).OK := by
  simp only [frameOK, Bool.and_eq_true] at h
  refine ⟨hC.nodup, hC.lt, fun j t hj => ?_, fun i j t hi hj => distinct_spec h.1 i j t hi hj⟩
  have := List.all_eq_true.1 h.2 (some t) (List.mem_of_getElem? hj)
  simpa using this

theorem FRel.region {C : Ctx} {μ : List Nat} {lim : Nat → Nat} {ow : Nat → Owner} {env : List EV} {R : List (Option V)} {σ : St} {a : Act} {w : World} (h : FRel C μ lim ow ⟨env, R, σ⟩ a w) (dsts : List (Option Tmp)) :
    FRel { C with dsts := dsts } μ lim ow ⟨env, List.replicate dsts.length none, σ⟩ a w := by
  refine ⟨h.chg, h.based, h.tmps, h.envlen, h.env, by simp, ?_, h.owobj, h.owfresh, h.owold, h.defers⟩
  intro j v t hv _
  simp only at hv
  rw [List.getElem?_replicate] at hv
  split at hv <;> cases hv

theorem FRel.unregion {C : Ctx} {dsts : List (Option Tmp)} (hd : C.dsts = []) {μ : List Nat} {lim : Nat → Nat} {ow : Nat → Owner} {s : FS} {a : Act} {w : World} (h : FRel { C with dsts := dsts } μ lim ow s a w) :
    FRel C μ lim ow ⟨s.env, [], s.σ⟩ a w := by
  refine ⟨h.chg, h.based, h.tmps, h.envlen, h.env, by rw [hd]; rfl, ?_, h.owobj, h.owfresh, h.owold, h.defers⟩
  intro j v t hv _
  simp at hv

def Out.exit' : Out → Exit
  | .norm => .normal
  | .exit id => .exit id
  | .ret => .ret

section
variable {P : Program} {C : Ctx} {call : CallT} {Q : Exit → Act → World → Prop}

theorem opsOK_get {slots : List Tmp} {dsts : List (Option Tmp)} {ops : Array Oper} {ad : Addrs} {deps : Nat → List Nat} : ∀ {ms : List MOper} {i : Nat}, opsOK P slots dsts ops ad deps i ms = true → ∀ k m o, ms[k]? = some m → ops[i + k]? = some o → stepOK P slots dsts ops ad (deps (i + k)) (i + k) m o = true
  | [], _, _, k, m, o, h, _ => by simp at h
  | n :: ms, i, hok, 0, m, o, hm, ho => by
    simp only [opsOK, Bool.and_eq_true] at hok
    simp at hm ho
    subst hm
    rw [ho] at hok
    exact hok.1
  | n :: ms, i, hok, k + 1, m, o, hm, ho => by
    simp only [opsOK, Bool.and_eq_true] at hok
    have := opsOK_get hok.2 k m o (by simpa using hm) (by rw [← ho]; congr 1; omega)
    rw [show i + (k + 1) = i + 1 + k by omega]; exact this

theorem region_sound (hC : C.OK) (hd : C.dsts = []) (hcall : CallOK P call) {ms : List MOper} {id : Nat} {ops : Array Oper} {drawn : Bool} (hok : regOK P C.slots C.n ms ops drawn = true) {env : List EV} {σ : St} {μ : List Nat} {lim : Nat → Nat} {ow : Nat → Owner} {a : Act} {w : World}
    (h : FRel C μ lim ow ⟨env, [], σ⟩ a w) {s' : FS} (hr : runOps call 0 ms ⟨env, List.replicate ms.length none, σ⟩ = some s') (hQ : ∀ μ' lim' ow' a' w', FRel C μ' lim' ow' ⟨s'.env, [], s'.σ⟩ a' w' → Q .normal a' w') :
    (Code.region id ops drawn).wp P Q a w := by
  simp only [regOK, Bool.and_eq_true, beq_iff_eq] at hok
  obtain ⟨⟨⟨⟨hl, hfr⟩, hfree⟩, hdl⟩, hops⟩ := hok
  have hC2 := ctx_ok hC hfr
  have hreg := h.region (dstsOf ms ops.toList)
  rw [hdl, ← hl] at hreg
  have hfin : ∀ μ' lim' ow' a' w', FRel { C with dsts := dstsOf ms ops.toList } μ' lim' ow' s' a' w' → Q .normal a' w' := fun μ' lim' ow' a' w' h' => hQ μ' lim' ow' a' w' (h'.unregion hd)
  cases drawn with
  | false =>
    simp only [Bool.false_eq_true, if_false] at hops
    refine wp_region ?_
    have := runOps_sound (Q := Q) hC2 hcall hfree ms 0 _ s' μ lim ow a w hops (by omega) hreg (by intro j _ _ _ hj; exact absurd hj (Nat.not_lt_zero _)) hr hfin
    rw [hl, ← List.range_eq_range'] at this
    exact this
  | true =>
    simp only [if_true, Bool.and_eq_true] at hops
    obtain ⟨⟨hm, hops⟩, hany⟩ := hops
    refine wp_region_any hm ?_
    have hdr : FRel { C with dsts := dstsOf ms ops.toList } μ lim ow ⟨env, List.replicate ms.length none, σ⟩ a { w with drawn := w.drawn + 1 } :=
      hreg.lift (chg_heap hreg.chg.wrel (w' := { w with drawn := w.drawn + 1 }) rfl rfl rfl rfl)
    have hrest : rest ops.size (Array.replicate ops.size false) = List.range ops.size := by
      unfold rest
      apply List.filter_eq_self.2
      intro i hi
      have := List.mem_range.1 hi
      simp [this]
    refine any_sound (ms := ms) hC2 hcall hfree hl (fun i m o hmi hoi => by have := opsOK_get hops i m o hmi (by simpa using hoi); simpa using this) hany hfin ops.size _ _ μ lim ow a _ (by simp) (by rw [hrest]; simp) ?_ hdr ?_ ?_
    · intro j k hj _
      exfalso
      simp only [Array.getD_eq_getD_getElem?, Array.getElem?_replicate] at hj
      split at hj <;> simp at hj
    · intro j k off o hj
      exfalso
      have hj' : (Array.replicate ops.size false).getD j false = true := hj
      simp only [Array.getD_eq_getD_getElem?, Array.getElem?_replicate] at hj'
      split at hj' <;> simp at hj'
    · rw [hrest, ← hl, List.range_eq_range', ← runOps_runL call ms ms 0 _ (by intro k; simp)]
      exact hr
end
end Go.Ab

/- One step of a region. No premise but those named. -/
import Derived.Test.YthjniafhfboggaaGreatDoorD3
namespace Go.Ab
open Go

def dstB (slots : List Tmp) (dsts : List (Option Tmp)) (dst : Option Nat) (i : Nat) (od : Option Tmp) : Bool := match dst with
  | some d => match od with
    | some t => slots[d]? == some t
    | none => false
  | none => dsts[i]? == some od
theorem dstB_spec {C : Ctx} {dst : Option Nat} {i : Nat} {od : Option Tmp} (h : dstB C.slots C.dsts dst i od = true) : dstOK C dst i od := by
  unfold dstB at h
  unfold dstOK
  cases dst with
  | some d => cases od with
    | some t => exact ⟨t, eq_of_beq h, rfl⟩
    | none => cases h
  | none => exact eq_of_beq h

def fieldOff (P : Program) (t : TypeId) (f : Nat) : Option Nat := match P.underlying t with
  | some (.struct fs) => match fs[f]? with
    | some x => match P.info? x.type with
      | some i => if i.size = 0 then none else some x.offset
      | none => none
    | none => none
  | _ => none
theorem run_fieldOff {P : Program} {w : World} {t : TypeId} {f off : Nat} (h : fieldOff P t f = some off) (b p : Nat) : (Instr.fieldAt t (.pointer (some ⟨b, p, none⟩)) f).run P w = .ok (.pointer (some ⟨b, p + off, none⟩)) w := by
  unfold fieldOff at h
  split at h
  case h_2 => cases h
  rename_i fs hu
  split at h
  case h_2 => cases h
  rename_i x hx
  split at h
  case h_2 => cases h
  rename_i i hi
  split at h
  case isTrue => cases h
  rename_i hz
  cases h
  have hft : fieldIs P t f x.offset = some x.type := by unfold fieldIs; simp [hu, hx]
  exact run_fieldAt hft hi hz b p

/-- Does a step of the abstract machine stand for the program's operation? -/
def kOK (P : Program) (slots : List Tmp) (dsts : List (Option Tmp)) (ops : Array Oper) (ad : Addrs) (deps : List Nat) (i : Nat) (m : MOper) (o : Oper) : Bool :=
  match m.k with
  | .nop k0 => match m.dst, o.op, ad[i]? with
    | none, .fieldAddr t x f, some (some (k, off)) => (match fieldOff P t f with
      | some fo => decide (fo ≤ off) && boxAddr slots ops ad deps m.guard k (off - fo) x && o.dst.isSome && k == k0 && (match m.guard with
        | none => true
        | some (g, _) => deps.contains g)
      | none => false)
    | _, _, _ => false
  | .act a => ad[i]? == some none && (match fitA P a o.op with
    | some opers => opdsOK slots dsts m.args opers && (!a.bare || o.dst.isNone)
    | none => false)
  | .move j => ad[i]? == some none && (match o.op with
    | .move x => opdOK slots dsts (.res j) x
    | .assign x => opdOK slots dsts (.res j) x
    | _ => false)
  | .mvt j => ad[i]? == some none && (match o.op with
    | .move x => opdOK slots dsts (.slot j) x
    | .assign x => opdOK slots dsts (.slot j) x
    | _ => false)
  | .own a j => ad[i]? == some none && (match a with
    | .append .. | .appendB _ | .sliceS .. => (match fit4 P a o.op with
      | some (x :: opers) => opdOK slots dsts (.res j) x && opdsOK slots dsts m.args opers
      | _ => false)
    | _ => false)
  | .allocBox zero => ad[i]? == some none && (match o.op with
    | .alloc t => zeroOK P t zero
    | _ => false)
  | .boxBox => ad[i]? == some none && (match o.op with
    | .box _ x => opdsOK slots dsts m.args [x]
    | _ => false)
  | .loadBox sl off n agg => ad[i]? == some none && (match o.op with
    | .load t x => isSize P t n && isAggB P t agg && boxAddr slots ops ad deps m.guard sl off x
    | _ => false)
  | .takeBox sl off => ad[i]? == some none && m.dst != some sl && (match o.op with
    | .load t x => isSize P t 1 && isAggB P t false && boxAddr slots ops ad deps m.guard sl off x
    | _ => false)
  | .storeBox sl off n => ad[i]? == some none && o.dst.isNone && m.dst.isNone && (match o.op with
    | .store t x y => isSize P t n && boxAddr slots ops ad deps m.guard sl off x && opdsOK slots dsts m.args [y]
    | _ => false)
  | .keepBox sl off n r => ad[i]? == some none && o.dst.isNone && m.dst.isNone && (match o.op with
    | .store t x y => isSize P t n && boxAddr slots ops ad deps m.guard sl off x && opdOK slots dsts (.res r) y
    | _ => false)
  | .boxTake r => ad[i]? == some none && (match o.op with
    | .box _ x => opdOK slots dsts (.res r) x
    | _ => false)

def stepOK (P : Program) (slots : List Tmp) (dsts : List (Option Tmp)) (ops : Array Oper) (ad : Addrs) (deps : List Nat) (i : Nat) (m : MOper) (o : Oper) : Bool :=
  dstB slots dsts m.dst i o.dst && guardOK dsts ops m.guard o.guard && kOK P slots dsts ops ad deps i m o

theorem opd_res {C : Ctx} {μ : List Nat} {lim : Nat → Nat} {ow : Nat → Owner} {s : FS} {a : Act} {w : World} (h : FRel C μ lim ow s a w) {j : Nat} {y : Operand} (hok : opdOK C.slots C.dsts (.res j) y = true) {x : V} (hj : s.R[j]? = some (some x)) :
    ∃ t, C.dsts[j]? = some (some t) ∧ a.tmps[t]? = some (a.eval y) ∧ RelV μ lim w x (a.eval y) ∧ OwnV lim w ow (.res j) x (a.eval y) := by
  cases y with
  | tmp t =>
    have ht : C.dsts[j]? = some (some t) := by simp only [opdOK] at hok; exact eq_of_beq hok
    obtain ⟨X, h1, h2, h3⟩ := h.res j x t hj ht
    have : a.eval (.tmp t) = X := by simp only [Act.eval, getD_some h1]
    rw [this]
    exact ⟨t, ht, h1, h2, h3⟩
  | _ => simp [opdOK] at hok
theorem opd_slot {C : Ctx} {μ : List Nat} {lim : Nat → Nat} {ow : Nat → Owner} {s : FS} {a : Act} {w : World} (h : FRel C μ lim ow s a w) {j : Nat} {y : Operand} (hok : opdOK C.slots C.dsts (.slot j) y = true) {x : V} (hj : s.env[j]? = some (.v x)) :
    ∃ t, C.slots[j]? = some t ∧ a.tmps[t]? = some (a.eval y) := by
  cases y with
  | tmp t =>
    have ht : C.slots[j]? = some t := by simp only [opdOK] at hok; exact eq_of_beq hok
    obtain ⟨X, h1, h2⟩ := h.env j _ t hj ht
    have : a.eval (.tmp t) = X := by simp only [Act.eval, getD_some h1]
    rw [this]
    exact ⟨t, ht, h1⟩
  | _ => simp [opdOK] at hok

theorem rds_one {env : List EV} {R : List (Option V)} {args : List Opd} {slots : List Tmp} {dsts : List (Option Tmp)} {y : Operand} (h : opdsOK slots dsts args [y] = true) {xs : List V} (hr : rds env R args = some xs) : ∃ x, xs = [x] := by
  cases args with
  | nil => simp [opdsOK] at h
  | cons b bs => cases bs with
    | cons _ _ => simp [opdsOK] at h
    | nil =>
      simp only [rds] at hr
      split at hr
      · cases hr
      · cases hr; exact ⟨_, rfl⟩

section
variable {P : Program} {C : Ctx} {μ : List Nat} {lim : Nat → Nat} {ow : Nat → Owner} {s s' : FS} {a : Act} {w : World} {call : CallT} {ops : Array Oper} {ad : Addrs} {done : Nat → Prop} {deps : List Nat} {i : Nat} {m : MOper} {o : Oper}
  {K : Act → World → Prop} {Q : Exit → Act → World → Prop}

theorem run_ops (h : ∃ Z w', (execOp a.eval o).run P w = .ok (.value Z) w' ∧ K (a.put o.dst Z) w') : o.wp P a w K Q := by
  obtain ⟨Z, w', h1, h2⟩ := h
  unfold Oper.wp; rw [h1]; exact h2
theorem run_skip (h : ∃ w', (execOp a.eval o).run P w = .ok .skip w' ∧ K (a.put o.dst undef) w') : o.wp P a w K Q := by
  obtain ⟨w', h1, h2⟩ := h
  unfold Oper.wp; rw [h1]; exact h2

/-- What is wanted of the step that is taken. -/
def Goes (C : Ctx) (s' : FS) (a : Act) (o : Oper) (K : Act → World → Prop) : Prop := ∀ X μ' lim' ow' w', FRel C μ' lim' ow' s' (a.put o.dst X) w' → K (a.put o.dst X) w'

theorem step_act (hC : C.OK) (hcall : CallOK P call) (h : FRel C μ lim ow s a w) {A0 : A} (hk : m.k = .act A0) (hd : dstOK C m.dst i o.dst) (hf : kOK P C.slots C.dsts ops ad deps i m o = true) (hwant : wanted s.R m.guard = some true) (hs : step call i m s = some s') (hK : Goes C s' a o K) : o.wp P a w K Q := by
  simp only [kOK, hk, Bool.and_eq_true] at hf
  obtain ⟨_, hf⟩ := hf
  split at hf
  case h_2 => cases hf
  rename_i opers hfit
  simp only [Bool.and_eq_true, Bool.or_eq_true, Bool.not_eq_true', Option.isNone_iff_eq_none] at hf
  simp only [step, hwant, hk] at hs
  split at hs
  · cases hs
  · rename_i xs hxs
    split at hs
    · cases hs
    · rename_i x σ' hact
      cases hs
      obtain ⟨hx, he⟩ := rds_rel h hxs hf.1
      refine act_outcome hcall h.chg.wrel h.based hfit (fun hb => by rcases hf.2 with h1 | h1; rw [hb] at h1; cases h1; exact h1) hx he hact K Q ?_
      rintro X w' ⟨μ', lim', h1, h2, h3, h4⟩
      obtain ⟨ow', hf'⟩ := h.put_fresh hC h1 hd h2 h3 h4
      exact hK X μ' lim' ow' w' hf'

theorem step_move (hC : C.OK) (h : FRel C μ lim ow s a w) {j : Nat} (hk : m.k = .move j) (hd : dstOK C m.dst i o.dst) (hf : kOK P C.slots C.dsts ops ad deps i m o = true) (hwant : wanted s.R m.guard = some true) (hs : step call i m s = some s') (hK : Goes C s' a o K) : o.wp P a w K Q := by
  simp only [kOK, hk, Bool.and_eq_true] at hf
  obtain ⟨_, hf⟩ := hf
  simp only [step, hwant, hk] at hs
  split at hs
  case h_2 => cases hs
  rename_i x hj
  cases hs
  have hop : ∃ y, opdOK C.slots C.dsts (.res j) y = true ∧ (execOp a.eval o).run P w = .ok (.value (a.eval y)) w := by
    split at hf
    · rename_i y hop; exact ⟨y, hf, by unfold execOp; rw [hop]; rfl⟩
    · rename_i y hop; exact ⟨y, hf, by unfold execOp; rw [hop]; rfl⟩
    · cases hf
  obtain ⟨y, hy, hrun⟩ := hop
  obtain ⟨t, h1, h2, _, _⟩ := opd_res h hy hj
  exact run_ops ⟨_, w, hrun, hK _ _ _ _ _ (h.move hC hj h1 h2 hd)⟩

theorem step_mvt (hC : C.OK) (h : FRel C μ lim ow s a w) {j : Nat} (hk : m.k = .mvt j) (hd : dstOK C m.dst i o.dst) (hf : kOK P C.slots C.dsts ops ad deps i m o = true) (hwant : wanted s.R m.guard = some true) (hs : step call i m s = some s') (hK : Goes C s' a o K) : o.wp P a w K Q := by
  simp only [kOK, hk, Bool.and_eq_true] at hf
  obtain ⟨_, hf⟩ := hf
  simp only [step, hwant, hk] at hs
  split at hs
  case h_2 => cases hs
  rename_i x hj
  cases hs
  have hop : ∃ y, opdOK C.slots C.dsts (.slot j) y = true ∧ (execOp a.eval o).run P w = .ok (.value (a.eval y)) w := by
    split at hf
    · rename_i y hop; exact ⟨y, hf, by unfold execOp; rw [hop]; rfl⟩
    · rename_i y hop; exact ⟨y, hf, by unfold execOp; rw [hop]; rfl⟩
    · cases hf
  obtain ⟨y, hy, hrun⟩ := hop
  obtain ⟨t, h1, h2⟩ := opd_slot h hy hj
  obtain ⟨ow', hf'⟩ := h.mvt hC hj h1 h2 hd
  exact run_ops ⟨_, w, hrun, hK _ _ _ _ _ hf'⟩

theorem step_allocBox (hC : C.OK) (h : FRel C μ lim ow s a w) {zero : List V} (hk : m.k = .allocBox zero) (hd : dstOK C m.dst i o.dst) (hf : kOK P C.slots C.dsts ops ad deps i m o = true) (hwant : wanted s.R m.guard = some true) (hs : step call i m s = some s') (hK : Goes C s' a o K) : o.wp P a w K Q := by
  simp only [kOK, hk, Bool.and_eq_true] at hf
  obtain ⟨_, hf⟩ := hf
  simp only [step, hwant, hk] at hs
  split at hs
  case h_2 => cases hs
  rename_i d hdst
  cases hs
  split at hf
  case h_2 => cases hf
  rename_i t hop
  obtain ⟨inf, z, z1, z2, z3, z4⟩ := zeroOK_spec hf
  rw [hdst] at hd
  obtain ⟨u, hu, hod⟩ := hd
  obtain ⟨ow', hf'⟩ := h.newBox hC hu (ty := t) (constsOK_rel z3).1 (nilCells_consts z3)
  refine run_ops ⟨.pointer (some ⟨w.heap.size, 0, none⟩), addObj w (.cells z.cells t (0, 0)), ?_, ?_⟩
  · unfold execOp; rw [hop]
    simp [Instr.alloc, zeroValue, typeInfo, z1, z2, newVar, newRow, alloc_addObj]
  · have := hK (.pointer (some ⟨w.heap.size, 0, none⟩)) _ _ _ _ (by rw [hod]; exact hf')
    exact this

theorem step_boxBox (hC : C.OK) (h : FRel C μ lim ow s a w) (hk : m.k = .boxBox) (hd : dstOK C m.dst i o.dst) (hf : kOK P C.slots C.dsts ops ad deps i m o = true) (hwant : wanted s.R m.guard = some true) (hs : step call i m s = some s') (hK : Goes C s' a o K) : o.wp P a w K Q := by
  simp only [kOK, hk, Bool.and_eq_true] at hf
  obtain ⟨_, hf⟩ := hf
  split at hf
  case h_2 => cases hf
  rename_i t y hop
  simp only [step, hwant, hk] at hs
  split at hs
  case h_2 => cases hs
  rename_i x d hxs hdst
  cases hs
  obtain ⟨hx, he⟩ := rds_rel h hxs hf
  have hr : RelV μ lim w x (a.eval y) := by simp only [List.map_cons, List.map_nil] at hx; unfold RelVs at hx; exact hx.1
  rw [hdst] at hd
  obtain ⟨u, hu, hod⟩ := hd
  obtain ⟨ow', hf'⟩ := h.newBox hC hu (ty := t) (cs := x.erase.cells) (c := (a.eval y).cells) (relV_erase.2 hr).cells (fun k v y hv hy => by
    obtain ⟨u', rfl⟩ := erase_cells_leaf (List.mem_of_getElem? hv); exact nilLeaf_eraseLeaf)
  refine run_ops ⟨.pointer (some ⟨w.heap.size, 0, none⟩), addObj w (.cells (a.eval y).cells t (0, 0)), ?_, ?_⟩
  · unfold execOp; rw [hop]
    simp [Instr.box, newVar, newRow, alloc_addObj]
  · exact hK (.pointer (some ⟨w.heap.size, 0, none⟩)) _ _ _ _ (by rw [hod]; exact hf')

theorem step_boxTake (hC : C.OK) (h : FRel C μ lim ow s a w) {r : Nat} (hk : m.k = .boxTake r) (hd : dstOK C m.dst i o.dst) (hf : kOK P C.slots C.dsts ops ad deps i m o = true) (hwant : wanted s.R m.guard = some true) (hs : step call i m s = some s') (hK : Goes C s' a o K) : o.wp P a w K Q := by
  simp only [kOK, hk, Bool.and_eq_true] at hf
  obtain ⟨_, hf⟩ := hf
  split at hf
  case h_2 => cases hf
  rename_i t y hop
  simp only [step, hwant, hk] at hs
  split at hs
  case h_2 => cases hs
  rename_i x d hr hdst
  cases hs
  obtain ⟨tt, h1, h2, h3, h4⟩ := opd_res h hf hr
  rw [hdst] at hd
  obtain ⟨u, hu, hod⟩ := hd
  have hbx : RelVs μ lim w x.boxed (a.eval y).cells.toList ∧ ∀ (k : Nat) (v : V) (z : Value), x.boxed[k]? = some v → (a.eval y).cells.toList[k]? = some z → NilLeaf v z := by
    cases x with
    | agg cs =>
      refine ⟨h3.cells, ?_⟩
      unfold RelV at h3
      obtain ⟨zs, hz, _⟩ := h3
      rw [hz] at h4 ⊢
      exact h4
    | _ =>
      refine ⟨?_, ?_⟩
      · have hcs := (relV_erase.2 h3).cells
        first
          | exact hcs
          | (rename_i oo _ _; cases oo <;> exact hcs)
      · intro k v z hv _
        simp only [V.boxed] at hv
        cases k with
        | zero => simp at hv; rw [← hv]; exact nilLeaf_eraseLeaf
        | succ k => simp at hv
  obtain ⟨ow', hf'⟩ := (h.eraseR hr).newBox hC hu (ty := t) (cs := x.boxed) (c := (a.eval y).cells) hbx.1 hbx.2
  refine run_ops ⟨.pointer (some ⟨w.heap.size, 0, none⟩), addObj w (.cells (a.eval y).cells t (0, 0)), ?_, ?_⟩
  · unfold execOp; rw [hop]
    simp [Instr.box, newVar, newRow, alloc_addObj]
  · exact hK (.pointer (some ⟨w.heap.size, 0, none⟩)) _ _ _ _ (by rw [hod]; exact hf')
end
end Go.Ab

/- The abstract machine's steps beside those of the program: operands, guards, boxes. No premise but those named. -/
import Derived.Test.YthjniafhfboggaaGreatDoorC7
import Derived.Orders
namespace Go.Ab
open Go

def opdOK (slots : List Tmp) (dsts : List (Option Tmp)) : Opd → Operand → Bool
  | .slot i, .tmp t => slots[i]? == some t
  | .res j, .tmp t => dsts[j]? == some (some t)
  | .const v, .const c => constOK v c
  | .const (.func (.func f) [] []), .func g => f == g
  | _, _ => false

def opdsOK (slots : List Tmp) (dsts : List (Option Tmp)) : List Opd → List Operand → Bool
  | [], [] => true
  | x :: xs, y :: ys => opdOK slots dsts x y && opdsOK slots dsts xs ys
  | _, _ => false

section
variable {C : Ctx} {μ : List Nat} {lim : Nat → Nat} {ow : Nat → Owner} {s : FS} {a : Act} {w : World}

theorem getD_some {α : Type} {l : Array α} {i : Nat} {x d : α} (h : l[i]? = some x) : l.getD i d = x := by
  rw [Array.getD_eq_getD_getElem?, h]; rfl

theorem eval_rel (h : FRel C μ lim ow s a w) {x : Opd} {y : Operand} {v : V} (hr : rd s.env s.R x = some v) (hok : opdOK C.slots C.dsts x y = true) :
    RelV μ lim w v (a.eval y) ∧ ∃ u : V, v = u.erase := by
  cases x with
  | slot i =>
    cases y <;> simp only [opdOK] at hok <;> first | (cases hok; done) | skip
    rename_i t
    simp only [rd] at hr
    split at hr
    · rename_i x hx
      cases hr
      obtain ⟨X, h1, h2⟩ := h.env i _ t hx (eq_of_beq hok)
      refine ⟨relV_erase.2 ?_, _, rfl⟩
      simp only [Act.eval, getD_some h1]
      exact h2.1
    · cases hr
  | res j =>
    cases y <;> simp only [opdOK] at hok <;> first | (cases hok; done) | skip
    rename_i t
    simp only [rd] at hr
    split at hr
    · rename_i x hx
      cases hr
      obtain ⟨X, h1, h2, _⟩ := h.res j _ t hx (eq_of_beq hok)
      refine ⟨relV_erase.2 ?_, _, rfl⟩
      simp only [Act.eval, getD_some h1]
      exact h2
    · cases hr
  | const c =>
    simp only [rd] at hr
    cases hr
    refine ⟨relV_erase.2 ?_, _, rfl⟩
    cases y with
    | const d =>
      show RelV μ lim w c d
      exact constOK_rel (by simpa [opdOK] using hok)
    | func g =>
      unfold opdOK at hok
      split at hok <;> first | (cases hok; done) | skip
      all_goals simp_all
      subst hok
      unfold RelV
      refine ⟨#[], #[], rfl, ?_, ?_⟩ <;> unfold RelVs <;> trivial
    | tmp t => simp [opdOK] at hok
    | global g => simp [opdOK] at hok

theorem rds_rel (h : FRel C μ lim ow s a w) : ∀ {xs : List Opd} {ys : List Operand} {vs : List V}, rds s.env s.R xs = some vs → opdsOK C.slots C.dsts xs ys = true →
    RelVs μ lim w vs (ys.map a.eval) ∧ ∀ v ∈ vs, ∃ u : V, v = u.erase
  | [], [], vs, hr, _ => by simp only [rds] at hr; cases hr; exact ⟨by simp only [List.map_nil]; unfold RelVs; trivial, by simp⟩
  | [], _ :: _, _, _, ho => by simp [opdsOK] at ho
  | _ :: _, [], _, _, ho => by simp [opdsOK] at ho
  | x :: xs, y :: ys, vs, hr, ho => by
    simp only [opdsOK, Bool.and_eq_true] at ho
    simp only [rds] at hr
    split at hr
    · cases hr
    · rename_i v hv
      split at hr
      · cases hr
      · rename_i vs' hvs
        cases hr
        obtain ⟨h1, h2⟩ := eval_rel h hv ho.1
        obtain ⟨h3, h4⟩ := rds_rel h hvs ho.2
        refine ⟨by simp only [List.map_cons]; unfold RelVs; exact ⟨h1, h3⟩, fun u hu => ?_⟩
        rcases List.mem_cons.1 hu with rfl | hu
        · exact h2
        · exact h4 u hu

/-- The guard's place is a region's own result. -/
def guardOK (dsts : List (Option Tmp)) (ops : Array Oper) (m : Option (Nat × Bool)) (o : Option (Nat × Bool)) : Bool :=
  m == o && (match m with
    | none => true
    | some (j, _) => match dsts[j]?, (ops[j]?).map (·.dst) with
      | some (some t), some (some u) => t == u
      | _, _ => false)

theorem wanted_rel {ops : Array Oper} {o : Oper} {g : Option (Nat × Bool)} (h : FRel C μ lim ow s a w) (hg : guardOK C.dsts ops g o.guard = true) {b : Bool} (hw : wanted s.R g = some b) :
    Region.wanted o (yielded ops a.tmps) = b := by
  simp only [guardOK, Bool.and_eq_true, beq_iff_eq] at hg
  obtain ⟨hgo, hg⟩ := hg
  unfold Region.wanted
  rw [← hgo]
  cases g with
  | none => simp only [wanted] at hw; cases hw; rfl
  | some jw =>
    obtain ⟨j, want⟩ := jw
    simp only at hg
    split at hg
    · rename_i t u ht hu
      have htu := eq_of_beq hg
      subst htu
      simp only [wanted] at hw
      obtain ⟨oj, hoj, hod⟩ : ∃ oj, ops[j]? = some oj ∧ oj.dst = some t := by
        cases hq : ops[j]? with
        | none => simp [hq] at hu
        | some oj => simp [hq] at hu; exact ⟨oj, rfl, hu⟩
      split at hw
      · rename_i b' hb
        cases hw
        obtain ⟨X, h1, h2, _⟩ := h.res j _ t hb ht
        rw [relSc h2] at h1
        have : yielded ops a.tmps j = some b' := by simp [yielded, hoj, hod, h1]
        simp [this]
      · rename_i tt hb
        cases hw
        obtain ⟨X, h1, h2, _⟩ := h.res j _ t hb ht
        rw [relSc h2] at h1
        have : yielded ops a.tmps j = none := by simp [yielded, hoj, hod, h1]
        simp [this]
      · cases hw
    · cases hg

/-- A place that holds nothing of the abstract machine's may be written. -/
theorem FRel.skip (hC : C.OK) (h : FRel C μ lim ow s a w) {i : Nat} {od : Option Tmp} (hd : C.dsts[i]? = some od) (hn : ∀ v, s.R[i]? ≠ some (some v)) (X : Value) : FRel C μ lim ow s (a.put od X) w := by
  refine ⟨h.chg, h.based, by rw [put_size]; exact h.tmps, h.envlen, ?_, h.reslen, ?_, h.owobj, h.owfresh, h.owold, by rw [put_defers]; exact h.defers⟩
  · intro k e u he hu
    obtain ⟨y, hy, hr⟩ := h.env k e u he hu
    have hne : od ≠ some u := fun e => (hC.dlt i u (by rw [← e]; exact hd)).2 (List.mem_of_getElem? hu)
    exact ⟨y, by rw [put_get_ne hne]; exact hy, hr⟩
  · intro k v u hv hu
    obtain ⟨y, hy, hr⟩ := h.res k v u hv hu
    have hne : od ≠ some u := fun e => by
      have : i = k := hC.dinj i k u (by rw [← e]; exact hd) hu
      subst this
      exact hn v hv
    exact ⟨y, by rw [put_get_ne hne]; exact hy, hr⟩

theorem put_undef_own {lim : Nat → Nat} {w : World} {ow : Nat → Owner} {o : Owner} : OwnV lim w ow o V.undef undef := trivial

theorem FRel.putUndef (hC : C.OK) (h : FRel C μ lim ow s a w) {dst : Option Nat} {i : Nat} {od : Option Tmp} (hd : dstOK C dst i od) : ∃ ow', FRel C μ lim ow' (s.put dst i .undef) (a.put od undef) w := by
  have := h.put_fresh hC (Chg.refl h.chg.wrel) (x := .undef) (X := undef) hd rel_undef fresh_undef (by intro _ _ _ _ _ he; cases he)
  exact this

/-! ## boxes -/

/-- Addresses into boxes: of which slot, how far in. -/
abbrev Addrs := List (Option (Nat × Nat))

/-- An address into a box that an operation has made. -/
def AddrIs (C : Ctx) (k off : Nat) (o : Oper) (a : Act) : Prop := ∃ t u b, o.dst = some t ∧ C.slots[k]? = some u ∧ a.tmps[t]? = some (.pointer (some ⟨b, off, none⟩)) ∧ a.tmps[u]? = some (.pointer (some ⟨b, 0, none⟩))

def AddrOK (C : Ctx) (ops : Array Oper) (ad : Addrs) (done : Nat → Prop) (R : List (Option V)) (a : Act) : Prop :=
  ∀ (j k off : Nat) (o : Oper), done j → ad[j]? = some (some (k, off)) → ops[j]? = some o → (∀ g b, o.guard = some (g, b) → done g) ∧ (wanted R o.guard = some true → AddrIs C k off o a)

/-- The program's address of a box's cell. -/
def boxAddr (slots : List Tmp) (ops : Array Oper) (ad : Addrs) (deps : List Nat) (g : Option (Nat × Bool)) (j off : Nat) : Operand → Bool
  | .tmp t => (off == 0 && slots[j]? == some t) || deps.any fun d => ad[d]? == some (some (j, off)) && (match ops[d]? with
    | some o => o.dst == some t && (o.guard == none || o.guard == g)
    | none => false)
  | _ => false

theorem boxAddr_spec {ops : Array Oper} {ad : Addrs} {deps : List Nat} {g : Option (Nat × Bool)} {done : Nat → Prop} (h : FRel C μ lim ow s a w) (ha : AddrOK C ops ad done s.R a) (hdone : ∀ d ∈ deps, done d) (hwant : wanted s.R g = some true) {j off : Nat} {y : Operand} (hb : boxAddr C.slots ops ad deps g j off y = true)
    {cs : List V} (hj : s.env[j]? = some (.box cs)) : ∃ u b c ty, C.slots[j]? = some u ∧ a.tmps[u]? = some (.pointer (some ⟨b, 0, none⟩)) ∧ a.eval y = .pointer (some ⟨b, off, none⟩) ∧ w.heap[b]? = some (.cells c ty (0, 0)) ∧ lim b = 0 ∧ ow b = .box j ∧ RelVs μ lim w cs c.toList := by
  obtain ⟨u, b, c, ty, h1, h2, h3, h4, h5, h6, _⟩ := h.box hj
  refine ⟨u, b, c, ty, h1, h2, ?_, h3, h4, h5, h6⟩
  cases y with
  | tmp t =>
    simp only [boxAddr, Bool.or_eq_true, Bool.and_eq_true, beq_iff_eq, List.any_eq_true] at hb
    rcases hb with ⟨rfl, hb⟩ | ⟨d, hd, hb1, hb2⟩
    · rw [h1] at hb; cases hb
      simp [Act.eval, getD_some h2]
    · split at hb2
      case h_2 => cases hb2
      rename_i od hq
      simp only [Bool.and_eq_true, beq_iff_eq, Bool.or_eq_true] at hb2
      obtain ⟨t', u', b', q1, q2, q3, q4⟩ := (ha d j off od (hdone d hd) hb1 hq).2 (by
        rcases hb2.2 with hg | hg
        · rw [hg]; rfl
        · rw [hg]; exact hwant)
      rw [hb2.1] at q1; cases q1
      rw [h1] at q2; cases q2
      rw [h2] at q4
      cases q4
      simp [Act.eval, getD_some q3]
  | _ => simp [boxAddr] at hb

theorem run_loadBox {P : Program} {t : TypeId} {b off n : Nat} {agg : Bool} {cs : List V} {c : Array Value} {ty : TypeId} {fr : Nat × Nat} {x : V} (hp : Go.Ab.part cs off n agg = some x) (hb : w.heap[b]? = some (.cells c ty fr)) (hr : RelVs μ lim w cs c.toList)
    (hs : isSize P t n = true) (hg : isAggB P t agg = true) :
    ∃ X, (Instr.loadAt t (.pointer (some ⟨b, off, none⟩))).run P w = .ok X w ∧ RelV μ lim w x X ∧ (agg = false → c[off]? = some X) := by
  unfold Go.Ab.part at hp
  split at hp
  case isFalse => cases hp
  rename_i hl
  have hlen : cs.length = c.size := by rw [hr.length]; simp
  have hcell : ∀ k, w.cell? ⟨b, k, none⟩ = c[k]? := fun k => by simp [World.cell?, hb]
  simp only [Instr.loadAt, Instr.sureAddr, Sem.run_bind, Sem.run_pure, Result.andThen_ok, loadVar, run_isAgg hg]
  cases agg with
  | true =>
    simp only [if_true] at hp
    cases hp
    have hload := run_loadCells_list (P := P) w ⟨b, off, none⟩ ((c.toList.drop off).take n) (fun j v hv => by
      rw [add_at, hcell]
      rw [List.getElem?_take] at hv
      split at hv
      · rw [List.getElem?_drop, Array.getElem?_toList] at hv; exact hv
      · cases hv)
    have hl2 : ((c.toList.drop off).take n).length = n := by simp; omega
    rw [hl2] at hload
    refine ⟨.agg ((c.toList.drop off).take n).toArray, by simp [run_sizeOf hs, hload], ?_, by simp⟩
    unfold RelV
    exact ⟨_, rfl, by simpa using (hr.drop off).take n⟩
  | false =>
    simp only [Bool.false_eq_true, if_false] at hp
    split at hp
    case isFalse => cases hp
    obtain ⟨X, hX, hrx⟩ := hr.get hp
    rw [Array.getElem?_toList] at hX
    exact ⟨X, by simp [hcell, hX], hrx, fun _ => hX⟩
end
end Go.Ab

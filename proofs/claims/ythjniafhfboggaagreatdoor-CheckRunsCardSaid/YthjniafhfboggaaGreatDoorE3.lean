/- A region whose operations are taken in any order. No premise but those named. -/
import Derived.Test.YthjniafhfboggaaGreatDoorE2
namespace Go.Ab
open Go

theorem foot_sub (i : Nat) (m : MOper) : (∀ j ∈ (foot i m).wR, j ∈ (foot i m).R) ∧ ∀ j ∈ (foot i m).wE, j ∈ (foot i m).E := by
  unfold foot kFoot
  cases m.k <;> cases m.dst <;> simp

theorem apart_spec {f h : Foot} (ha : f.apart h = true) : (∀ j ∈ f.wR, j ∉ h.R) ∧ (∀ j ∈ h.wR, j ∉ f.R) ∧ (∀ j ∈ f.wE, j ∉ h.E) ∧ (∀ j ∈ h.wE, j ∉ f.E) ∧ (f.sg = 2 → h.sg = 0) ∧ (h.sg = 2 → f.sg = 0) := by
  simp only [Foot.apart, Bool.and_eq_true, List.all_eq_true, Bool.not_eq_true', Bool.and_eq_false_iff, beq_eq_false_iff_ne, bne_eq_false_iff_eq, List.contains_eq_mem, decide_eq_false_iff_not] at ha
  obtain ⟨⟨⟨⟨⟨h1, h2⟩, h3⟩, h4⟩, h5⟩, h6⟩ := ha
  exact ⟨h1, h2, h3, h4, fun e => h5.resolve_left (fun n => n e), fun e => h6.resolve_left (fun n => n e)⟩

theorem same_on {call : CallT} {i k : Nat} {m n : MOper} {s : FS} {u : Upd} (ha : (foot i m).apart (foot k n) = true) (hp : plan call k n s = some u) : Same (foot i m) s (u.on s) := by
  obtain ⟨h1, h2, h3, h4, h5, h6⟩ := apart_spec ha
  obtain ⟨p1, p2, p3⟩ := plan_foot hp
  refine ⟨fun j hj => setAll_get fun p hp e => h2 _ (p1 p hp) (by rw [e]; exact hj), fun j hj => setAll_get fun p hp e => h4 _ (p2 p hp) (by rw [e]; exact hj), fun hs => ?_⟩
  cases hσ : u.σ with
  | none => simp [Upd.on, hσ]
  | some x => exact absurd (h6 (p3 (by rw [hσ]; simp))) hs

theorem apart_symm {f h : Foot} (ha : f.apart h = true) : h.apart f = true := by
  simp only [Foot.apart, Bool.and_eq_true] at *
  obtain ⟨⟨⟨⟨⟨h1, h2⟩, h3⟩, h4⟩, h5⟩, h6⟩ := ha
  exact ⟨⟨⟨⟨⟨h2, h1⟩, h4⟩, h3⟩, h6⟩, h5⟩

theorem step_swap {call : CallT} {i k : Nat} {m n : MOper} {s s1 s2 : FS} (ha : (foot i m).apart (foot k n) = true) (h1 : step call k n s = some s1) (h2 : step call i m s1 = some s2) :
    ∃ s1', step call i m s = some s1' ∧ step call k n s1' = some s2 := by
  rw [step_plan] at h1 h2
  cases hp1 : plan call k n s with
  | none => simp [hp1] at h1
  | some u1 =>
    simp [hp1] at h1
    subst h1
    cases hp2 : plan call i m (u1.on s) with
    | none => simp [hp2] at h2
    | some u2 =>
      simp [hp2] at h2
      subst h2
      have hi : plan call i m s = some u2 := by rw [← hp2]; exact (plan_same (same_on ha hp1)).symm
      have hk : plan call k n (u2.on s) = some u1 := by rw [← hp1]; exact plan_same (same_on (apart_symm ha) hi)
      refine ⟨u2.on s, by rw [step_plan, hi]; rfl, ?_⟩
      rw [step_plan, hk]
      obtain ⟨a1, a2, a3, a4, a5, a6⟩ := apart_spec ha
      obtain ⟨p1, p2, p3⟩ := plan_foot hp1
      obtain ⟨q1, q2, q3⟩ := plan_foot hi
      obtain ⟨f1, f2⟩ := foot_sub i m
      simp only [Option.map_some, Option.some.injEq, Upd.on, FS.mk.injEq]
      refine ⟨setAll_comm fun p hp q hq e => ?_, setAll_comm fun p hp q hq e => ?_, ?_⟩
      · exact a4 _ (p2 p hp) (by rw [e]; exact f2 _ (q2 q hq))
      · exact a2 _ (p1 p hp) (by rw [e]; exact f1 _ (q1 q hq))
      · cases h1 : u1.σ with
        | none => cases u2.σ <;> rfl
        | some x => cases h2 : u2.σ with
          | none => rfl
          | some y =>
            have e1 := p3 (by rw [h1]; simp)
            have e2 := q3 (by rw [h2]; simp)
            have := a6 e1
            omega

/-- What is loaded is there. -/
def Held (m : MOper) (s : FS) : Prop := ∀ n g, m.k = .act (.load n g) → ∀ id off, rds s.env s.R m.args = some [.ptr id off] → id < s.σ.objs.length

/-- Two steps, one behind the other, may change places. -/
def Swaps (call : CallT) (i : Nat) (m : MOper) (k : Nat) (n : MOper) : Prop :=
  (∀ s s1, Held m s → step call k n s = some s1 → Held m s1) ∧
  ∀ s s1 s2, Held m s → step call k n s = some s1 → step call i m s1 = some s2 → ∃ s1', step call i m s = some s1' ∧ step call k n s1' = some s2

/-! ## objects that stay -/

/-- It makes objects, and writes into none; one may be given up. -/
def A.keeps : A → Bool
  | .callNew _ | .append .. | .alloc .. | .box _ | .mkMap => true
  | _ => false
def Stays (σ σ' : St) : Prop := σ.objs.length ≤ σ'.objs.length ∧ ∀ id, id < σ.objs.length → σ'.objs[id]? = σ.objs[id]? ∨ σ'.objs[id]? = some .dead
theorem stays_push (σ : St) (o : Obj) : Stays σ (σ.push o) := ⟨by simp [St.push], fun id h => .inl (by simp only [St.push]; rw [List.getElem?_append_left h])⟩
theorem stays_refl (σ : St) : Stays σ σ := ⟨Nat.le_refl _, fun _ _ => .inl rfl⟩
theorem act_keeps {call : CallT} {a : A} {xs : List V} {σ : St} {x : V} {σ' : St} (hk : a.keeps = true) (h : A.act call a xs σ = some (x, σ')) : Stays σ σ' := by
  cases a <;> simp only [A.keeps, Bool.false_eq_true] at hk
  case callNew f =>
    simp only [A.act, Go.Ab.callNew] at h
    split at h
    · cases h
      exact ⟨by simp, fun id hi => .inl (by simp only; rw [List.getElem?_append_left hi])⟩
    · cases h
  case alloc t z =>
    simp only [A.act, actAlloc] at h
    split at h
    · split at h
      · cases h; exact stays_push _ _
      · cases h
    · cases h
  case box t =>
    simp only [A.act, actBox] at h
    split at h
    · split at h
      · cases h; exact stays_push _ _
      · cases h
    · cases h
  case mkMap =>
    simp only [A.act, actMkMap] at h
    split at h
    · cases h; exact stays_push _ _
    · cases h
  case append sz arr =>
    simp only [A.act, actAppend] at h
    split at h
    · split at h
      · split at h
        · split at h
          · split at h
            · cases h; exact stays_refl _
            · cases h; exact stays_push _ _
          · cases h
        · split at h
          · cases h; exact stays_refl _
          · cases h
      · cases h
    · split at h
      · split at h
        · split at h
          · cases h
            refine ⟨by simp [St.push, St.set], fun j hj => ?_⟩
            simp only [St.push, St.set]
            rw [List.getElem?_append_left (by simpa using hj), List.getElem?_set]
            split
            · rename_i e; subst e; right; simp [hj]
            · left; rfl
          · cases h
        · cases h
      · cases h
    · cases h

/-- Apart but for the objects. -/
def Foot.off (f h : Foot) : Bool :=
  f.wR.all (fun j => !h.R.contains j) && h.wR.all (fun j => !f.R.contains j) && f.wE.all (fun j => !h.E.contains j) && h.wE.all (fun j => !f.E.contains j)
theorem off_spec {f h : Foot} (ha : f.off h = true) : (∀ j ∈ f.wR, j ∉ h.R) ∧ (∀ j ∈ h.wR, j ∉ f.R) ∧ (∀ j ∈ f.wE, j ∉ h.E) ∧ (∀ j ∈ h.wE, j ∉ f.E) := by
  simp only [Foot.off, Bool.and_eq_true, List.all_eq_true, Bool.not_eq_true', List.contains_eq_mem, decide_eq_false_iff_not] at ha
  exact ⟨ha.1.1.1, ha.1.1.2, ha.1.2, ha.2⟩
theorem apart_off {f h : Foot} (ha : f.apart h = true) : f.off h = true := by
  simp only [Foot.apart, Bool.and_eq_true] at ha
  simp only [Foot.off, Bool.and_eq_true]
  exact ha.1.1
theorem rds_off {call : CallT} {i k : Nat} {m n : MOper} {s : FS} {u : Upd} (ha : (foot i m).off (foot k n) = true) (hp : plan call k n s = some u) :
    (∀ j ∈ (foot i m).R, (u.on s).R[j]? = s.R[j]?) ∧ ∀ j ∈ (foot i m).E, (u.on s).env[j]? = s.env[j]? := by
  obtain ⟨_, h2, _, h4⟩ := off_spec ha
  obtain ⟨p1, p2, _⟩ := plan_foot hp
  exact ⟨fun j hj => setAll_get fun p hp e => h2 _ (p1 p hp) (by rw [e]; exact hj), fun j hj => setAll_get fun p hp e => h4 _ (p2 p hp) (by rw [e]; exact hj)⟩
theorem rds_args {call : CallT} {i k : Nat} {m n : MOper} {s : FS} {u : Upd} {a : A} (hm : m.k = .act a) (ha : (foot i m).off (foot k n) = true) (hp : plan call k n s = some u) : rds (u.on s).env (u.on s).R m.args = rds s.env s.R m.args := by
  obtain ⟨h1, h2⟩ := rds_off ha hp
  refine rds_same (fun j hj => h1 j ?_) (fun j hj => h2 j ?_) <;> (unfold foot kFoot; rw [hm]; cases m.dst <;> simp [hj])
theorem held_off {call : CallT} {i k : Nat} {m n : MOper} {s : FS} {u : Upd} (ha : (foot i m).off (foot k n) = true) (hp : plan call k n s = some u) (hl : s.σ.objs.length ≤ (u.on s).σ.objs.length) (h : Held m s) : Held m (u.on s) := by
  intro l g hm id off hr
  rw [rds_args hm ha hp] at hr
  exact Nat.lt_of_lt_of_le (h l g hm id off hr) hl
/-- Steps that are apart. -/
theorem apart_swaps {call : CallT} {i k : Nat} {m n : MOper} (ha : (foot i m).apart (foot k n) = true) : Swaps call i m k n := by
  refine ⟨fun s s1 hh h1 => ?_, fun s s1 s2 _ h1 h2 => step_swap ha h1 h2⟩
  rw [step_plan] at h1
  cases hp : plan call k n s with
  | none => simp [hp] at h1
  | some u =>
    simp [hp] at h1
    subst h1
    intro l g hm id off hr
    rw [rds_args hm (apart_off ha) hp] at hr
    have hs : (foot i m).sg ≠ 0 := by unfold foot kFoot; rw [hm]; cases m.dst <;> simp [A.sg]
    have := (same_on ha hp).σ hs
    rw [this]
    exact hh l g hm id off hr

/-- A load, and what makes objects ahead of it. -/
def keepPair (i : Nat) (m : MOper) (k : Nat) (n : MOper) : Bool := (match m.k with
  | .act (.load _ _) => true
  | _ => false) && (match n.k with
  | .act a => a.keeps
  | .own a _ => a.keeps
  | _ => false) && (foot i m).off (foot k n)

theorem plan_stays {call : CallT} {k : Nat} {n : MOper} {s : FS} {u : Upd} (hk : (match n.k with
    | .act a => a.keeps
    | .own a _ => a.keeps
    | _ => false) = true) (hp : plan call k n s = some u) : Stays s.σ (u.on s).σ := by
  unfold plan at hp
  split at hp
  · cases hp
  · cases hp
    cases n.dst <;> exact stays_refl _
  · split at hp <;> rename_i hn <;> simp only [hn, Bool.false_eq_true] at hk
    · split at hp
      · cases hp
      · split at hp
        · cases hp
        · rename_i hact
          cases hp
          have := act_keeps hk hact
          split <;> cases n.dst <;> first | exact this | exact stays_refl _
    · split at hp
      · split at hp
        · cases hp
        · rename_i hact
          cases hp
          have := act_keeps hk hact
          split <;> cases n.dst <;> first | exact this | exact stays_refl _
      · cases hp

theorem keep_swaps {call : CallT} {i k : Nat} {m n : MOper} (h : keepPair i m k n = true) : Swaps call i m k n := by
  simp only [keepPair, Bool.and_eq_true] at h
  obtain ⟨⟨hm, hn⟩, ha⟩ := h
  obtain ⟨l, g, hm⟩ : ∃ l g, m.k = .act (.load l g) := by
    split at hm
    · exact ⟨_, _, by assumption⟩
    · cases hm
  refine ⟨fun s s1 hh h1 => ?_, fun s s1 s2 hh h1 h2 => ?_⟩
  · rw [step_plan] at h1
    cases hp : plan call k n s with
    | none => simp [hp] at h1
    | some u =>
      simp [hp] at h1
      subst h1
      exact held_off ha hp (plan_stays hn hp).1 hh
  · rw [step_plan] at h1 h2
    cases hp1 : plan call k n s with
    | none => simp [hp1] at h1
    | some u1 =>
      simp [hp1] at h1
      subst h1
      cases hp2 : plan call i m (u1.on s) with
      | none => simp [hp2] at h2
      | some u2 =>
        simp [hp2] at h2
        subst h2
        obtain ⟨st1, st2⟩ := plan_stays hn hp1
        obtain ⟨o1, o2⟩ := rds_off ha hp1
        have hw : wanted (u1.on s).R m.guard = wanted s.R m.guard := wanted_same fun j b hg => o1 j (by unfold foot; rw [hg]; cases m.dst <;> simp)
        have hgoal : ∀ xs r, rds s.env s.R m.args = some xs → A.act call (.load l g) xs (u1.on s).σ = some r → A.act call (.load l g) xs s.σ = some (r.1, s.σ) := by
          intro xs r hr hr2
          simp only [A.act, actLoad] at hr2 ⊢
          split at hr2
          · rename_i id off
            have hid := hh l g hm id off hr
            split at hr2
            case h_2 => cases hr2
            rename_i o ho
            rcases st2 id hid with h3 | h3
            · rw [h3] at ho
              simp only [ho]
              split at hr2
              case h_2 => cases hr2
              rename_i cs hcs
              try simp only [hcs]
              obtain ⟨v, hv, rfl⟩ := Option.map_eq_some_iff.1 hr2
              simp [hv]
            · rw [h3] at ho
              cases ho
              simp [Obj.cs] at hr2
          · obtain ⟨v, hv, rfl⟩ := Option.map_eq_some_iff.1 hr2
            simp [hv]
          · cases hr2
        have hi : plan call i m s = some u2 := by
          unfold plan at hp2 ⊢
          rw [hw, hm] at hp2
          rw [hm]
          try simp only at hp2 ⊢
          rw [rds_args hm ha hp1] at hp2
          cases hwv : wanted s.R m.guard with
          | none => rw [hwv] at hp2; cases hp2
          | some b =>
            rw [hwv] at hp2
            cases b with
            | false => exact hp2
            | true =>
              simp only at hp2 ⊢
              cases hr : rds s.env s.R m.args with
              | none => rw [hr] at hp2; cases hp2
              | some xs =>
                rw [hr] at hp2
                simp only at hp2 ⊢
                cases h4 : A.act call (.load l g) xs (u1.on s).σ with
                | none => rw [h4] at hp2; cases hp2
                | some r =>
                  rw [h4] at hp2
                  rw [hgoal xs r hr h4]
                  simpa [A.sg] using hp2
        have hσ : u2.σ = none := by
          cases h5 : u2.σ with
          | none => rfl
          | some x =>
            have := (plan_foot hi).2.2 (by rw [h5]; simp)
            unfold foot kFoot at this
            rw [hm] at this
            cases hd : m.dst <;> simp [hd, A.sg] at this
        have ha' : (foot k n).off (foot i m) = true := by
          simp only [Foot.off, Bool.and_eq_true] at ha ⊢
          exact ⟨⟨⟨ha.1.1.2, ha.1.1.1⟩, ha.2⟩, ha.1.2⟩
        obtain ⟨b1, b2⟩ := rds_off ha' hi
        have hk : plan call k n (u2.on s) = some u1 := by
          rw [← hp1]
          exact plan_same ⟨b1, b2, fun _ => by simp [Upd.on, hσ]⟩
        refine ⟨u2.on s, by rw [step_plan, hi]; rfl, ?_⟩
        rw [step_plan, hk]
        obtain ⟨a1, a2, a3, a4⟩ := off_spec ha
        obtain ⟨p1, p2, p3⟩ := plan_foot hp1
        obtain ⟨q1, q2, q3⟩ := plan_foot hi
        obtain ⟨f1, f2⟩ := foot_sub i m
        simp only [Option.map_some, Option.some.injEq, Upd.on, FS.mk.injEq, hσ, Option.getD_none, and_true]
        refine ⟨setAll_comm fun p hp q hq e => ?_, setAll_comm fun p hp q hq e => ?_⟩
        · exact a4 _ (p2 p hp) (by rw [e]; exact f2 _ (q2 q hq))
        · exact a2 _ (p1 p hp) (by rw [e]; exact f1 _ (q1 q hq))

/-! ## a cell of a variable, and what leaves it -/

/-- The cell off of each variable of type t stays. -/
def LeavesV (t : TypeId) (off : Nat) (σ σ' : St) : Prop := ∀ (id : Nat) (cs : List V), σ.objs[id]? = some (.var t cs) → ∃ cs', σ'.objs[id]? = some (.var t cs') ∧ cs'[off]? = cs[off]?
theorem leavesV_same {t : TypeId} {off : Nat} {σ σ' : St} (h : ∀ (id : Nat) (o : Obj), σ.objs[id]? = some o → (∀ cs, o ≠ .cells cs) → σ'.objs[id]? = some o) : LeavesV t off σ σ' := fun id cs hc => ⟨cs, h id _ hc (fun _ => by simp), rfl⟩
theorem leavesV_push (t : TypeId) (off : Nat) (σ : St) (o : Obj) : LeavesV t off σ (σ.push o) := leavesV_same fun id o' h _ => by
  simp only [St.push]; rw [List.getElem?_append_left (List.getElem?_eq_some_iff.1 h).1]; exact h
theorem leavesV_refl (t : TypeId) (off : Nat) (σ : St) : LeavesV t off σ σ := leavesV_same fun _ _ h _ => h
theorem sameV_spec {a b : V} (h : sameV a b = true) : a = b := by
  unfold sameV at h
  split at h <;> simp_all
theorem leavesAt_spec {t : TypeId} {off : Nat} : ∀ {l l' : List Obj}, leavesAt t off l l' = true → ∀ (id : Nat) (cs : List V), l[id]? = some (.var t cs) → ∃ cs', l'[id]? = some (.var t cs') ∧ cs'[off]? = cs[off]?
  | [], _, _, id, cs, h => by simp at h
  | o :: l, [], h, _, _, _ => by simp [leavesAt] at h
  | o :: l, o' :: l', h, id, cs, hc => by
    simp only [leavesAt, Bool.and_eq_true] at h
    cases id with
    | succ id => simpa using leavesAt_spec h.2 id cs (by simpa using hc)
    | zero =>
      simp at hc
      subst hc
      have h1 := h.1
      simp only [if_true] at h1
      split at h1
      case h_2 => cases h1
      rename_i u' cs'
      simp only [Bool.and_eq_true, beq_iff_eq] at h1
      obtain ⟨rfl, h1⟩ := h1
      refine ⟨cs', by simp, ?_⟩
      split at h1
      · rename_i v v' e1 e2
        rw [e1, e2, sameV_spec h1]
      · rename_i e1 e2
        rw [e1, e2]
      · cases h1
theorem act_leaves {call : CallT} {a : A} {t : TypeId} {off : Nat} {xs : List V} {σ : St} {x : V} {σ' : St} (hk : (match a with
    | .callF _ ks => ks.contains (t, off)
    | a => a.keeps) = true) (h : A.act call a xs σ = some (x, σ')) : LeavesV t off σ σ' := by
  cases a <;> simp only [A.keeps, Bool.false_eq_true] at hk
  case callF f ks =>
    simp only [A.act, actCallF] at h
    split at h
    case h_2 => cases h
    split at h
    case isFalse => cases h
    rename_i hall
    cases h
    have hm : (t, off) ∈ ks := by simpa using hk
    exact fun id cs hc => leavesAt_spec (List.all_eq_true.1 hall _ hm) id cs hc
  case callNew f =>
    simp only [A.act, Go.Ab.callNew] at h
    split at h
    · cases h
      exact leavesV_same fun id o ho _ => by simp only; rw [List.getElem?_append_left (List.getElem?_eq_some_iff.1 ho).1]; exact ho
    · cases h
  case alloc t z =>
    simp only [A.act, actAlloc] at h
    split at h
    · split at h
      · cases h; exact leavesV_push _ _ _ _
      · cases h
    · cases h
  case box t =>
    simp only [A.act, actBox] at h
    split at h
    · split at h
      · cases h; exact leavesV_push _ _ _ _
      · cases h
    · cases h
  case mkMap =>
    simp only [A.act, actMkMap] at h
    split at h
    · cases h; exact leavesV_push _ _ _ _
    · cases h
  case append sz arr =>
    simp only [A.act, actAppend] at h
    split at h
    · split at h
      · split at h
        · split at h
          · split at h
            · cases h; exact leavesV_refl _ _ _
            · cases h; exact leavesV_push _ _ _ _
          · cases h
        · split at h
          · cases h; exact leavesV_refl _ _ _
          · cases h
      · cases h
    · split at h
      · split at h
        · rename_i hget
          split at h
          · cases h
            refine leavesV_same fun j o ho hnc => ?_
            simp only [St.push, St.set]
            have hj := (List.getElem?_eq_some_iff.1 ho).1
            rw [List.getElem?_append_left (by simpa using hj), List.getElem?_set]
            split
            · rename_i e
              subst e
              exfalso
              simp only [St.get, ho] at hget
              cases o <;> simp_all
            · exact ho
          · cases h
        · cases h
      · cases h
    · cases h

/-- A cell of a variable is looked at, ahead of what leaves it. -/
def leavePair (i : Nat) (m : MOper) (k : Nat) (n : MOper) : Bool := (match n.k with
  | .act (.loadT t off) => (match m.k with
    | .act a => (match a with
      | .callF _ ks => ks.contains (t, off)
      | a => a.keeps)
    | .own a _ => a.keeps
    | _ => false)
  | _ => false) && (foot i m).off (foot k n)

theorem plan_leaves {call : CallT} {t : TypeId} {off : Nat} {k : Nat} {n : MOper} {s : FS} {u : Upd} (hk : (match n.k with
    | .act a => (match a with
      | .callF _ ks => ks.contains (t, off)
      | a => a.keeps)
    | .own a _ => a.keeps
    | _ => false) = true) (hp : plan call k n s = some u) : LeavesV t off s.σ (u.on s).σ := by
  unfold plan at hp
  split at hp
  · cases hp
  · cases hp
    cases n.dst <;> exact leavesV_refl _ _ _
  · split at hp <;> rename_i hn <;> simp only [hn, Bool.false_eq_true] at hk
    · split at hp
      · cases hp
      · split at hp
        · cases hp
        · rename_i hact
          cases hp
          have := act_leaves hk hact
          split <;> cases n.dst <;> first | exact this | exact leavesV_refl _ _ _
    · split at hp
      · split at hp
        · cases hp
        · rename_i hact
          cases hp
          have := act_leaves (t := t) (off := off) (by split <;> first | (simp [A.keeps] at hk; done) | exact hk) hact
          split <;> cases n.dst <;> first | exact this | exact leavesV_refl _ _ _
      · cases hp

theorem leave_swaps {call : CallT} {i k : Nat} {m n : MOper} (h : leavePair i m k n = true) : Swaps call i m k n := by
  simp only [leavePair, Bool.and_eq_true] at h
  obtain ⟨hmn, ha⟩ := h
  split at hmn
  case h_2 => cases hmn
  rename_i t off hn
  refine ⟨fun s s1 hh h1 l g hm => ?_, fun s s1 s2 hh h1 h2 => ?_⟩
  · rw [hm] at hmn
    simp [A.keeps] at hmn
  · rw [step_plan] at h1 h2
    cases hp1 : plan call k n s with
    | none => simp [hp1] at h1
    | some u1 =>
      simp [hp1] at h1
      subst h1
      cases hp2 : plan call i m (u1.on s) with
      | none => simp [hp2] at h2
      | some u2 =>
        simp [hp2] at h2
        subst h2
        have hσ : u1.σ = none := by
          cases h5 : u1.σ with
          | none => rfl
          | some x =>
            have := (plan_foot hp1).2.2 (by rw [h5]; simp)
            unfold foot kFoot at this
            rw [hn] at this
            cases hd : n.dst <;> simp [hd, A.sg] at this
        obtain ⟨o1, o2⟩ := rds_off ha hp1
        have hi : plan call i m s = some u2 := by
          rw [← hp2]
          exact (plan_same ⟨o1, o2, fun _ => by simp [Upd.on, hσ]⟩).symm
        have ha' : (foot k n).off (foot i m) = true := by
          simp only [Foot.off, Bool.and_eq_true] at ha ⊢
          exact ⟨⟨⟨ha.1.1.2, ha.1.1.1⟩, ha.2⟩, ha.1.2⟩
        obtain ⟨b1, b2⟩ := rds_off ha' hi
        have hlv := plan_leaves hmn hi
        have hw : wanted (u2.on s).R n.guard = wanted s.R n.guard := wanted_same fun j b hg => b1 j (by unfold foot; rw [hg]; cases n.dst <;> simp)
        have hk : plan call k n (u2.on s) = some u1 := by
          unfold plan at hp1 ⊢
          rw [hw, hn]
          rw [hn] at hp1
          try simp only at hp1 ⊢
          rw [rds_args hn ha' hi]
          cases hwv : wanted s.R n.guard with
          | none => rw [hwv] at hp1; cases hp1
          | some b =>
            rw [hwv] at hp1
            cases b with
            | false => exact hp1
            | true =>
              simp only at hp1 ⊢
              cases hr : rds s.env s.R n.args with
              | none => rw [hr] at hp1; cases hp1
              | some xs =>
                rw [hr] at hp1
                simp only at hp1 ⊢
                cases h4 : A.act call (.loadT t off) xs s.σ with
                | none => rw [h4] at hp1; cases hp1
                | some r =>
                  rw [h4] at hp1
                  have h5 : A.act call (.loadT t off) xs (u2.on s).σ = some (r.1, (u2.on s).σ) := by
                    simp only [A.act, actLoadT] at h4 ⊢
                    split at h4
                    case h_2 => cases h4
                    rename_i id off'
                    split at h4
                    case isFalse => cases h4
                    rename_i ho
                    split at h4
                    case h_2 => cases h4
                    rename_i u cs hcs
                    split at h4
                    case isFalse => cases h4
                    rename_i hu
                    subst hu
                    obtain ⟨v, hv, rfl⟩ := Option.map_eq_some_iff.1 h4
                    obtain ⟨cs', hc', hv'⟩ := hlv id cs hcs
                    simp [ho, hc', hv', hv]
                  rw [h5]
                  simpa [A.sg] using hp1
        refine ⟨u2.on s, by rw [step_plan, hi]; rfl, ?_⟩
        rw [step_plan, hk]
        obtain ⟨a1, a2, a3, a4⟩ := off_spec ha
        obtain ⟨p1, p2, p3⟩ := plan_foot hp1
        obtain ⟨q1, q2, q3⟩ := plan_foot hi
        obtain ⟨f1, f2⟩ := foot_sub i m
        simp only [Option.map_some, Option.some.injEq, Upd.on, FS.mk.injEq, hσ, Option.getD_none, and_true]
        refine ⟨setAll_comm fun p hp q hq e => ?_, setAll_comm fun p hp q hq e => ?_⟩
        · exact a4 _ (p2 p hp) (by rw [e]; exact f2 _ (q2 q hq))
        · exact a2 _ (p1 p hp) (by rw [e]; exact f1 _ (q1 q hq))

/-! ## what is taken out of a box, and what is looked at there -/

def takePair (i : Nat) (m : MOper) (k : Nat) (n : MOper) : Bool := match m.k, n.k with
  | .loadBox j _ _ _, .takeBox j' _ => j == j' && m.guard.isNone && n.guard.isNone && m.dst.isNone && n.dst.isNone && i != k
  | _, _ => false
theorem eraseLeaf_idem (v : V) : v.eraseLeaf.eraseLeaf = v.eraseLeaf := by
  cases v <;> try rfl
  rename_i o _ _; cases o <;> rfl
theorem erase_leaf {v : V} (h : v.leaf = true) : v.erase = v.eraseLeaf := by
  cases v <;> first | rfl | simp [V.leaf] at h
theorem map_taken {cs : List V} {off : Nat} {x : V} (hx : cs[off]? = some x) (hl : x.leaf = true) : (cs.set off x.erase).map V.eraseLeaf = cs.map V.eraseLeaf := by
  refine List.ext_getElem? fun i => ?_
  rw [List.getElem?_map, List.getElem?_map, List.getElem?_set]
  split
  · rename_i e
    subst e
    rw [hx, erase_leaf hl]
    have := (List.getElem?_eq_some_iff.1 hx).1
    simp [this, eraseLeaf_idem]
  · rfl
theorem part_taken {cs : List V} {off o n : Nat} {g : Bool} {x : V} (hx : cs[off]? = some x) (hl : x.leaf = true) : (part (cs.set off x.erase) o n g).map V.erase = (part cs o n g).map V.erase := by
  have hm := map_taken hx hl
  unfold part
  rw [List.length_set]
  split
  · split
    · show some (V.agg (((((cs.set off x.erase).drop o).take n)).map V.eraseLeaf)) = some (V.agg (((cs.drop o).take n).map V.eraseLeaf))
      rw [List.map_take, List.map_drop, hm, List.map_take, List.map_drop]
    · split
      · rw [List.getElem?_set]
        split
        · rename_i e
          subst e
          rw [hx]
          have := (List.getElem?_eq_some_iff.1 hx).1
          have h2 : x.eraseLeaf.leaf = true := by
            cases x <;> first | rfl | simp [V.leaf] at hl | skip
            exact hl
          simp [this, erase_leaf hl, erase_leaf h2, eraseLeaf_idem]
        · rfl
      · rfl
  · rfl
theorem take_swaps {call : CallT} {i k : Nat} {m n : MOper} (h : takePair i m k n = true) : Swaps call i m k n := by
  unfold takePair at h
  split at h
  case h_2 => cases h
  rename_i j o c g j' off hm hn
  simp only [Bool.and_eq_true, beq_iff_eq, bne_iff_ne, Option.isNone_iff_eq_none] at h
  obtain ⟨⟨⟨⟨⟨rfl, hgm⟩, hgn⟩, hdm⟩, hdn⟩, hik⟩ := h
  refine ⟨fun s s1 _ _ l g' h0 => (by rw [hm] at h0; cases h0), fun s s1 s2 _ h1 h2 => ?_⟩
  simp only [step, hgn, wanted, hn, hdn, FS.put] at h1
  split at h1
  case h_2 => cases h1
  rename_i cs hcs
  split at h1
  case h_2 => cases h1
  rename_i x hx
  split at h1
  case isFalse => cases h1
  rename_i hl
  cases h1
  have hjl := (List.getElem?_eq_some_iff.1 hcs).1
  simp only [step, hgm, wanted, hm, hdm, FS.put] at h2
  rw [List.getElem?_set_self hjl] at h2
  simp only at h2
  have hp := part_taken (o := o) (n := c) (g := g) hx hl
  cases hy : part (cs.set off x.erase) o c g with
  | none => rw [hy] at h2; cases h2
  | some y =>
    rw [hy] at h2 hp
    cases h2
    obtain ⟨z, hz, hzy⟩ := Option.map_eq_some_iff.1 hp.symm
    refine ⟨⟨s.env, s.R.set i (some z.erase), s.σ⟩, ?_, ?_⟩
    · simp only [step, hgm, wanted, hm, hdm, FS.put, hcs, hz]
    · simp only [step, hgn, wanted, hn, hdn, FS.put, hcs, hx, hl, if_true, hzy]
      rw [List.set_comm _ _ hik]

def nopPair (i : Nat) (m : MOper) (k : Nat) (n : MOper) : Bool := match m.k, n.k with
  | .nop j, .takeBox j' _ => j == j' && m.guard.isNone && n.guard.isNone && m.dst.isNone && n.dst.isNone && i != k
  | _, _ => false
theorem nop_swaps {call : CallT} {i k : Nat} {m n : MOper} (h : nopPair i m k n = true) : Swaps call i m k n := by
  unfold nopPair at h
  split at h
  case h_2 => cases h
  rename_i j j' off hm hn
  simp only [Bool.and_eq_true, beq_iff_eq, bne_iff_ne, Option.isNone_iff_eq_none] at h
  obtain ⟨⟨⟨⟨⟨rfl, hgm⟩, hgn⟩, hdm⟩, hdn⟩, hik⟩ := h
  refine ⟨fun s s1 _ _ l g' h0 => (by rw [hm] at h0; cases h0), fun s s1 s2 _ h1 h2 => ?_⟩
  have h1' := h1
  simp only [step, hgn, wanted, hn, hdn, FS.put] at h1
  split at h1
  case h_2 => cases h1
  rename_i cs hcs
  split at h1
  case h_2 => cases h1
  rename_i x hx
  split at h1
  case isFalse => cases h1
  cases h1
  simp only [step, hgm, wanted, hm] at h2
  rw [List.getElem?_set_ne (Ne.symm hik)] at h2
  split at h2
  case h_2 => cases h2
  rename_i hR hE
  cases h2
  refine ⟨s, ?_, h1'⟩
  simp only [step, hgm, wanted, hm, hR, hcs]

def takePair2 (i : Nat) (m : MOper) (k : Nat) (n : MOper) : Bool := match m.k, n.k with
  | .takeBox j' _, .loadBox j _ _ _ => j == j' && m.guard.isNone && n.guard.isNone && m.dst.isNone && n.dst.isNone && i != k
  | .takeBox j' _, .nop j => j == j' && m.guard.isNone && n.guard.isNone && m.dst.isNone && n.dst.isNone && i != k
  | _, _ => false
theorem take_swaps2 {call : CallT} {i k : Nat} {m n : MOper} (h : takePair2 i m k n = true) : Swaps call i m k n := by
  unfold takePair2 at h
  split at h
  · rename_i j' off j o c g hm hn
    simp only [Bool.and_eq_true, beq_iff_eq, bne_iff_ne, Option.isNone_iff_eq_none] at h
    obtain ⟨⟨⟨⟨⟨rfl, hgm⟩, hgn⟩, hdm⟩, hdn⟩, hik⟩ := h
    refine ⟨fun s s1 _ _ l g' h0 => (by rw [hm] at h0; cases h0), fun s s1 s2 _ h1 h2 => ?_⟩
    simp only [step, hgn, wanted, hn, hdn, FS.put] at h1
    split at h1
    case h_2 => cases h1
    rename_i cs hcs
    split at h1
    case h_2 => cases h1
    rename_i y hy
    cases h1
    simp only [step, hgm, wanted, hm, hdm, FS.put, hcs] at h2
    split at h2
    case h_2 => cases h2
    rename_i x hx
    split at h2
    case isFalse => cases h2
    rename_i hl
    cases h2
    have hjl := (List.getElem?_eq_some_iff.1 hcs).1
    have hp := part_taken (o := o) (n := c) (g := g) hx hl
    rw [hy] at hp
    obtain ⟨z, hz, hzy⟩ := Option.map_eq_some_iff.1 hp
    refine ⟨⟨s.env.set j (.box (cs.set off x.erase)), s.R.set i (some x), s.σ⟩, ?_, ?_⟩
    · simp only [step, hgm, wanted, hm, hdm, FS.put, hcs, hx, hl, if_true]
    · simp only [step, hgn, wanted, hn, hdn, FS.put]
      rw [List.getElem?_set_self hjl]
      simp only [hz, hzy]
      rw [List.set_comm _ _ hik]
  · rename_i j' off j hm hn
    simp only [Bool.and_eq_true, beq_iff_eq, bne_iff_ne, Option.isNone_iff_eq_none] at h
    obtain ⟨⟨⟨⟨⟨rfl, hgm⟩, hgn⟩, hdm⟩, hdn⟩, hik⟩ := h
    refine ⟨fun s s1 _ _ l g' h0 => (by rw [hm] at h0; cases h0), fun s s1 s2 _ h1 h2 => ?_⟩
    simp only [step, hgn, wanted, hn] at h1
    split at h1
    case h_2 => cases h1
    rename_i hR hE
    cases h1
    refine ⟨s2, h2, ?_⟩
    simp only [step, hgm, wanted, hm, hdm, FS.put] at h2
    split at h2
    case h_2 => cases h2
    rename_i cs hcs
    have hjl := (List.getElem?_eq_some_iff.1 hcs).1
    split at h2
    case h_2 => cases h2
    split at h2
    case isFalse => cases h2
    cases h2
    simp only [step, hgn, wanted, hn]
    rw [List.getElem?_set_ne hik, hR, List.getElem?_set_self hjl]
  · cases h

/-! ## a map's entry, and what is looked up there ahead -/

def opdEq : Opd → Opd → Bool
  | .slot i, .slot j => i == j
  | .res i, .res j => i == j
  | _, _ => false
def opdsEq : List Opd → List Opd → Bool
  | [], [] => true
  | a :: as, b :: bs => opdEq a b && opdsEq as bs
  | _, _ => false
theorem opdEq_spec {a b : Opd} (h : opdEq a b = true) : a = b := by
  unfold opdEq at h
  split at h <;> first | (rw [eq_of_beq h]) | cases h
theorem opdsEq_spec : ∀ {as bs : List Opd}, opdsEq as bs = true → as = bs
  | [], [], _ => rfl
  | a :: as, b :: bs, h => by
    simp only [opdsEq, Bool.and_eq_true] at h
    rw [opdEq_spec h.1, opdsEq_spec h.2]
  | [], _ :: _, h => by simp [opdsEq] at h
  | _ :: _, [], h => by simp [opdsEq] at h
def sameInt : V → V → Bool
  | .sc (.int j a), .sc (.int k b) => j == k && a == b
  | _, _ => false
theorem sameInt_spec {a b : V} (h : sameInt a b = true) : a = b := by
  unfold sameInt at h
  split at h
  · simp only [Bool.and_eq_true, beq_iff_eq] at h; rw [h.1, h.2]
  · cases h

def entryPair (i : Nat) (m : MOper) (k : Nat) (n : MOper) : Bool := match m.k, n.k with
  | .act (.mapEntry kd z), .act (.lookup kd' z' false) => kd == kd' && sameInt z z' && opdsEq m.args n.args && m.guard.isNone && n.guard.isNone && m.dst.isNone && n.dst.isNone && i != k &&
      !(opdR m.args).contains i && !(opdR m.args).contains k
  | _, _ => false

theorem scKind_eq {v : V} {k : Nat} (h : scKind v = some k) : keyEq v v = some true := by
  unfold scKind at h
  split at h <;> first | (cases h; done) | simp [keyEq, scEq]
theorem keysEq_self : ∀ (c : Nat) (cs : List V), kindsOK c cs = true → keysEq cs cs = some true
  | _, [], _ => rfl
  | c, v :: vs, h => by
    simp only [kindsOK, Bool.and_eq_true] at h
    obtain ⟨h1, h2⟩ := h
    split at h1
    case h_2 => cases h1
    rename_i k hk
    have h3 := scKind_eq hk
    obtain ⟨a, rfl, _⟩ := scKind_sc hk
    simp only [keyEq] at h3
    simp [keysEq, h3, keysEq_self _ vs h2]
theorem keyEq_self {kd : Nat} {k : V} (h : kindOK kd k = true) : keyEq k k = some true := by
  unfold kindOK at h
  split at h
  · simp only [Bool.and_eq_true] at h
    simpa [keyEq] using keysEq_self _ _ h.2
  · exact scKind_eq (eq_of_beq h)

theorem mapIdx_append {k v : V} (hk : keyEq k k = some true) : ∀ (es : List (V × V)), mapIdx k es = some none → mapIdx k (es ++ [(k, v)]) = some (some es.length)
  | [], _ => by simp [mapIdx, hk]
  | (k1, v1) :: es, h => by
    simp only [mapIdx] at h
    cases hq : keyEq k k1 with
    | none => simp [hq] at h
    | some q => cases q with
      | true => simp [hq] at h
      | false =>
        simp only [hq] at h
        cases hm : mapIdx k es with
        | none => simp [hm] at h
        | some r => cases r with
          | some j => simp [hm] at h
          | none => simp [mapIdx, hq, mapIdx_append hk es hm]

theorem lookup_entry {kd : Nat} {zero : V} {xs : List V} {σ σ1 σ2 : St} {x y : V} (h1 : actLookup kd zero false xs σ = some (x, σ1)) (h2 : actMapEntry kd zero xs σ = some (y, σ2)) : σ1 = σ ∧ actLookup kd zero false xs σ2 = some (x, σ2) := by
  unfold actMapEntry at h2
  split at h2
  case h_2 => cases h2
  rename_i id k
  split at h2
  case isFalse => cases h2
  rename_i hc
  split at h2
  case h_2 => cases h2
  rename_i es hes
  unfold actLookup at h1 ⊢
  have hobj := getMap_spec hes
  have hesL : σ.getMapL id = some es := by simp [St.getMapL, hobj]
  simp only [hc.2, if_true, hesL, mapFind] at h1 ⊢
  cases hm : mapIdx k es with
  | none => simp [hm] at h2
  | some r => cases r with
    | none =>
      simp only [hm] at h1 h2
      cases h1
      cases h2
      have hg : (σ.set id (.map (es ++ [(k, zero)]))).getMapL id = some (es ++ [(k, zero)]) := by
        simp [St.set, St.getMapL, (List.getElem?_eq_some_iff.1 hobj).1]
      simp [hg, mapIdx_append (keyEq_self hc.2) es hm]
    | some j =>
      simp only [hm] at h1 h2
      cases hj : es[j]? with
      | none => simp [hj] at h2
      | some p =>
        obtain ⟨k', v'⟩ := p
        simp only [hj] at h1 h2
        cases h1
        cases h2
        simp [hesL, hm, hj]

theorem rds_set {env : List EV} {R : List (Option V)} {i : Nat} {x : Option V} : ∀ {l : List Opd}, i ∉ opdR l → rds env (R.set i x) l = rds env R l
  | [], _ => rfl
  | o :: l, h => by
    have h1 : rd env (R.set i x) o = rd env R o := by
      cases o with
      | slot j => rfl
      | res j => simp only [rd]; rw [List.getElem?_set_ne (by rintro rfl; exact h (by simp [opdR]))]
      | const v => rfl
    have h2 : rds env (R.set i x) l = rds env R l := rds_set (fun hh => h (by cases o <;> simp_all [opdR]))
    simp only [rds, h1, h2]

theorem entry_swaps {call : CallT} {i k : Nat} {m n : MOper} (h : entryPair i m k n = true) : Swaps call i m k n := by
  unfold entryPair at h
  split at h
  case h_2 => cases h
  rename_i kd z kd' z' hm hn
  refine ⟨fun s s1 _ _ l g' h0 => (by rw [hm] at h0; cases h0), fun s s1 s2 _ h1 h2 => ?_⟩
  simp only [Bool.and_eq_true, beq_iff_eq, bne_iff_ne, Option.isNone_iff_eq_none, Bool.not_eq_true', List.contains_eq_mem, decide_eq_false_iff_not] at h
  obtain ⟨⟨⟨⟨⟨⟨⟨⟨⟨rfl, hz⟩, hargs⟩, hgm⟩, hgn⟩, hdm⟩, hdn⟩, hik⟩, hi⟩, hk⟩ := h
  have hz := sameInt_spec hz
  subst hz
  have hargs := opdsEq_spec hargs
  simp only [step, hgn, wanted, hn, ← hargs] at h1
  split at h1
  · cases h1
  · rename_i xs hxs
    split at h1
    · cases h1
    · rename_i x σ1 hx
      cases h1
      simp only [A.act] at hx
      simp only [step, hgm, wanted, hm, hdn, FS.put] at h2
      rw [rds_set hk] at h2
      simp only [hxs] at h2
      split at h2
      · cases h2
      · rename_i y σ2 hy
        simp only [A.act] at hy
        have hσ : σ1 = s.σ := by
          have := act_reads (call := call) (a := .lookup kd z false) (xs := xs) (σ := s.σ) (x := x) (σ' := σ1) (by simp [A.sg]) hx
          exact this
        subst hσ
        obtain ⟨_, hlk⟩ := lookup_entry hx hy
        cases h2
        refine ⟨⟨s.env, s.R.set i (some y.erase), σ2⟩, ?_, ?_⟩
        · simp only [step, hgm, wanted, hm, hxs, A.act, hy, hdm, FS.put, A.fresh, Bool.false_eq_true, if_false]
        · simp only [step, hgn, wanted, hn, ← hargs, rds_set hi, hxs, A.act, hlk, hdn, hdm, FS.put, A.fresh, Bool.false_eq_true, if_false]
          rw [List.set_comm _ _ hik]

/-! ## one of those that are left is taken first -/

def runL (call : CallT) (ms : List MOper) : List Nat → FS → Option FS
  | [], s => some s
  | i :: is, s => match ms[i]? with
    | some m => match step call i m s with
      | some s' => runL call ms is s'
      | none => none
    | none => none

theorem runOps_runL (call : CallT) (ms : List MOper) : ∀ (l : List MOper) (i : Nat) (s : FS), (∀ k, l[k]? = ms[i + k]?) → runOps call i l s = runL call ms (List.range' i l.length) s
  | [], _, _, _ => rfl
  | m :: l, i, s, h => by
    have h0 := h 0
    simp at h0
    simp only [runOps, List.length_cons, List.range'_succ, runL, ← h0]
    cases step call i m s with
    | none => rfl
    | some s' => exact runOps_runL call ms l (i + 1) s' fun k => by have := h (k + 1); simp at this; rw [this]; congr 1; omega

theorem bring {call : CallT} {ms : List MOper} {i : Nat} {m : MOper} (hi : ms[i]? = some m) : ∀ (pre post : List Nat) (s fin : FS), (∀ k ∈ pre, ∀ n, ms[k]? = some n → Swaps call i m k n) → Held m s → runL call ms (pre ++ i :: post) s = some fin →
    ∃ s', step call i m s = some s' ∧ runL call ms (pre ++ post) s' = some fin
  | [], post, s, fin, _, _, h => by
    simp only [List.nil_append, runL, hi] at h
    split at h
    · rename_i s' hs; exact ⟨s', hs, h⟩
    · cases h
  | k :: pre, post, s, fin, ha, hh, h => by
    simp only [List.cons_append, runL] at h
    split at h
    case h_2 => cases h
    rename_i n hn
    split at h
    case h_2 => cases h
    rename_i s1 hs1
    obtain ⟨s2, h2, h3⟩ := bring hi pre post s1 fin (fun k hk => ha k (by simp [hk])) ((ha k (by simp) n hn).1 _ _ hh hs1) h
    obtain ⟨s1', h4, h5⟩ := (ha k (by simp) n hn).2 _ _ _ hh hs1 h2
    exact ⟨s1', h4, by simp only [List.cons_append, runL, hn, h5]; exact h3⟩

/-- Those that are left. -/
def rest (n : Nat) (listed : Array Bool) : List Nat := (List.range n).filter fun i => listed.getD i true == false

theorem rest_mem {n : Nat} {listed : Array Bool} {i : Nat} : i ∈ rest n listed ↔ i < n ∧ listed.getD i true = false := by
  simp [rest]

theorem rest_set {n : Nat} {listed : Array Bool} {i : Nat} : rest n (listed.setIfInBounds i true) = (rest n listed).filter (· != i) := by
  unfold rest
  rw [List.filter_filter]
  apply List.filter_congr
  intro j _
  by_cases hj : j = i
  · subst hj
    simp [Array.getElem?_setIfInBounds]
    by_cases h : j < listed.size <;> simp [h]
  · rw [getD_set_ne true (Ne.symm hj)]
    simp [hj]

theorem rest_split {n : Nat} {listed : Array Bool} {i : Nat} (hi : i ∈ rest n listed) : ∃ pre post, rest n listed = pre ++ i :: post ∧ rest n (listed.setIfInBounds i true) = pre ++ post ∧ ∀ k ∈ pre, k < i ∧ listed.getD k true = false := by
  obtain ⟨pre, post, h⟩ := List.append_of_mem hi
  have hp : (rest n listed).Pairwise (· < ·) := List.Pairwise.filter _ List.pairwise_lt_range
  rw [h] at hp
  have hpre : ∀ k ∈ pre, k < i := fun k hk => (List.pairwise_append.1 hp).2.2 k hk i (by simp)
  have hpost : ∀ k ∈ post, i < k := fun k hk => (List.pairwise_cons.1 (List.pairwise_append.1 hp).2.1).1 k hk
  refine ⟨pre, post, h, ?_, fun k hk => ⟨hpre k hk, (rest_mem.1 (by rw [h]; simp [hk])).2⟩⟩
  rw [rest_set, h, List.filter_append, List.filter_cons]
  simp only [bne_self_eq_false, Bool.false_eq_true, if_false]
  rw [List.filter_eq_self.2 fun k hk => by have := hpre k hk; simp; omega, List.filter_eq_self.2 fun k hk => by have := hpost k hk; simp; omega]

/-- The operations on which one waits. -/
def waits (ops : Array Oper) (i : Nat) : List Nat := match ops[i]? with
  | some o => (o.after.toList.filter (Region.binds .any)).map (·.on)
  | none => []

def merge (r : List Nat) : List Nat → List Nat
  | [] => r
  | x :: xs => merge (if r.contains x then r else x :: r) xs

/-- All on which it waits, those on which they wait, and so on. -/
def ancOf (ops : Array Oper) : Nat → List (List Nat) → List (List Nat)
  | 0, acc => acc
  | k + 1, acc => ancOf ops k (acc ++ [let d := waits ops acc.length; d.foldl (fun r j => merge r (acc.getD j [])) d])

/-- Two operations either wait for one another, or don't meet. -/
def anyOK (ops : Array Oper) (ms : List MOper) : Bool :=
  let anc := ancOf ops ops.size []
  (List.range ops.size).all fun i => (waits ops i).all (· < i) &&
    (anc.getD i []).all (fun k => (waits ops i).contains k || (waits ops i).any fun d => (anc.getD d []).contains k) &&
    (List.range i).all fun k => (anc.getD i []).contains k || (match ms[i]?, ms[k]? with
      | some m, some n => (foot i m).apart (foot k n) || entryPair i m k n || keepPair i m k n || takePair i m k n || nopPair i m k n || takePair2 i m k n || leavePair i m k n
      | _, _ => false)

section
variable {P : Program} {C : Ctx} {call : CallT} {ops : Array Oper} {ad : Addrs} {Q : Exit → Act → World → Prop} {ms : List MOper}

theorem held_of {μ : List Nat} {lim : Nat → Nat} {ow : Nat → Owner} {s : FS} {a : Act} {w : World} {m : MOper} {o : Oper} {i : Nat} {deps : List Nat} (h : FRel C μ lim ow s a w) (hok : stepOK P C.slots C.dsts ops ad deps i m o = true) : Held m s := by
  intro l g hm id off hr
  simp only [stepOK, Bool.and_eq_true] at hok
  have hk := hok.2
  simp only [kOK, hm, Bool.and_eq_true] at hk
  have hk2 := hk.2
  split at hk2
  case h_2 => cases hk2
  rename_i opers _
  simp only [Bool.and_eq_true] at hk2
  obtain ⟨h1, _⟩ := rds_rel h hr hk2.1
  cases opers with
  | nil => simp only [List.map_nil] at h1; unfold RelVs at h1; exact h1.elim
  | cons y ys =>
    simp only [List.map_cons] at h1
    unfold RelVs at h1
    have h2 := h1.1
    unfold RelV at h2
    obtain ⟨b, hb, _⟩ := h2
    have := (List.getElem?_eq_some_iff.1 hb).1
    rw [h.chg.wrel.len] at this
    exact this
theorem any_sound (hC : C.OK) (hcall : CallOK P call) (hfree : adFree C.slots ops ad = true) (hlen : ms.length = ops.size)
    (hok : ∀ i m o, ms[i]? = some m → ops[i]? = some o → stepOK P C.slots C.dsts ops ad (waits ops i) i m o = true) (hany : anyOK ops ms = true) {fin : FS}
    (hQ : ∀ μ' lim' ow' a' w', FRel C μ' lim' ow' fin a' w' → Q .normal a' w') :
    ∀ (fuel : Nat) (listed : Array Bool) (s : FS) (μ : List Nat) (lim : Nat → Nat) (ow : Nat → Owner) (a : Act) (w : World), listed.size = ops.size → (rest ops.size listed).length = fuel →
      (∀ j k, listed.getD j false = true → k ∈ (ancOf ops ops.size []).getD j [] → listed.getD k false = true) →
      FRel C μ lim ow s a w → AddrOK C ops ad (fun j => listed.getD j false = true) s.R a → runL call ms (rest ops.size listed) s = some fin → wpAny P .any ops Q fuel listed a w := by
  have hst : ∀ i, i < ops.size → (∀ d ∈ waits ops i, d < i) ∧ (∀ k ∈ (ancOf ops ops.size []).getD i [], k ∈ waits ops i ∨ ∃ d ∈ waits ops i, k ∈ (ancOf ops ops.size []).getD d []) ∧
      ∀ k, k < i → k ∈ (ancOf ops ops.size []).getD i [] ∨ ∃ m n, ms[i]? = some m ∧ ms[k]? = some n ∧ Swaps call i m k n := by
    intro i hi
    have := List.all_eq_true.1 hany i (List.mem_range.2 hi)
    simp only [Bool.and_eq_true, List.all_eq_true, decide_eq_true_eq, Bool.or_eq_true, List.contains_eq_mem, List.any_eq_true, List.mem_range] at this
    refine ⟨this.1.1, this.1.2, fun k hk => ?_⟩
    rcases this.2 k hk with h | h
    · exact .inl h
    · split at h
      · rename_i m n h1 h2
        simp only [Bool.or_eq_true] at h
        refine .inr ⟨m, n, h1, h2, ?_⟩
        rcases h with (((((h | h) | h) | h) | h) | h) | h
        · exact apart_swaps h
        · exact entry_swaps h
        · exact keep_swaps h
        · exact take_swaps h
        · exact nop_swaps h
        · exact take_swaps2 h
        · exact leave_swaps h
      · cases h
  have hready : ∀ (listed : Array Bool) i, i ∈ Region.ready .any ops listed ↔ listed.getD i true = false ∧ i < ops.size ∧ ∀ d ∈ waits ops i, listed.getD d false = true := by
    intro listed i
    rw [mem_ready]
    constructor
    · rintro ⟨h1, o, h2, h3⟩
      refine ⟨h1, (Array.getElem?_eq_some_iff.1 h2).1, fun d hd => ?_⟩
      simp only [waits, h2, List.mem_map, List.mem_filter] at hd
      obtain ⟨e, ⟨he, hb⟩, rfl⟩ := hd
      exact h3 e (by simpa using he) hb
    · rintro ⟨h1, h2, h3⟩
      refine ⟨h1, ops[i], Array.getElem?_eq_getElem h2, fun e he hb => h3 _ ?_⟩
      simp only [waits, Array.getElem?_eq_getElem h2, List.mem_map, List.mem_filter]
      exact ⟨e, ⟨by simpa using he, hb⟩, rfl⟩
  have hnone : ∀ (listed : Array Bool), listed.size = ops.size → Region.ready .any ops listed = [] → rest ops.size listed = [] := by
    intro listed hls h
    cases hr : rest ops.size listed with
    | nil => rfl
    | cons i l =>
      exfalso
      have hi : i ∈ rest ops.size listed := by rw [hr]; simp
      obtain ⟨hin, hil⟩ := rest_mem.1 hi
      have : i ∈ Region.ready .any ops listed := (hready listed i).2 ⟨hil, hin, fun d hd => by
        have hdi := (hst i hin).1 d hd
        rcases Bool.eq_false_or_eq_true (listed.getD d false) with hq | hq
        · exact hq
        · exfalso
          have hdl : d < listed.size := by omega
          have hdm : d ∈ rest ops.size listed := rest_mem.2 ⟨by omega, by simpa [hdl] using hq⟩
          have hp : (rest ops.size listed).Pairwise (· < ·) := List.Pairwise.filter _ List.pairwise_lt_range
          rw [hr] at hp hdm
          rcases List.mem_cons.1 hdm with rfl | hm
          · omega
          · have := (List.pairwise_cons.1 hp).1 d hm; omega⟩
      rw [h] at this
      cases this
  intro fuel
  induction fuel with
  | zero =>
    intro listed s μ lim ow a w hls hfl hdown h had hrun
    have hr : rest ops.size listed = [] := List.eq_nil_of_length_eq_zero hfl
    rw [hr] at hrun
    simp only [runL] at hrun
    cases hrun
    refine ⟨?_, hQ _ _ _ _ _ h⟩
    cases hq : Region.ready .any ops listed with
    | nil => rfl
    | cons i l =>
      have hi := (hready listed i).1 (by rw [hq]; simp)
      have : i ∈ rest ops.size listed := rest_mem.2 ⟨hi.2.1, hi.1⟩
      rw [hr] at this
      cases this
  | succ fuel ih =>
    intro listed s μ lim ow a w hls hfl hdown h had hrun
    refine ⟨fun hq => ?_, fun i hi => ?_⟩
    · have := hnone listed hls hq
      rw [this] at hfl
      simp at hfl
    · obtain ⟨h1, h2, h3⟩ := (hready listed i).1 hi
      have him : i ∈ rest ops.size listed := rest_mem.2 ⟨h2, h1⟩
      obtain ⟨pre, post, r1, r2, r3⟩ := rest_split him
      obtain ⟨_, s2, s3⟩ := hst i h2
      have hanc : ∀ k ∈ (ancOf ops ops.size []).getD i [], listed.getD k false = true := by
        intro k hk
        rcases s2 k hk with hk | ⟨d, hd, hk⟩
        · exact h3 k hk
        · exact hdown d k (h3 d hd) hk
      have hml : i < ms.length := by rw [hlen]; exact h2
      have hmi := List.getElem?_eq_getElem hml
      have hoi := Array.getElem?_eq_getElem h2
      rw [r1] at hrun
      obtain ⟨s', hs', hrun'⟩ := bring hmi pre post s fin (fun k hk n hn => by
        obtain ⟨hki, hkl⟩ := r3 k hk
        rcases s3 k hki with hq | ⟨m', n', hm', hn', hq⟩
        · have := hanc k hq
          have hkl2 : k < listed.size := by omega
          simp [hkl2] at this hkl
          rw [this] at hkl; cases hkl
        · rw [hmi] at hm'; cases hm'
          rw [hn] at hn'; cases hn'
          exact hq) (held_of h (hok i _ _ hmi hoi)) hrun
      have hnl : ¬ (listed.getD i false = true) := by
        have : i < listed.size := by omega
        simp [this] at h1 ⊢
        exact h1
      refine step_sound hC hcall h had h3 hnl hoi (hok i _ _ hmi hoi) hs' fun X μ' lim' ow' w' g1 g2 => ?_
      have hset : ∀ j, (listed.setIfInBounds i true).getD j false = true ↔ listed.getD j false = true ∨ j = i := by
        intro j
        by_cases hj : j = i
        · subst hj; simp [hls, h2]
        · rw [getD_set_ne false (Ne.symm hj)]; simp [hj]
      refine ih (listed.setIfInBounds i true) s' μ' lim' ow' _ w' (by simpa using hls) ?_ ?_ g1 ?_ ?_
      · rw [r2]; rw [r1] at hfl; simp at hfl ⊢; omega
      · intro j k hj hk
        rcases (hset j).1 hj with hj | rfl
        · exact (hset k).2 (.inl (hdown j k hj hk))
        · exact (hset k).2 (.inl (hanc k hk))
      · intro j k off oj hj hadj hoj
        have := addrOK_put hfree hoi hnl h3 (hok i _ _ hmi hoi) hs' had g2 j k off oj ((hset j).1 hj) hadj hoj
        exact ⟨fun g b hg => (hset g).2 (this.1 g b hg), this.2⟩
      · rw [r2]; exact hrun'
end
end Go.Ab

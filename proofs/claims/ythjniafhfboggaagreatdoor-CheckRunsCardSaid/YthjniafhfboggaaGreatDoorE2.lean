/- Steps that don't meet change places. No premise but those named. -/
import Derived.Test.YthjniafhfboggaaGreatDoorE1
namespace Go.Ab
open Go

def setAll {α : Type} : List (Nat × α) → List α → List α
  | [], l => l
  | (i, x) :: us, l => setAll us (l.set i x)

theorem setAll_set {α : Type} {i : Nat} {x : α} : ∀ {us : List (Nat × α)} {l : List α}, (∀ p ∈ us, p.1 ≠ i) → setAll us (l.set i x) = (setAll us l).set i x
  | [], _, _ => rfl
  | (j, y) :: us, l, h => by
    have hj : j ≠ i := h (j, y) (by simp)
    simp only [setAll]
    rw [List.set_comm x y (Ne.symm hj), setAll_set fun p hp => h p (by simp [hp])]

theorem setAll_comm {α : Type} : ∀ {us vs : List (Nat × α)} {l : List α}, (∀ p ∈ us, ∀ q ∈ vs, p.1 ≠ q.1) → setAll us (setAll vs l) = setAll vs (setAll us l)
  | us, [], l, _ => rfl
  | us, (j, y) :: vs, l, h => by
    simp only [setAll]
    rw [← setAll_set fun p hp => h p hp (j, y) (by simp)]
    exact setAll_comm fun p hp q hq => h p hp q (by simp [hq])

theorem setAll_get {α : Type} {i : Nat} : ∀ {us : List (Nat × α)} {l : List α}, (∀ p ∈ us, p.1 ≠ i) → (setAll us l)[i]? = l[i]?
  | [], _, _ => rfl
  | (j, y) :: us, l, h => by
    simp only [setAll]
    rw [setAll_get fun p hp => h p (by simp [hp]), List.getElem?_set_ne (h (j, y) (by simp))]

/-- What a step writes. -/
structure Upd where
  env : List (Nat × EV)
  R : List (Nat × Option V)
  σ : Option St

def Upd.on (u : Upd) (s : FS) : FS := ⟨setAll u.env s.env, setAll u.R s.R, u.σ.getD s.σ⟩

/-- The result goes to its place, after what was taken. -/
def Upd.put (u : Upd) (dst : Option Nat) (i : Nat) (x : V) : Upd := match dst with
  | some d => { u with env := u.env ++ [(d, .v x)] }
  | none => { u with R := u.R ++ [(i, some x)] }

def plan (call : CallT) (i : Nat) (m : MOper) (s : FS) : Option Upd :=
  match wanted s.R m.guard with
  | none => none
  | some false => some ((⟨[], [], none⟩ : Upd).put m.dst i .undef)
  | some true => match m.k with
    | .nop k => match s.R[i]?, s.env[k]? with
      | some none, some (.box _) => some ⟨[], [], none⟩
      | _, _ => none
    | .act a => match rds s.env s.R m.args with
      | none => none
      | some xs => match a.act call xs s.σ with
        | none => none
        | some (x, σ) => some ((⟨[], [], if a.sg = 2 then some σ else none⟩ : Upd).put m.dst i (if a.fresh then x else x.erase))
    | .move j => match s.R[j]? with
      | some (some x) => some ((⟨[], [(j, some x.erase)], none⟩ : Upd).put m.dst i x)
      | _ => none
    | .mvt j => match s.env[j]? with
      | some (.v x) => some ((⟨[(j, .v x.erase)], [], none⟩ : Upd).put m.dst i x)
      | _ => none
    | .own a j => match s.R[j]?, rds s.env s.R m.args with
      | some (some x), some xs => match a.act call (x :: xs) s.σ with
        | none => none
        | some (y, σ) => some ((⟨[], [(j, some x.erase)], if a.sg = 2 then some σ else none⟩ : Upd).put m.dst i y)
      | _, _ => none
    | .allocBox zero => match m.dst with
      | some d => some ⟨[(d, .box zero)], [], none⟩
      | none => none
    | .boxBox => match rds s.env s.R m.args, m.dst with
      | some [x], some d => some ⟨[(d, .box x.erase.cells)], [], none⟩
      | _, _ => none
    | .loadBox j off n agg => match s.env[j]? with
      | some (.box cs) => match part cs off n agg with
        | some x => some ((⟨[], [], none⟩ : Upd).put m.dst i x.erase)
        | none => none
      | _ => none
    | .takeBox j off => match s.env[j]? with
      | some (.box cs) => match cs[off]? with
        | some x => if x.leaf = true then some ((⟨[(j, .box (cs.set off x.erase))], [], none⟩ : Upd).put m.dst i x) else none
        | none => none
      | _ => none
    | .storeBox j off n => match s.env[j]?, rds s.env s.R m.args with
      | some (.box cs), some [x] => if x.cells.length = n ∧ off + n ≤ cs.length ∧ x.cells.all V.leaf = true then some ⟨[(j, .box (splice cs off x.cells))], [], none⟩ else none
      | _, _ => none
    | .keepBox j off n r => match s.env[j]?, s.R[r]? with
      | some (.box cs), some (some x) => if x.cells.length = n ∧ off + n ≤ cs.length ∧ x.cells.all V.leaf = true then
          some ⟨[(j, .box (splice cs off x.cells))], [(r, some x.erase)], none⟩ else none
      | _, _ => none
    | .boxTake r => match s.R[r]?, m.dst with
      | some (some x), some d => some ⟨[(d, .box x.boxed)], [(r, some x.erase)], none⟩
      | _, _ => none

theorem setAll_append {α : Type} : ∀ (us vs : List (Nat × α)) (l : List α), setAll (us ++ vs) l = setAll vs (setAll us l)
  | [], _, _ => rfl
  | (i, x) :: us, vs, l => by simp only [List.cons_append, setAll]; exact setAll_append us vs _

theorem Upd.put_on (u : Upd) (dst : Option Nat) (i : Nat) (x : V) (s : FS) : (u.put dst i x).on s = (u.on s).put dst i x := by
  cases dst <;> simp [Upd.put, Upd.on, FS.put, setAll_append, setAll]

theorem step_plan (call : CallT) (i : Nat) (m : MOper) (s : FS) : step call i m s = (plan call i m s).map fun u => u.on s := by
  unfold step plan
  cases hw : wanted s.R m.guard with
  | none => rfl
  | some b => cases b with
    | false => simp only [Option.map_some, Upd.put_on]; rfl
    | true =>
      simp only
      cases m.k with
      | act a =>
        simp only
        cases hr : rds s.env s.R m.args with
        | none => rfl
        | some xs =>
          simp only
          cases ha : a.act call xs s.σ with
          | none => rfl
          | some p =>
            obtain ⟨x, σ⟩ := p
            simp only [Option.map_some, Upd.put_on]
            by_cases hs : a.sg = 2
            · rw [if_pos hs]; rfl
            · rw [if_neg hs]
              have : σ = s.σ := act_reads (by
                have : a.sg ≤ 2 := by cases a <;> simp [A.sg] <;> split <;> omega
                omega) ha
              rw [this]; rfl
      | own a j =>
        simp only
        cases hj : s.R[j]? with
        | none => rfl
        | some ox => cases ox with
          | none => rfl
          | some x =>
            cases hr : rds s.env s.R m.args with
            | none => rfl
            | some xs =>
              simp only
              cases ha : a.act call (x :: xs) s.σ with
              | none => rfl
              | some p =>
                obtain ⟨y, σ⟩ := p
                simp only [Option.map_some, Upd.put_on]
                by_cases hs : a.sg = 2
                · rw [if_pos hs]; rfl
                · rw [if_neg hs]
                  have : σ = s.σ := act_reads (by
                    have : a.sg ≤ 2 := by cases a <;> simp [A.sg] <;> split <;> omega
                    omega) ha
                  rw [this]; rfl
      | nop k => simp only; rcases s.R[i]? with _ | (_ | x) <;> rcases s.env[k]? with _ | (_ | cs) <;> rfl
      | move j => simp only; rcases s.R[j]? with _ | (_ | x) <;> first | rfl | (simp only [Option.map_some, Upd.put_on]; rfl)
      | mvt j => simp only; rcases s.env[j]? with _ | (x | cs) <;> first | rfl | (simp only [Option.map_some, Upd.put_on]; rfl)
      | allocBox z => simp only; cases m.dst <;> rfl
      | boxBox => simp only; rcases rds s.env s.R m.args with _ | (_ | ⟨x, (_ | ⟨y, l⟩)⟩) <;> cases m.dst <;> rfl
      | loadBox j off n agg =>
        simp only; rcases s.env[j]? with _ | (x | cs)
        · rfl
        · rfl
        · simp only; rcases part cs off n agg with _ | x <;> first | rfl | (simp only [Option.map_some, Upd.put_on]; rfl)
      | takeBox j off =>
        simp only; rcases s.env[j]? with _ | (x | cs)
        · rfl
        · rfl
        · simp only
          rcases cs[off]? with _ | x
          · rfl
          · simp only
            split <;> first | rfl | (simp only [Option.map_some, Upd.put_on]; rfl)
      | storeBox j off n =>
        simp only; rcases s.env[j]? with _ | (x | cs)
        · rfl
        · rfl
        · rcases rds s.env s.R m.args with _ | (_ | ⟨x, (_ | ⟨y, l⟩)⟩) <;> first | rfl | (simp only; split <;> rfl)
      | keepBox j off n r =>
        simp only; rcases s.env[j]? with _ | (x | cs)
        · rfl
        · rfl
        · rcases s.R[r]? with _ | (_ | x) <;> first | rfl | (simp only; split <;> rfl)
      | boxTake r => simp only; rcases s.R[r]? with _ | (_ | x) <;> cases m.dst <;> rfl

/-! ## what it reads and writes -/

structure Foot where
  R : List Nat
  wR : List Nat
  E : List Nat
  wE : List Nat
  sg : Nat

def opdR (l : List Opd) : List Nat := l.filterMap fun | .res j => some j | _ => none
def opdE (l : List Opd) : List Nat := l.filterMap fun | .slot j => some j | _ => none

def kFoot (i : Nat) (m : MOper) : Foot := match m.k with
  | .nop k => ⟨[i], [], [k], [], 0⟩
  | .act a => ⟨opdR m.args, [], opdE m.args, [], a.sg⟩
  | .move j => ⟨[j], [j], [], [], 0⟩
  | .mvt j => ⟨[], [], [j], [j], 0⟩
  | .own a j => ⟨j :: opdR m.args, [j], opdE m.args, [], a.sg⟩
  | .allocBox _ => ⟨[], [], [], [], 0⟩
  | .boxBox => ⟨opdR m.args, [], opdE m.args, [], 0⟩
  | .loadBox j _ _ _ => ⟨[], [], [j], [], 0⟩
  | .takeBox j _ => ⟨[], [], [j], [j], 0⟩
  | .storeBox j _ _ => ⟨opdR m.args, [], j :: opdE m.args, [j], 0⟩
  | .keepBox j _ _ r => ⟨[r], [r], [j], [j], 0⟩
  | .boxTake r => ⟨[r], [r], [], [], 0⟩

def foot (i : Nat) (m : MOper) : Foot :=
  let k := kFoot i m
  let g := match m.guard with
    | some (j, _) => [j]
    | none => []
  match m.dst with
  | some d => ⟨k.R ++ g, k.wR, d :: k.E, d :: k.wE, k.sg⟩
  | none => ⟨i :: k.R ++ g, i :: k.wR, k.E, k.wE, k.sg⟩

def Foot.apart (f h : Foot) : Bool :=
  f.wR.all (fun j => !h.R.contains j) && h.wR.all (fun j => !f.R.contains j) && f.wE.all (fun j => !h.E.contains j) && h.wE.all (fun j => !f.E.contains j) &&
    !(f.sg == 2 && h.sg != 0) && !(h.sg == 2 && f.sg != 0)

/-- Two states that look the same to a step. -/
structure Same (f : Foot) (s s' : FS) : Prop where
  R : ∀ j ∈ f.R, s'.R[j]? = s.R[j]?
  E : ∀ j ∈ f.E, s'.env[j]? = s.env[j]?
  σ : f.sg ≠ 0 → s'.σ = s.σ

theorem rds_same {s s' : FS} : ∀ {l : List Opd}, (∀ j ∈ opdR l, s'.R[j]? = s.R[j]?) → (∀ j ∈ opdE l, s'.env[j]? = s.env[j]?) → rds s'.env s'.R l = rds s.env s.R l
  | [], _, _ => rfl
  | o :: l, hR, hE => by
    have h1 : rd s'.env s'.R o = rd s.env s.R o := by
      cases o with
      | slot i => simp only [rd]; rw [hE i (by simp [opdE])]
      | res j => simp only [rd]; rw [hR j (by simp [opdR])]
      | const v => rfl
    have h2 : rds s'.env s'.R l = rds s.env s.R l := rds_same (fun j hj => hR j (by cases o <;> simp_all [opdR])) (fun j hj => hE j (by cases o <;> simp_all [opdE]))
    simp only [rds, h1, h2]

theorem wanted_same {s s' : FS} {g : Option (Nat × Bool)} (h : ∀ j b, g = some (j, b) → s'.R[j]? = s.R[j]?) : wanted s'.R g = wanted s.R g := by
  cases g with
  | none => rfl
  | some p => simp only [wanted]; rw [h p.1 p.2 rfl]

theorem plan_same {call : CallT} {i : Nat} {m : MOper} {s s' : FS} (h : Same (foot i m) s s') : plan call i m s' = plan call i m s := by
  have hkR : ∀ j ∈ (kFoot i m).R, s'.R[j]? = s.R[j]? := fun j hj => h.R j (by unfold foot; cases m.dst <;> simp [hj])
  have hkE : ∀ j ∈ (kFoot i m).E, s'.env[j]? = s.env[j]? := fun j hj => h.E j (by unfold foot; cases m.dst <;> simp [hj])
  have hkσ : (kFoot i m).sg ≠ 0 → s'.σ = s.σ := fun hs => h.σ (by unfold foot; cases m.dst <;> simpa using hs)
  have hw : wanted s'.R m.guard = wanted s.R m.guard := wanted_same fun j b hg => h.R j (by unfold foot; rw [hg]; cases m.dst <;> simp)
  unfold plan
  rw [hw]
  unfold kFoot at hkR hkE hkσ
  cases hq : wanted s.R m.guard with
  | none => rfl
  | some b => cases b with
    | false => rfl
    | true =>
      simp only
      cases hk : m.k with
      | act a =>
        simp only [hk] at hkR hkE hkσ
        simp only
        rw [rds_same hkR hkE]
        cases hr : rds s.env s.R m.args with
        | none => rfl
        | some xs =>
          simp only
          by_cases h0 : a.sg = 0
          · cases ha : a.act call xs s.σ with
            | none =>
              cases hb : a.act call xs s'.σ with
              | none => rfl
              | some p => have := act_blind h0 hb s.σ; rw [ha] at this; cases this
            | some p =>
              have := act_blind h0 ha s'.σ
              rw [this]
              simp [h0]
          · rw [hkσ h0]
      | own a j =>
        simp only [hk] at hkR hkE hkσ
        simp only
        rw [rds_same (fun j hj => hkR j (by simp [hj])) hkE, hkR j (by simp)]
        cases hj : s.R[j]? with
        | none => rfl
        | some ox => cases ox with
          | none => rfl
          | some x =>
            cases hr : rds s.env s.R m.args with
            | none => rfl
            | some xs =>
              simp only
              by_cases h0 : a.sg = 0
              · cases ha : a.act call (x :: xs) s.σ with
                | none =>
                  cases hb : a.act call (x :: xs) s'.σ with
                  | none => rfl
                  | some p => have := act_blind h0 hb s.σ; rw [ha] at this; cases this
                | some p =>
                  have := act_blind h0 ha s'.σ
                  rw [this]
                  simp [h0]
              · rw [hkσ h0]
      | nop k => simp only [hk] at hkR hkE; simp only; rw [hkR i (by simp), hkE k (by simp)]
      | move j => simp only [hk] at hkR hkE; simp only; rw [hkR j (by simp)]
      | mvt j => simp only [hk] at hkR hkE; simp only; rw [hkE j (by simp)]
      | allocBox z => rfl
      | boxBox => simp only [hk] at hkR hkE; simp only; rw [rds_same hkR hkE]
      | loadBox j off n agg => simp only [hk] at hkR hkE; simp only; rw [hkE j (by simp)]
      | takeBox j off => simp only [hk] at hkR hkE; simp only; rw [hkE j (by simp)]
      | storeBox j off n => simp only [hk] at hkR hkE; simp only; rw [hkE j (by simp), rds_same hkR (fun j hj => hkE j (by simp [hj]))]
      | keepBox j off n r => simp only [hk] at hkR hkE; simp only; rw [hkE j (by simp), hkR r (by simp)]
      | boxTake r => simp only [hk] at hkR hkE; simp only; rw [hkR r (by simp)]

theorem plan_foot {call : CallT} {i : Nat} {m : MOper} {s : FS} {u : Upd} (h : plan call i m s = some u) : (∀ p ∈ u.R, p.1 ∈ (foot i m).wR) ∧ (∀ p ∈ u.env, p.1 ∈ (foot i m).wE) ∧ (u.σ ≠ none → (foot i m).sg = 2) := by
  unfold plan at h
  unfold foot kFoot
  split at h
  · cases h
  · cases h
    cases hd : m.dst <;> simp [Upd.put]
  · split at h
    all_goals (rename_i hk; simp only [hk])
    all_goals (repeat' split at h)
    all_goals first | (cases h; done) | skip
    all_goals cases h
    all_goals (cases hd : m.dst <;> simp_all [Upd.put])
end Go.Ab

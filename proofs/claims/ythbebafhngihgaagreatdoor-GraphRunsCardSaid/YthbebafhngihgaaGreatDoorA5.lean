/- The operations that change nothing do what the abstract machine says. No premise but those named. -/
import Derived.Test.YthbebafhngihgaaGreatDoorA4
namespace Go.Ab
open Go

theorem bytes_beq (a b : ByteArray) : (a == b) = decide (a = b) := by
  cases a with | mk x => cases b with | mk y =>
  have : ((ByteArray.mk x == ByteArray.mk y)) = (x == y) := rfl
  rw [this, Bool.eq_iff_iff]
  simp
theorem bytes_toList_beq (a b : ByteArray) : (a.toList == b.toList) = decide (a = b) := by
  rw [Bool.eq_iff_iff, ByteArray.toList_eq, ByteArray.toList_eq]
  cases a; cases b
  simp

section
variable {P : Program} {μ : List Nat} {lim : Nat → Nat} {w : World} {σ σ' : St} {o : Oper} {ρ : Operand → Value} {xs : List V} {x : V} {call : CallT} {opers : List Operand}

theorem run_convert_string {s d : TypeId} (hs : isStr P s = true) (hd : isStr P d = true) (x : ByteArray) : (convert s d (.string x)).run P w = .ok (.string x) w := by
  unfold isStr at hs hd
  cases h1 : P.underlying s with
  | none => simp [h1] at hs
  | some a => cases h2 : P.underlying d with
    | none => simp [h2] at hd
    | some b =>
      cases a <;> simp [h1] at hs
      cases b <;> simp [h2] at hd
      simp [convert, run_underlying h1, run_underlying h2]

theorem run_ibin {op : BinOp} {k : IntKind} {a b : Int} {v : Value} (h : intBin op k a b = some v) (t : TypeId) (x y : Operand) :
    (do eqGuard op t x y (.int k a) (.int k b); binOp op t (.int k a) (.int k b)).run P w = .ok v w ∧ v.noAgg = true := by
  cases op <;> simp only [intBin, bitsBin, wrapF_eq] at h <;> first
    | (cases h; simp [eqGuard, binOp, Op.intArith, Op.intCmp, Op.intBits, Value.noAgg]; done)
    | (split at h <;> first | (cases h; done) | (cases h; rename_i hb; simp [eqGuard, binOp, Op.intDiv, hb, Value.noAgg]; done))
    | (cases h; done)
theorem run_shiftBin {op : BinOp} {k k' : IntKind} {a b : Int} {v : Value} (h : shiftBin op k a b = some v) (t : TypeId) (x y : Operand) :
    (do eqGuard op t x y (.int k a) (.int k' b); binOp op t (.int k a) (.int k' b)).run P w = .ok v w ∧ v.noAgg = true := by
  unfold shiftBin at h
  split at h
  · cases h
  · rename_i hb
    cases op <;> simp [wrapF_eq] at h
    all_goals (subst h; simp [eqGuard, binOp, Op.shift, hb, Value.noAgg])
theorem run_sbin {op : BinOp} {a b : ByteArray} {v : Value} (h : strBin op a b = some v) (t : TypeId) (x y : Operand) :
    (do eqGuard op t x y (.string a) (.string b); binOp op t (.string a) (.string b)).run P w = .ok v w ∧ v.noAgg = true := by
  have e := bytes_toList_beq a b
  have f : strLt a b = Op.bytesLess a.toList b.toList := by unfold strLt; rw [ByteArray.toList_eq, ByteArray.toList_eq]
  cases op <;> simp only [strBin, f, ← e] at h <;> first
    | (cases h; done)
    | (cases h; simp only [eqGuard, binOp, Op.stringOp]; exact ⟨rfl, rfl⟩)
    | skip
  split at h
  · cases h
    refine ⟨?_, rfl⟩
    have : ¬ (((a.size + b.size : Nat) : Int) > IntKind.i64.max) := by
      have : IntKind.i64.max = 9223372036854775807 := by decide
      rw [this]; omega
    simp only [eqGuard, binOp, Op.stringOp, if_neg this]
    rfl
  · cases h

theorem q_mov (hf : fit1 P .mov o.op = some opers) (hx : RelVs μ lim w xs (opers.map ρ)) (ha : A.act call .mov xs σ = some (x, σ')) :
    σ' = σ ∧ Quiet P μ lim w o ρ x := by
  obtain ⟨dst, op, ty, pos, after, guard⟩ := o
  simp only [fit1] at hf
  split at hf
  · cases hf
    obtain ⟨x', rfl, hr⟩ := rel1 hx
    simp only [A.act] at ha; cases ha
    exact ⟨rfl, _, rfl, hr⟩
  · cases hf
    obtain ⟨x', rfl, hr⟩ := rel1 hx
    simp only [A.act] at ha; cases ha
    exact ⟨rfl, _, rfl, hr⟩
  · cases hf

theorem q_lit {v : V} (hf : fit1 P (.lit v) o.op = some opers) (hx : RelVs μ lim w xs (opers.map ρ)) (hρ : ∀ c, ρ (.const c) = c) (ha : A.act call (.lit v) xs σ = some (x, σ')) :
    σ' = σ ∧ x = v ∧ ∃ c, constOK v c = true ∧ (execOp ρ o).run P w = .ok (.value c) w := by
  obtain ⟨dst, op, ty, pos, after, guard⟩ := o
  simp only [fit1] at hf
  split at hf
  case h_3 => cases hf
  all_goals
    rename_i c
    split at hf
    · rename_i hc
      cases hf
      cases xs with
      | cons _ _ => simp only [List.map_nil] at hx; unfold RelVs at hx; exact hx.elim
      | nil => simp only [A.act] at ha; cases ha; exact ⟨rfl, rfl, c, hc, by simp only [execOp, hρ]; rfl⟩
    · cases hf

theorem q_pick (hf : fit1 P .pick o.op = some opers) (hx : RelVs μ lim w xs (opers.map ρ)) (ha : A.act call .pick xs σ = some (x, σ')) :
    σ' = σ ∧ Quiet P μ lim w o ρ x := by
  obtain ⟨dst, op, ty, pos, after, guard⟩ := o
  simp only [fit1] at hf
  split at hf
  case h_2 => cases hf
  cases hf
  obtain ⟨c, y, z, rfl, h1, h2, h3⟩ := rel3 hx
  simp only [A.act, actPick] at ha
  split at ha
  · rename_i b y' z' heq
    simp only [List.cons.injEq, and_true] at heq
    obtain ⟨rfl, rfl, rfl⟩ := heq
    cases ha
    have hb := relSc h1
    refine ⟨rfl, _, by simp only [execOp, hb, asBool, Sem.run_bind, Sem.run_pure, Result.andThen_ok]; rfl, ?_⟩
    cases b
    · simpa using h3
    · simpa using h2
  · cases ha

theorem q_ibin {op : BinOp} (hf : fit1 P (.ibin op) o.op = some opers) (hx : RelVs μ lim w xs (opers.map ρ)) (ha : A.act call (.ibin op) xs σ = some (x, σ')) :
    σ' = σ ∧ Quiet P μ lim w o ρ x := by
  obtain ⟨dst, oop, ty, pos, after, guard⟩ := o
  simp only [fit1] at hf
  split at hf
  case h_2 => cases hf
  rename_i op' t xo yo yt
  split at hf
  case isFalse => cases hf
  rename_i hc
  simp only [Bool.and_eq_true, decide_eq_true_eq] at hc
  obtain ⟨⟨rfl, _⟩, _⟩ := hc
  cases hf
  obtain ⟨y, z, rfl, h1, h2⟩ := rel2 hx
  simp only [A.act, actIbin] at ha
  split at ha
  · rename_i k a k' b heq
    simp only [List.cons.injEq, and_true] at heq
    obtain ⟨rfl, rfl⟩ := heq
    split at ha
    · rename_i hk
      subst hk
      cases hv : intBin op k a b with
      | none => simp [hv] at ha
      | some v =>
        simp [hv] at ha
        obtain ⟨rfl, rfl⟩ := ha
        obtain ⟨hr, hn⟩ := run_ibin (P := P) (w := w) hv t xo yo
        refine ⟨rfl, v, ?_, scRel hn⟩
        simp only [execOp, relSc h1, relSc h2]
        rw [Sem.run_bind, hr]; rfl
    · cases ha
  · cases ha

theorem q_shift {op : BinOp} (hf : fit1 P (.shift op) o.op = some opers) (hx : RelVs μ lim w xs (opers.map ρ)) (ha : A.act call (.shift op) xs σ = some (x, σ')) :
    σ' = σ ∧ Quiet P μ lim w o ρ x := by
  obtain ⟨dst, oop, ty, pos, after, guard⟩ := o
  simp only [fit1] at hf
  split at hf
  case h_2 => cases hf
  rename_i op' t xo yo yt
  split at hf
  case isFalse => cases hf
  rename_i hc
  simp only [Bool.and_eq_true, decide_eq_true_eq] at hc
  obtain ⟨rfl, _⟩ := hc
  cases hf
  obtain ⟨y, z, rfl, h1, h2⟩ := rel2 hx
  simp only [A.act, actShift] at ha
  split at ha
  · rename_i k a k' b heq
    simp only [List.cons.injEq, and_true] at heq
    obtain ⟨rfl, rfl⟩ := heq
    cases hv : shiftBin op k a b with
    | none => simp [hv] at ha
    | some v =>
      simp [hv] at ha
      obtain ⟨rfl, rfl⟩ := ha
      obtain ⟨hr, hn⟩ := run_shiftBin (P := P) (w := w) hv t xo yo
      refine ⟨rfl, v, ?_, scRel hn⟩
      simp only [execOp, relSc h1, relSc h2]
      rw [Sem.run_bind, hr]; rfl
  · cases ha

theorem q_sbin {op : BinOp} (hf : fit1 P (.sbin op) o.op = some opers) (hx : RelVs μ lim w xs (opers.map ρ)) (ha : A.act call (.sbin op) xs σ = some (x, σ')) :
    σ' = σ ∧ Quiet P μ lim w o ρ x := by
  obtain ⟨dst, oop, ty, pos, after, guard⟩ := o
  simp only [fit1] at hf
  split at hf
  case h_2 => cases hf
  rename_i op' t xo yo yt
  split at hf
  case isFalse => cases hf
  rename_i hc
  subst hc
  cases hf
  obtain ⟨y, z, rfl, h1, h2⟩ := rel2 hx
  simp only [A.act, actSbin] at ha
  split at ha
  · rename_i a b heq
    simp only [List.cons.injEq, and_true] at heq
    obtain ⟨rfl, rfl⟩ := heq
    cases hv : strBin op a b with
    | none => simp [hv] at ha
    | some v =>
      simp [hv] at ha
      obtain ⟨rfl, rfl⟩ := ha
      obtain ⟨hr, hn⟩ := run_sbin (P := P) (w := w) hv t xo yo
      refine ⟨rfl, v, ?_, scRel hn⟩
      simp only [execOp, relSc h1, relSc h2]
      rw [Sem.run_bind, hr]; rfl
  · cases ha
end
end Go.Ab

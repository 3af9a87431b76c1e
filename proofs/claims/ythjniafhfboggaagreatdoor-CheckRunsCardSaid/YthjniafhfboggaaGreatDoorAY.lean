/- The operations that change nothing do what the abstract machine says. No premise but those named. -/
import Derived.Test.YthjniafhfboggaaGreatDoorAX
import Derived.MapKept
import Derived.Laws.StructEq
import Derived.ChangeKeysEq
namespace Go.Ab
open Go

theorem bytes_beq (a b : ByteArray) : (a == b) = decide (a = b) := by
  cases a with | mk x => cases b with | mk y =>
  have : ((ByteArray.mk x == ByteArray.mk y)) = (x == y) := rfl
  rw [this, Bool.eq_iff_iff]
  simp
theorem bytes_toList_beq (a b : ByteArray) : (a.toList == b.toList) = decide (a = b) := by
  rw [Bool.eq_iff_iff, ByteArray.toList_eq, ByteArray.toList_eq]
  cases a; cases b
  simp

section
variable {P : Program} {μ : List Nat} {lim : Nat → Nat} {w : World} {σ σ' : St} {o : Oper} {ρ : Operand → Value} {xs : List V} {x : V} {call : CallT} {opers : List Operand}

theorem run_convert_string {s d : TypeId} (hs : isStr P s = true) (hd : isStr P d = true) (x : ByteArray) : (convert s d (.string x)).run P w = .ok (.string x) w := by
  unfold isStr at hs hd
  cases h1 : P.underlying s with
  | none => simp [h1] at hs
  | some a => cases h2 : P.underlying d with
    | none => simp [h2] at hd
    | some b =>
      cases a <;> simp [h1] at hs
      cases b <;> simp [h2] at hd
      simp [convert, run_underlying h1, run_underlying h2]

theorem run_ibin {op : BinOp} {k : IntKind} {a b : Int} {v : Value} (h : intBin op k a b = some v) (t : TypeId) (x y : Operand) :
    (do eqGuard op t x y (.int k a) (.int k b); binOp op t (.int k a) (.int k b)).run P w = .ok v w ∧ v.noAgg = true := by
  cases op <;> simp only [intBin, bitsBin, wrapF_eq] at h <;> first
    | (cases h; simp [eqGuard, binOp, Op.intArith, Op.intCmp, Op.intBits, Value.noAgg]; done)
    | (split at h <;> first | (cases h; done) | (cases h; rename_i hb; simp [eqGuard, binOp, Op.intDiv, hb, Value.noAgg]; done))
    | (cases h; done)
theorem run_shiftBin {op : BinOp} {k k' : IntKind} {a b : Int} {v : Value} (h : shiftBin op k a b = some v) (t : TypeId) (x y : Operand) :
    (do eqGuard op t x y (.int k a) (.int k' b); binOp op t (.int k a) (.int k' b)).run P w = .ok v w ∧ v.noAgg = true := by
  unfold shiftBin at h
  split at h
  · cases h
  · rename_i hb
    cases op <;> simp [wrapF_eq] at h
    all_goals (subst h; simp [eqGuard, binOp, Op.shift, hb, Value.noAgg])
theorem run_sbin {op : BinOp} {a b : ByteArray} {v : Value} (h : strBin op a b = some v) (t : TypeId) (x y : Operand) :
    (do eqGuard op t x y (.string a) (.string b); binOp op t (.string a) (.string b)).run P w = .ok v w ∧ v.noAgg = true := by
  have e := bytes_toList_beq a b
  have f : strLt a b = Op.bytesLess a.toList b.toList := by unfold strLt; rw [ByteArray.toList_eq, ByteArray.toList_eq]
  cases op <;> simp only [strBin, f, ← e] at h <;> first
    | (cases h; done)
    | (cases h; simp only [eqGuard, binOp, Op.stringOp]; exact ⟨rfl, rfl⟩)
    | skip
  split at h
  · cases h
    refine ⟨?_, rfl⟩
    have : ¬ (((a.size + b.size : Nat) : Int) > IntKind.i64.max) := by
      have : IntKind.i64.max = 9223372036854775807 := by decide
      rw [this]; omega
    simp only [eqGuard, binOp, Op.stringOp, if_neg this]
    rfl
  · cases h

theorem q_mov (hf : fit1 P .mov o.op = some opers) (hx : RelVs μ lim w xs (opers.map ρ)) (ha : A.act call .mov xs σ = some (x, σ')) :
    σ' = σ ∧ Quiet P μ lim w o ρ x := by
  obtain ⟨dst, op, ty, pos, after, guard⟩ := o
  simp only [fit1] at hf
  split at hf
  · cases hf
    obtain ⟨x', rfl, hr⟩ := rel1 hx
    simp only [A.act] at ha; cases ha
    exact ⟨rfl, _, rfl, hr⟩
  · cases hf
    obtain ⟨x', rfl, hr⟩ := rel1 hx
    simp only [A.act] at ha; cases ha
    exact ⟨rfl, _, rfl, hr⟩
  · cases hf

theorem q_lit {v : V} (hf : fit1 P (.lit v) o.op = some opers) (hx : RelVs μ lim w xs (opers.map ρ)) (hρ : ∀ c, ρ (.const c) = c) (ha : A.act call (.lit v) xs σ = some (x, σ')) :
    σ' = σ ∧ x = v ∧ ∃ c, constOK v c = true ∧ (execOp ρ o).run P w = .ok (.value c) w := by
  obtain ⟨dst, op, ty, pos, after, guard⟩ := o
  simp only [fit1] at hf
  split at hf
  case h_3 => cases hf
  all_goals
    rename_i c
    split at hf
    · rename_i hc
      cases hf
      cases xs with
      | cons _ _ => simp only [List.map_nil] at hx; unfold RelVs at hx; exact hx.elim
      | nil => simp only [A.act] at ha; cases ha; exact ⟨rfl, rfl, c, hc, by simp only [execOp, hρ]; rfl⟩
    · cases hf

theorem q_pick (hf : fit1 P .pick o.op = some opers) (hx : RelVs μ lim w xs (opers.map ρ)) (ha : A.act call .pick xs σ = some (x, σ')) :
    σ' = σ ∧ Quiet P μ lim w o ρ x := by
  obtain ⟨dst, op, ty, pos, after, guard⟩ := o
  simp only [fit1] at hf
  split at hf
  case h_2 => cases hf
  cases hf
  obtain ⟨c, y, z, rfl, h1, h2, h3⟩ := rel3 hx
  simp only [A.act, actPick] at ha
  split at ha
  · rename_i b y' z' heq
    simp only [List.cons.injEq, and_true] at heq
    obtain ⟨rfl, rfl, rfl⟩ := heq
    cases ha
    have hb := relSc h1
    refine ⟨rfl, _, by simp only [execOp, hb, asBool, Sem.run_bind, Sem.run_pure, Result.andThen_ok]; rfl, ?_⟩
    cases b
    · simpa using h3
    · simpa using h2
  · cases ha

theorem q_ibin {op : BinOp} (hf : fit1 P (.ibin op) o.op = some opers) (hx : RelVs μ lim w xs (opers.map ρ)) (ha : A.act call (.ibin op) xs σ = some (x, σ')) :
    σ' = σ ∧ Quiet P μ lim w o ρ x := by
  obtain ⟨dst, oop, ty, pos, after, guard⟩ := o
  simp only [fit1] at hf
  split at hf
  case h_2 => cases hf
  rename_i op' t xo yo yt
  split at hf
  case isFalse => cases hf
  rename_i hc
  simp only [Bool.and_eq_true, decide_eq_true_eq] at hc
  obtain ⟨⟨rfl, _⟩, _⟩ := hc
  cases hf
  obtain ⟨y, z, rfl, h1, h2⟩ := rel2 hx
  simp only [A.act, actIbin] at ha
  split at ha
  · rename_i k a k' b heq
    simp only [List.cons.injEq, and_true] at heq
    obtain ⟨rfl, rfl⟩ := heq
    split at ha
    · rename_i hk
      subst hk
      cases hv : intBin op k a b with
      | none => simp [hv] at ha
      | some v =>
        simp [hv] at ha
        obtain ⟨rfl, rfl⟩ := ha
        obtain ⟨hr, hn⟩ := run_ibin (P := P) (w := w) hv t xo yo
        refine ⟨rfl, v, ?_, scRel hn⟩
        simp only [execOp, relSc h1, relSc h2]
        rw [Sem.run_bind, hr]; rfl
    · cases ha
  · cases ha

theorem q_shift {op : BinOp} (hf : fit1 P (.shift op) o.op = some opers) (hx : RelVs μ lim w xs (opers.map ρ)) (ha : A.act call (.shift op) xs σ = some (x, σ')) :
    σ' = σ ∧ Quiet P μ lim w o ρ x := by
  obtain ⟨dst, oop, ty, pos, after, guard⟩ := o
  simp only [fit1] at hf
  split at hf
  case h_2 => cases hf
  rename_i op' t xo yo yt
  split at hf
  case isFalse => cases hf
  rename_i hc
  simp only [Bool.and_eq_true, decide_eq_true_eq] at hc
  obtain ⟨rfl, _⟩ := hc
  cases hf
  obtain ⟨y, z, rfl, h1, h2⟩ := rel2 hx
  simp only [A.act, actShift] at ha
  split at ha
  · rename_i k a k' b heq
    simp only [List.cons.injEq, and_true] at heq
    obtain ⟨rfl, rfl⟩ := heq
    cases hv : shiftBin op k a b with
    | none => simp [hv] at ha
    | some v =>
      simp [hv] at ha
      obtain ⟨rfl, rfl⟩ := ha
      obtain ⟨hr, hn⟩ := run_shiftBin (P := P) (w := w) hv t xo yo
      refine ⟨rfl, v, ?_, scRel hn⟩
      simp only [execOp, relSc h1, relSc h2]
      rw [Sem.run_bind, hr]; rfl
  · cases ha

theorem q_sbin {op : BinOp} (hf : fit1 P (.sbin op) o.op = some opers) (hx : RelVs μ lim w xs (opers.map ρ)) (ha : A.act call (.sbin op) xs σ = some (x, σ')) :
    σ' = σ ∧ Quiet P μ lim w o ρ x := by
  obtain ⟨dst, oop, ty, pos, after, guard⟩ := o
  simp only [fit1] at hf
  split at hf
  case h_2 => cases hf
  rename_i op' t xo yo yt
  split at hf
  case isFalse => cases hf
  rename_i hc
  subst hc
  cases hf
  obtain ⟨y, z, rfl, h1, h2⟩ := rel2 hx
  simp only [A.act, actSbin] at ha
  split at ha
  · rename_i a b heq
    simp only [List.cons.injEq, and_true] at heq
    obtain ⟨rfl, rfl⟩ := heq
    cases hv : strBin op a b with
    | none => simp [hv] at ha
    | some v =>
      simp [hv] at ha
      obtain ⟨rfl, rfl⟩ := ha
      obtain ⟨hr, hn⟩ := run_sbin (P := P) (w := w) hv t xo yo
      refine ⟨rfl, v, ?_, scRel hn⟩
      simp only [execOp, relSc h1, relSc h2]
      rw [Sem.run_bind, hr]; rfl
  · cases ha
end
end Go.Ab

namespace Go.Ab
open Go
section
variable {P : Program} {μ : List Nat} {lim : Nat → Nat} {w : World} {σ σ' : St} {o : Oper} {ρ : Operand → Value} {xs : List V} {x : V} {call : CallT} {opers : List Operand}

theorem maxDepth_succ : Op.maxDepth = 9999 + 1 := rfl
theorem equal_bool {t : TypeId} (hu : P.underlying t = some .bool) (a b : Bool) : (Op.equal t (.bool a) (.bool b)).run P w = .ok (a == b) w := by
  rw [Op.equal, maxDepth_succ, Op.equalIn]; simp only [Sem.run_bind, run_underlying hu, Result.andThen_ok, Sem.run_pure]
theorem equal_nilp {t e : TypeId} (hu : P.underlying t = some (.pointer e)) (b : Option Addr) : (Op.equal t (.pointer b) (.pointer none)).run P w = .ok b.isNone w := by
  rw [Op.equal, maxDepth_succ, Op.equalIn]
  cases b <;> simp only [Sem.run_bind, run_underlying hu, Result.andThen_ok, Sem.run_pure] <;> rfl
theorem equal_nili {t : TypeId} {ms} (hu : P.underlying t = some (.interface ms)) : (Op.equal t .nilIface .nilIface).run P w = .ok true w := by
  rw [Op.equal, maxDepth_succ, Op.equalIn]; simp only [Sem.run_bind, run_underlying hu, Result.andThen_ok, Sem.run_pure]
theorem equal_iface_nil {t u : TypeId} {ms} {v : Value} (hu : P.underlying t = some (.interface ms)) : (Op.equal t (.iface u v) .nilIface).run P w = .ok false w := by
  rw [Op.equal, maxDepth_succ, Op.equalIn]; simp only [Sem.run_bind, run_underlying hu, Result.andThen_ok, Sem.run_pure]

theorem cmp_run {c : Cmp} {t : TypeId} {x y : Operand} {a b : Value} {r : Bool} (h : (Op.equal t a b).run P w = .ok r w) (hg : (eqGuard c.op t x y a b).run P w = .ok () w)
    (hb : ∀ op, op = BinOp.eql ∨ op = BinOp.neq → binOp op t a b = (if op = .eql then (do pure (.bool (← Op.equal t a b))) else (do pure (.bool (!(← Op.equal t a b)))))) :
    (do eqGuard c.op t x y a b; binOp c.op t a b).run P w = .ok (.bool (c.on r)) w := by
  rw [Sem.run_bind, hg]
  cases c <;> simp only [Cmp.op, Result.andThen_ok, Cmp.on]
  · rw [hb _ (.inl rfl), if_pos rfl]; simp only [Sem.run_bind, h, Result.andThen_ok, Sem.run_pure]
  · rw [hb _ (.inr rfl), if_neg (by decide)]; simp only [Sem.run_bind, h, Result.andThen_ok, Sem.run_pure]

theorem underlying_of {t : TypeId} {d : TypeDesc} (h : P.underlying t = some d) : (underlying t).run P w = .ok d w := run_underlying h w

theorem q_bbin {c : Cmp} (hf : fit1 P (.bbin c) o.op = some opers) (hx : RelVs μ lim w xs (opers.map ρ)) (ha : A.act call (.bbin c) xs σ = some (x, σ')) :
    σ' = σ ∧ Quiet P μ lim w o ρ x := by
  obtain ⟨dst, op, ty, pos, after, guard⟩ := o
  simp only [fit1] at hf
  split at hf
  case h_2 => cases hf
  rename_i op' t xo yo yt
  split at hf
  case h_2 => cases hf
  rename_i hu
  split at hf
  case isFalse => cases hf
  rename_i hc
  subst hc
  cases hf
  obtain ⟨y, z, rfl, h1, h2⟩ := rel2 hx
  simp only [A.act, actBbin] at ha
  split at ha
  · rename_i a b heq
    simp only [List.cons.injEq, and_true] at heq
    obtain ⟨rfl, rfl⟩ := heq
    cases ha
    refine ⟨rfl, _, ?_, scRel rfl⟩
    simp only [execOp, relSc h1, relSc h2]
    rw [Sem.run_bind, cmp_run (equal_bool hu a b) (by cases c <;> rfl) (by rintro op (rfl | rfl) <;> rfl)]; rfl
  · cases ha

theorem q_nilp {c : Cmp} (hf : fit1 P (.nilp c) o.op = some opers) (hx : RelVs μ lim w xs (opers.map ρ)) (ha : A.act call (.nilp c) xs σ = some (x, σ')) :
    σ' = σ ∧ Quiet P μ lim w o ρ x := by
  obtain ⟨dst, op, ty, pos, after, guard⟩ := o
  simp only [fit1] at hf
  split at hf
  case h_2 => cases hf
  rename_i op' t xo yo yt
  split at hf
  case h_2 => cases hf
  rename_i e hu
  split at hf
  case isFalse => cases hf
  rename_i hc
  subst hc
  cases hf
  obtain ⟨y, z, rfl, h1, h2⟩ := rel2 hx
  simp only [A.act, actNilp] at ha
  split at ha
  · rename_i heq
    simp only [List.cons.injEq, and_true] at heq
    obtain ⟨rfl, rfl⟩ := heq
    cases ha
    refine ⟨rfl, _, ?_, scRel rfl⟩
    simp only [execOp, relSc h1, relSc h2]
    rw [Sem.run_bind, cmp_run (equal_nilp hu none) (by cases c <;> rfl) (by rintro op (rfl | rfl) <;> rfl)]; rfl
  · rename_i i off heq
    simp only [List.cons.injEq, and_true] at heq
    obtain ⟨rfl, rfl⟩ := heq
    cases ha
    have h1' := h1
    unfold RelV at h1'
    obtain ⟨b, _, h3⟩ := h1'
    refine ⟨rfl, _, ?_, scRel rfl⟩
    simp only [execOp, h3, relSc h2]
    rw [Sem.run_bind, cmp_run (equal_nilp hu _) (by cases c <;> rfl) (by rintro op (rfl | rfl) <;> rfl)]; rfl
  · rename_i cs heq
    simp only [List.cons.injEq, and_true] at heq
    obtain ⟨rfl, rfl⟩ := heq
    cases ha
    have h1' := h1
    unfold RelV at h1'
    obtain ⟨b, off, h3, _⟩ := h1'
    refine ⟨rfl, _, ?_, scRel rfl⟩
    simp only [execOp, h3, relSc h2]
    rw [Sem.run_bind, cmp_run (equal_nilp hu _) (by cases c <;> rfl) (by rintro op (rfl | rfl) <;> rfl)]; rfl
  · cases ha

theorem equal_slice {t e : TypeId} (hu : P.underlying t = some (.slice e)) (a : Addr) (n c : Nat) : (Op.equal t (.slice (some a) n c) (.slice none 0 0)).run P w = .ok false w := by
  rw [Op.equal, maxDepth_succ, Op.equalIn]; simp only [Sem.run_bind, run_underlying hu, Result.andThen_ok, Sem.run_pure]
theorem q_nilsl {c : Cmp} (hρ : ∀ c, ρ (.const c) = c) (hf : fit1 P (.nilsl c) o.op = some opers) (hx : RelVs μ lim w xs (opers.map ρ)) (ha : A.act call (.nilsl c) xs σ = some (x, σ')) :
    σ' = σ ∧ Quiet P μ lim w o ρ x := by
  obtain ⟨dst, op, ty, pos, after, guard⟩ := o
  simp only [fit1] at hf
  split at hf
  case h_2 => cases hf
  rename_i op' t xo yt
  split at hf
  case h_2 => cases hf
  rename_i e hu
  split at hf
  case isFalse => cases hf
  rename_i hc
  subst hc
  cases hf
  obtain ⟨y, rfl, h1⟩ := rel1 hx
  have fin : ∀ a n cap, ρ xo = .slice (some a) n cap → x = .bool (c.on false) → Quiet P μ lim w ⟨dst, .binOp c.op t xo (.const (.slice none 0 0)) yt, ty, pos, after, guard⟩ ρ x := by
    rintro a n cap h3 rfl
    refine ⟨_, ?_, scRel rfl⟩
    simp only [execOp, h3, hρ]
    rw [Sem.run_bind, cmp_run (equal_slice hu _ _ _) (by cases c <;> rfl) (by rintro op (rfl | rfl) <;> rfl)]; rfl
  simp only [A.act, actNilsl] at ha
  unfold RelV at h1
  split at ha
  · rename_i heq
    simp only [List.cons.injEq, and_true] at heq
    subst heq
    cases ha
    obtain ⟨b, cap, _, _, _, h3, _⟩ := h1
    exact ⟨rfl, fin _ _ _ h3 rfl⟩
  · rename_i heq
    simp only [List.cons.injEq, and_true] at heq
    subst heq
    cases ha
    obtain ⟨base, cap, h3, ⟨h4, _⟩, _, h5⟩ := h1
    cases base with
    | none => simp only at h5; simp at h4; omega
    | some a => exact ⟨rfl, fin _ _ _ h3 rfl⟩
  · cases ha

theorem q_nilif {c : Cmp} (hρ : ∀ c, ρ (.const c) = c) (hf : fit1 P (.nilif c) o.op = some opers) (hx : RelVs μ lim w xs (opers.map ρ)) (ha : A.act call (.nilif c) xs σ = some (x, σ')) :
    σ' = σ ∧ Quiet P μ lim w o ρ x := by
  obtain ⟨dst, op, ty, pos, after, guard⟩ := o
  simp only [fit1] at hf
  split at hf
  case h_2 => cases hf
  rename_i op' t xo yt
  split at hf
  case h_2 => cases hf
  rename_i ms hu
  split at hf
  case isFalse => cases hf
  rename_i hc
  subst hc
  cases hf
  obtain ⟨y, z, rfl, h1, h2⟩ := rel2 hx
  simp only [A.act, actNilif] at ha
  split at ha
  · rename_i heq
    simp only [List.cons.injEq, and_true] at heq
    obtain ⟨rfl, rfl⟩ := heq
    cases ha
    refine ⟨rfl, _, ?_, scRel rfl⟩
    simp only [execOp, relSc h1, hρ]
    rw [Sem.run_bind, cmp_run (equal_nili hu) (by cases c <;> simp [eqGuard, Cmp.op]) (by rintro op (rfl | rfl) <;> rfl)]; rfl
  · rename_i t' v heq
    simp only [List.cons.injEq, and_true] at heq
    obtain ⟨rfl, rfl⟩ := heq
    cases ha
    unfold RelV at h1
    obtain ⟨yy, h3, _⟩ := h1
    refine ⟨rfl, _, ?_, scRel rfl⟩
    simp only [execOp, h3, hρ]
    rw [Sem.run_bind, cmp_run (equal_iface_nil hu) (by cases c <;> rfl) (by rintro op (rfl | rfl) <;> rfl)]; rfl
  · cases ha

theorem q_not (hf : fit1 P (.not) o.op = some opers) (hx : RelVs μ lim w xs (opers.map ρ)) (ha : A.act call (.not) xs σ = some (x, σ')) :
    σ' = σ ∧ Quiet P μ lim w o ρ x := by
  obtain ⟨dst, op, ty, pos, after, guard⟩ := o
  simp only [fit1] at hf
  split at hf
  case h_2 => cases hf
  cases hf
  obtain ⟨y, rfl, h1⟩ := rel1 hx
  simp only [A.act, actNot] at ha
  split at ha
  · rename_i b heq
    simp only [List.cons.injEq, and_true] at heq
    subst heq
    cases ha
    exact ⟨rfl, _, by simp [execOp, relSc h1, Op.unary], scRel rfl⟩
  · cases ha

theorem q_neg (hf : fit1 P (.neg) o.op = some opers) (hx : RelVs μ lim w xs (opers.map ρ)) (ha : A.act call (.neg) xs σ = some (x, σ')) :
    σ' = σ ∧ Quiet P μ lim w o ρ x := by
  obtain ⟨dst, op, ty, pos, after, guard⟩ := o
  simp only [fit1] at hf
  split at hf
  case h_2 => cases hf
  cases hf
  obtain ⟨y, rfl, h1⟩ := rel1 hx
  simp only [A.act, actNeg, wrapF_eq] at ha
  split at ha
  · rename_i k b heq
    simp only [List.cons.injEq, and_true] at heq
    subst heq
    cases ha
    exact ⟨rfl, .int k (k.wrap (0 - b)), by simp [execOp, relSc h1, Op.unary, Op.intArith], scRel rfl⟩
  · cases ha

theorem q_conv {k : IntKind} (hf : fit1 P (.conv k) o.op = some opers) (hx : RelVs μ lim w xs (opers.map ρ)) (ha : A.act call (.conv k) xs σ = some (x, σ')) :
    σ' = σ ∧ Quiet P μ lim w o ρ x := by
  obtain ⟨dst, op, ty, pos, after, guard⟩ := o
  simp only [fit1] at hf
  split at hf
  case h_2 => cases hf
  rename_i s d xo
  split at hf
  case isFalse => cases hf
  rename_i hc
  cases hf
  simp only [Bool.and_eq_true] at hc
  obtain ⟨hs, hd⟩ := hc
  obtain ⟨y, rfl, h1⟩ := rel1 hx
  simp only [A.act, actConv, wrapF_eq] at ha
  split at ha
  · rename_i k' n heq
    simp only [List.cons.injEq, and_true] at heq
    subst heq
    cases ha
    unfold isInt at hd
    unfold Ab.isSome at hs
    obtain ⟨ds, hs'⟩ := Option.isSome_iff_exists.1 hs
    split at hd
    · rename_i kk hd'
      simp only [beq_iff_eq] at hd
      subst hd
      exact ⟨rfl, _, by simp [execOp, relSc h1, convert, run_underlying hs', run_underlying hd', Conv.intToInt], scRel rfl⟩
    · cases hd
  · cases ha

theorem q_mkIface {t : TypeId} (hf : fit1 P (.mkIface t) o.op = some opers) (hx : RelVs μ lim w xs (opers.map ρ)) (ha : A.act call (.mkIface t) xs σ = some (x, σ')) :
    σ' = σ ∧ Quiet P μ lim w o ρ x := by
  obtain ⟨dst, op, ty, pos, after, guard⟩ := o
  simp only [fit1] at hf
  split at hf
  case h_2 => cases hf
  rename_i u xo
  split at hf
  case isFalse => cases hf
  rename_i hc
  cases hf
  simp only [Bool.and_eq_true, decide_eq_true_eq] at hc
  obtain ⟨rfl, hc⟩ := hc
  obtain ⟨y, rfl, h1⟩ := rel1 hx
  simp only [A.act, actMkIface] at ha
  cases ha
  refine ⟨rfl, _, by simp [execOp, run_makeInterface, hc]; rfl, ?_⟩
  unfold RelV
  exact ⟨_, rfl, relV_erase.2 h1⟩

theorem q_nilCheck (hf : fit1 P (.nilCheck) o.op = some opers) (hx : RelVs μ lim w xs (opers.map ρ)) (ha : A.act call (.nilCheck) xs σ = some (x, σ')) :
    σ' = σ ∧ Quiet P μ lim w o ρ x := by
  obtain ⟨dst, op, ty, pos, after, guard⟩ := o
  simp only [fit1] at hf
  split at hf
  case h_2 => cases hf
  cases hf
  obtain ⟨y, rfl, h1⟩ := rel1 hx
  simp only [A.act, actNilCheck] at ha
  split at ha
  · rename_i id off heq
    simp only [List.cons.injEq, and_true] at heq
    subst heq
    cases ha
    have h1' := h1
    unfold RelV at h1'
    obtain ⟨b, _, h3⟩ := h1'
    exact ⟨rfl, _, by simp [execOp, h3]; rfl, by rw [← h3]; exact h1⟩
  · rename_i cs heq
    simp only [List.cons.injEq, and_true] at heq
    subst heq
    cases ha
    have h1' := h1
    unfold RelV at h1'
    obtain ⟨b, off, h3, _⟩ := h1'
    exact ⟨rfl, _, by simp [execOp, h3]; rfl, by rw [← h3]; exact h1⟩
  · cases ha

theorem add_at (b o n : Nat) : (⟨b, o, none⟩ : Addr).add n = ⟨b, o + n, none⟩ := by
  unfold Addr.add; split
  · rename_i h; subst h; rfl
  · rfl

theorem fieldIs_spec {t f off ft : TypeId} (h : fieldIs P t f off = some ft) : ∃ fs fd, P.underlying t = some (.struct fs) ∧ fs[f]? = some fd ∧ fd.offset = off ∧ fd.type = ft := by
  unfold fieldIs at h
  split at h
  · rename_i fs hu
    split at h
    · rename_i fd hfd
      split at h
      · rename_i ho
        cases h
        exact ⟨fs, fd, hu, hfd, ho, rfl⟩
      · cases h
    · cases h
  · cases h

theorem run_fieldAt {t f off ft : TypeId} {i : TypeInfo} (h : fieldIs P t f off = some ft) (hi : P.info? ft = some i) (hz : i.size ≠ 0) (b p : Nat) :
    (Instr.fieldAt t (.pointer (some ⟨b, p, none⟩)) f).run P w = .ok (.pointer (some ⟨b, p + off, none⟩)) w := by
  obtain ⟨fs, fd, hu, hfd, ho, ht⟩ := fieldIs_spec h
  have hs : (sizeOf fd.type).run P w = .ok i.size w := by rw [ht]; simp [sizeOf, typeInfo, hi]
  simp [Instr.fieldAt, run_underlying hu, hfd, Instr.sureAddr, fieldPlace, hs, hz, add_at, ho]

theorem q_fieldAddr {off : Nat} (hf : fit1 P (.fieldAddr off) o.op = some opers) (hx : RelVs μ lim w xs (opers.map ρ)) (ha : A.act call (.fieldAddr off) xs σ = some (x, σ')) :
    σ' = σ ∧ Quiet P μ lim w o ρ x := by
  obtain ⟨dst, op, ty, pos, after, guard⟩ := o
  simp only [fit1] at hf
  split at hf
  case h_2 => cases hf
  rename_i t xo f
  split at hf
  case h_2 => cases hf
  rename_i ft hft
  split at hf
  case h_2 => cases hf
  rename_i i hi
  split at hf
  case isTrue => cases hf
  rename_i hz
  cases hf
  obtain ⟨y, rfl, h1⟩ := rel1 hx
  simp only [A.act, actFieldAddr] at ha
  split at ha
  · rename_i id p heq
    simp only [List.cons.injEq, and_true] at heq
    subst heq
    cases ha
    unfold RelV at h1
    obtain ⟨b, hb, h3⟩ := h1
    refine ⟨rfl, .pointer (some ⟨b, p + off, none⟩), by simp [execOp, h3, run_fieldAt hft hi hz], ?_⟩
    unfold RelV; exact ⟨b, hb, rfl⟩
  · rename_i cs heq
    simp only [List.cons.injEq, and_true] at heq
    subst heq
    cases ha
    unfold RelV at h1
    obtain ⟨b, p, h3, hr⟩ := h1
    refine ⟨rfl, .pointer (some ⟨b, p + off, none⟩), by simp [execOp, h3, run_fieldAt hft hi hz], ?_⟩
    unfold RelV; exact ⟨b, p + off, rfl, hr.drop off⟩
  · cases ha

/-- A part of a row of values. -/
theorem part_rel {cs : List V} {ys : Array Value} {off n : Nat} {agg : Bool} {t : TypeId} (h : RelVs μ lim w cs ys.toList) (hp : part cs off n agg = some x)
    (hs : isSize P t n = true) (hg : isAggB P t agg = true) : ∃ X, (Go.part t ys off).run P w = .ok X w ∧ RelV μ lim w x X := by
  unfold part at hp
  split at hp
  case isFalse => cases hp
  rename_i hl
  have hlen := h.length
  simp only [Go.part, Sem.run_bind, run_isAgg hg, Result.andThen_ok]
  cases agg with
  | true =>
    simp only [if_true] at hp
    cases hp
    refine ⟨.agg (ys.extract off (off + n)), by simp [run_sizeOf hs], ?_⟩
    unfold RelV
    refine ⟨_, rfl, ?_⟩
    rw [Array.toList_extract, List.extract_eq_take_drop, Nat.add_sub_cancel_left]
    exact (h.drop off).take n
  | false =>
    simp only [Bool.false_eq_true, if_false] at hp
    split at hp
    case isFalse => cases hp
    obtain ⟨X, hX, hr⟩ := h.get hp
    have : ys[off]? = some X := by rw [← hX, Array.getElem?_toList]
    exact ⟨X, by simp [this], hr⟩

theorem q_field {off n : Nat} {agg : Bool} (hf : fit1 P (.field off n agg) o.op = some opers) (hx : RelVs μ lim w xs (opers.map ρ)) (ha : A.act call (.field off n agg) xs σ = some (x, σ')) :
    σ' = σ ∧ Quiet P μ lim w o ρ x := by
  obtain ⟨dst, op, ty, pos, after, guard⟩ := o
  simp only [fit1] at hf
  split at hf
  case h_2 => cases hf
  rename_i t xo f
  split at hf
  case h_2 => cases hf
  rename_i ft hft
  split at hf
  case isFalse => cases hf
  rename_i hc
  simp only [Bool.and_eq_true] at hc
  cases hf
  obtain ⟨y, rfl, h1⟩ := rel1 hx
  simp only [A.act, actField] at ha
  split at ha
  · rename_i cs heq
    simp only [List.cons.injEq, and_true] at heq
    subst heq
    simp only [Option.map_eq_some_iff, Prod.mk.injEq] at ha
    obtain ⟨v, hv, rfl, rfl⟩ := ha
    unfold RelV at h1
    obtain ⟨ys, h3, hr⟩ := h1
    obtain ⟨X, hX, hrel⟩ := part_rel (P := P) (t := ft) hr hv hc.1 hc.2
    obtain ⟨fs, fd, hu, hfd, ho, ht⟩ := fieldIs_spec hft
    refine ⟨rfl, X, ?_, hrel⟩
    subst ho; subst ht
    simp [execOp, h3, Instr.field, run_underlying hu, hfd, asAgg, hX]
  · cases ha

theorem run_loadCells_rel {b o n : Nat} {cs : List V} (h : ∀ (k : Nat) (v : V), cs[k]? = some v → ∃ c, w.cell? ⟨b, o + k, none⟩ = some c ∧ RelV μ lim w v c ∧ c.oneCell = true) (hn : cs.length = n) :
    ∃ X : Array Value, (loadCells ⟨b, o, none⟩ n).run P w = .ok X w ∧ RelVs μ lim w cs X.toList ∧ ∀ y ∈ X.toList, y.oneCell = true := by
  let f : Nat → Value := fun k => (w.cell? ⟨b, o + k, none⟩).getD undef
  have hc : ∀ j, j < n → w.cell? ((⟨b, o, none⟩ : Addr).add j) = some (f j) := by
    intro j hj
    obtain ⟨c, hc, _⟩ := h j cs[j] (List.getElem?_eq_getElem (by omega))
    simp [add_at, f, hc]
  refine ⟨_, run_loadCells w ⟨b, o, none⟩ n f hc, RelVs.of_get (by simp [hn]) ?_, ?_⟩
  case refine_2 =>
    intro y hy
    simp only [List.mem_map, List.mem_range] at hy
    obtain ⟨k, hk, rfl⟩ := hy
    obtain ⟨c, hc', _, h1⟩ := h k cs[k] (List.getElem?_eq_getElem (by omega))
    simp only [f, hc', Option.getD_some]; exact h1
  intro k v x hv hx
  obtain ⟨c, hc', hr⟩ := h k v hv
  have hk : k < n := by rw [← hn]; exact (List.getElem?_eq_some_iff.1 hv).1
  simp [List.getElem?_map, List.getElem?_range hk] at hx
  subst hx
  simp [f, hc']; exact hr.1

theorem run_loadVar_rel {t : TypeId} {b o n : Nat} {agg : Bool} {cs : List V} (hp : part cs 0 n agg = some x)
    (h : ∀ (k : Nat) (v : V), cs[k]? = some v → ∃ c, w.cell? ⟨b, o + k, none⟩ = some c ∧ RelV μ lim w v c ∧ c.oneCell = true)
    (hs : isSize P t n = true) (hg : isAggB P t agg = true) :
    ∃ X, (Instr.loadAt t (.pointer (some ⟨b, o, none⟩))).run P w = .ok X w ∧ RelV μ lim w x X := by
  unfold part at hp
  split at hp
  case isFalse => cases hp
  rename_i hl
  simp only [Instr.loadAt, Instr.sureAddr, Sem.run_bind, Sem.run_pure, Result.andThen_ok, loadVar, run_isAgg hg]
  cases agg with
  | true =>
    simp only [if_true, List.drop_zero] at hp
    cases hp
    obtain ⟨X, hX, hr⟩ := run_loadCells_rel (P := P) (n := n) (cs := cs.take n) (fun k v hv => by
      rw [List.getElem?_take] at hv; split at hv
      · exact h k v hv
      · simp at hv) (by simp; omega)
    refine ⟨.agg X, by simp [run_sizeOf hs, hX], ?_⟩
    unfold RelV; exact ⟨_, rfl, hr.1⟩
  | false =>
    simp only [Bool.false_eq_true, if_false] at hp
    split at hp
    case isFalse => cases hp
    obtain ⟨X, hX, hr⟩ := h 0 x hp
    exact ⟨X, by simp at hX; simp [hX], hr.1⟩

theorem q_load {n : Nat} {agg : Bool} (hw : WRel μ lim w σ) (hf : fit1 P (.load n agg) o.op = some opers) (hx : RelVs μ lim w xs (opers.map ρ)) (ha : A.act call (.load n agg) xs σ = some (x, σ')) :
    σ' = σ ∧ Quiet P μ lim w o ρ x := by
  obtain ⟨dst, op, ty, pos, after, guard⟩ := o
  simp only [fit1] at hf
  split at hf
  case h_2 => cases hf
  rename_i t xo
  split at hf
  case isFalse => cases hf
  rename_i hc
  simp only [Bool.and_eq_true] at hc
  cases hf
  obtain ⟨y, rfl, h1⟩ := rel1 hx
  simp only [A.act, actLoad] at ha
  split at ha
  · rename_i id off heq
    simp only [List.cons.injEq, and_true] at heq
    subst heq
    split at ha
    · rename_i ob ho
      split at ha
      · rename_i cs hcs
        simp only [Option.map_eq_some_iff, Prod.mk.injEq] at ha
        obtain ⟨v, hv, rfl, rfl⟩ := ha
        unfold RelV at h1
        obtain ⟨b, hb, h3⟩ := h1
        have hob := (hw.obj id b _ ho hb).cellsOf hcs
        have hp : part (cs.drop off) 0 n agg = some v := by
          unfold part at hv ⊢
          split at hv
          · rename_i hl
            rw [if_pos (by simp; omega)]
            simpa using hv
          · cases hv
        obtain ⟨X, hX, hr⟩ := run_loadVar_rel (P := P) (w := w) (b := b) (o := off) hp (fun k v' hv' => by
          rw [List.getElem?_drop] at hv'
          exact hob.2.2.2 _ _ hv') hc.1.1 hc.1.2
        exact ⟨rfl, X, by simp [execOp, h3, hX], hr⟩
      · cases ha
    · cases ha
  · rename_i cs heq
    simp only [List.cons.injEq, and_true] at heq
    subst heq
    simp only [Option.map_eq_some_iff, Prod.mk.injEq] at ha
    obtain ⟨v, hv, rfl, rfl⟩ := ha
    unfold RelV at h1
    obtain ⟨b, off, h3, hr⟩ := h1
    obtain ⟨X, hX, hrel⟩ := run_loadVar_rel (P := P) (w := w) (b := b) (o := off) hv (fun k v' hv' => (hr.get hv').2) hc.1.1 hc.1.2
    exact ⟨rfl, X, by simp [execOp, h3, hX], hrel⟩
  · cases ha

theorem q_loadT {t : TypeId} {off : Nat} (hw : WRel μ lim w σ) (hf : fit1 P (.loadT t off) o.op = some opers) (hx : RelVs μ lim w xs (opers.map ρ)) (ha : A.act call (.loadT t off) xs σ = some (x, σ')) :
    σ' = σ ∧ Quiet P μ lim w o ρ x := by
  refine q_load (call := call) (n := 1) (agg := false) hw ?_ hx ?_
  · simp only [fit1] at hf ⊢
    split at hf
    case h_2 => cases hf
    split at hf
    case isFalse => cases hf
    rename_i hc
    rw [if_pos (by simp only [Bool.and_eq_true] at hc ⊢; exact ⟨hc, rfl⟩)]
    exact hf
  · simp only [A.act, actLoadT, actLoad] at ha ⊢
    split at ha
    case h_2 => cases ha
    rename_i id off'
    split at ha
    case isFalse => cases ha
    rename_i ho
    subst ho
    split at ha
    case h_2 => cases ha
    rename_i u cs hcs
    split at ha
    case isFalse => cases ha
    obtain ⟨v, hv, hvx⟩ := Option.map_eq_some_iff.1 ha
    cases hvx
    simp only [hcs, Obj.cs]
    have hl := (List.getElem?_eq_some_iff.1 hv).1
    unfold part
    rw [if_pos (by omega)]
    simp [hv]

theorem sliceElem_spec {t e : TypeId} (h : sliceElem P t = some e) : P.underlying t = some (.slice e) := by
  unfold sliceElem at h
  split at h
  · rename_i hu; cases h; exact hu
  · cases h

theorem q_indexAddr {sz : Nat} (hf : fit1 P (.indexAddr sz) o.op = some opers) (hx : RelVs μ lim w xs (opers.map ρ)) (ha : A.act call (.indexAddr sz) xs σ = some (x, σ')) :
    σ' = σ ∧ Quiet P μ lim w o ρ x := by
  obtain ⟨dst, op, ty, pos, after, guard⟩ := o
  simp only [fit1] at hf
  split at hf
  case h_2 => cases hf
  rename_i t xo io
  split at hf
  case h_2 => cases hf
  rename_i e he
  have hu := sliceElem_spec he
  split at hf
  case isFalse => cases hf
  rename_i hs
  cases hf
  obtain ⟨y, z, rfl, h1, h2⟩ := rel2 hx
  simp only [A.act, actIndexAddr] at ha
  split at ha
  · rename_i own sz' l k i heq
    simp only [List.cons.injEq, and_true] at heq
    obtain ⟨rfl, rfl⟩ := heq
    split at ha
    · rename_i hc
      obtain ⟨rfl, hi⟩ := hc
      simp only [Option.map_eq_some_iff, Prod.mk.injEq] at ha
      obtain ⟨cs, hcs, rfl, rfl⟩ := ha
      have hlt := (List.getElem?_eq_some_iff.1 hcs).1
      unfold RelV at h1
      obtain ⟨base, cap, h3, h4, h5, h6⟩ := h1
      cases base with
      | none => simp only at h6; omega
      | some a =>
        obtain ⟨blk, of, sp⟩ := a
        simp only at h6
        obtain ⟨rfl, h6⟩ := h6
        have hg := h6.get hcs
        refine ⟨rfl, .pointer (some ⟨blk, of + i.toNat * sz, none⟩), ?_, ?_⟩
        · have hb : 0 ≤ i ∧ i < (l.length : Int) := ⟨hi, by omega⟩
          simp [execOp, h3, relSc h2, Instr.indexAt, asIntOf, run_underlying hu, hb, run_sizeOf hs, add_at]
        · unfold RelV; exact ⟨_, _, rfl, hg.2⟩
    · cases ha
  · rename_i id off n sz' k i heq
    simp only [List.cons.injEq, and_true] at heq
    obtain ⟨rfl, rfl⟩ := heq
    split at ha
    · rename_i hc
      obtain ⟨rfl, hi, hn⟩ := hc
      cases ha
      unfold RelV at h1
      obtain ⟨b, cap, h3, h4, h5, h6, h7⟩ := h1
      refine ⟨rfl, .pointer (some ⟨b, off + i.toNat * sz, none⟩), ?_, ?_⟩
      · have hb : 0 ≤ i ∧ i < (n : Int) := ⟨hi, hn⟩
        simp [execOp, h6, relSc h2, Instr.indexAt, asIntOf, run_underlying hu, hb, run_sizeOf hs, add_at]
      · unfold RelV; exact ⟨b, h3, rfl⟩
    · cases ha
  · cases ha

theorem q_imin (hf : fit1 P .imin o.op = some opers) (hx : RelVs μ lim w xs (opers.map ρ)) (ha : A.act call .imin xs σ = some (x, σ')) :
    σ' = σ ∧ Quiet P μ lim w o ρ x := by
  obtain ⟨dst, op, ty, pos, after, guard⟩ := o
  simp only [fit1] at hf
  split at hf
  case h_2 => cases hf
  rename_i c
  obtain ⟨callee, args, argTypes⟩ := c
  split at hf
  case h_2 => cases hf
  rename_i xo yo hcal hargs
  simp only at hcal hargs
  subst hcal
  obtain rfl : args = #[xo, yo] := by rw [← Array.toList_inj]; simpa using hargs
  cases hf
  obtain ⟨y, z, rfl, h1, h2⟩ := rel2 hx
  simp only [A.act, actImin] at ha
  split at ha
  case h_2 => cases ha
  rename_i k a k' b heq
  simp only [List.cons.injEq, and_true] at heq
  obtain ⟨rfl, rfl⟩ := heq
  cases ha
  refine ⟨rfl, _, ?_, scRel rfl⟩
  simp [execOp, resolve, invoke, builtin, Builtin.min_, Builtin.min2, relSc h1, relSc h2]

theorem q_extract {i : Nat} (hf : fit1 P (.extract i) o.op = some opers) (hx : RelVs μ lim w xs (opers.map ρ)) (ha : A.act call (.extract i) xs σ = some (x, σ')) :
    σ' = σ ∧ Quiet P μ lim w o ρ x := by
  obtain ⟨dst, op, ty, pos, after, guard⟩ := o
  simp only [fit1] at hf
  split at hf
  case h_2 => cases hf
  rename_i xo j
  split at hf
  case isFalse => cases hf
  rename_i hij
  subst hij
  cases hf
  obtain ⟨y, rfl, h1⟩ := rel1 hx
  simp only [A.act, actExtract] at ha
  split at ha
  · rename_i vs heq
    simp only [List.cons.injEq, and_true] at heq
    subst heq
    simp only [Option.map_eq_some_iff, Prod.mk.injEq] at ha
    obtain ⟨v, hv, rfl, rfl⟩ := ha
    unfold RelV at h1
    obtain ⟨ys, h3, hr⟩ := h1
    obtain ⟨X, hX, hrel⟩ := hr.get hv
    rw [Array.getElem?_toList] at hX
    exact ⟨rfl, X, by simp [execOp, h3, Instr.extract, hX], hrel⟩
  · cases ha

theorem getMap_spec {id : Nat} {es : List (V × V)} (h : σ.getMap id = some es) : σ.objs[id]? = some (.map es) := by
  unfold St.getMap at h
  split at h
  · rename_i ho; cases h; exact ho
  · cases h
theorem getMapL_obj {id b : Nat} {es : List (V × V)} (hw : WRel μ lim w σ) (h : σ.getMapL id = some es) (hb : μ[id]? = some b) : ∃ (ents : Array MapEntry) (n : Nat), w.heap[b]? = some (.map ents n) ∧ ents.size = es.length ∧
    ∀ (i : Nat) (k v : V), es[i]? = some (k, v) → ∃ e, ents[i]? = some e ∧ RelV μ lim w k e.key ∧ RelV μ lim w v e.val := by
  unfold St.getMapL at h
  split at h
  · rename_i ho
    cases h
    obtain ⟨_, ents, h1, h2, h3⟩ := hw.obj id b _ ho hb
    exact ⟨ents, _, h1, h2, fun i k v hi => by obtain ⟨e, q1, q2, q3, _⟩ := h3 i k v hi; exact ⟨e, q1, q2, q3⟩⟩
  · rename_i ho
    cases h
    obtain ⟨_, ents, n, h1, h2, h3⟩ := hw.obj id b _ ho hb
    exact ⟨ents, n, h1, h2, h3⟩
  · cases h
theorem get_spec {id : Nat} {cs : List V} (h : σ.get id = some cs) : σ.objs[id]? = some (.cells cs) := by
  unfold St.get at h
  split at h
  · rename_i ho; cases h; exact ho
  · cases h
theorem run_getObj_map {b : Nat} {es : Array MapEntry} {k : Nat} (h : w.heap[b]? = some (.map es k)) : (getObj b).run P w = .ok (.map es k) w := by
  simp only [getObj, Sem.run, h]

theorem q_len {k : Nat} (hw : WRel μ lim w σ) (hf : fit1 P (.len k) o.op = some opers) (hx : RelVs μ lim w xs (opers.map ρ)) (ha : A.act call (.len k) xs σ = some (x, σ')) :
    σ' = σ ∧ Quiet P μ lim w o ρ x := by
  obtain ⟨dst, op, ty, pos, after, guard⟩ := o
  simp only [fit1] at hf
  split at hf
  case h_2 => cases hf
  rename_i c
  obtain ⟨callee, args, argTypes⟩ := c
  split at hf
  case h_2 => cases hf
  rename_i xo t hcal hargs htys
  simp only at hcal hargs htys
  subst hcal
  obtain rfl : args = #[xo] := by rw [← Array.toList_inj]; simpa using hargs
  obtain rfl : argTypes = #[t] := by rw [← Array.toList_inj]; simpa using htys
  have ex : ∀ X v, ρ xo = X → (Builtin.len_ #[t] ty #[X]).run P w = .ok v w → (execOp ρ ⟨dst, .call { callee := .builtin .len, args := #[xo], argTypes := #[t] }, ty, pos, after, guard⟩).run P w = .ok (.value v) w := by
    intro X v hX hv
    simp [execOp, resolve, invoke, builtin, hX, hv]
  have ho : opers = [xo] ∧ ((k = 1 ∧ P.underlying t = some .string) ∨ (k = 0 ∧ ∃ e, P.underlying t = some (.slice e)) ∨ (k = 2 ∧ ∃ k v, P.underlying t = some (.map k v))) := by
    split at hf <;> first
      | (split at hf
         · rename_i hu hk; cases hf; exact ⟨rfl, by simp [hu, hk]⟩
         · cases hf)
      | cases hf
  obtain ⟨rfl, hu⟩ := ho
  obtain ⟨y, rfl, h1⟩ := rel1 hx
  simp only [A.act, actLen] at ha
  split at ha
  · rename_i own sz l heq
    simp only [List.cons.injEq, and_true] at heq
    subst heq
    split at ha
    · rename_i hk
      cases ha
      unfold RelV at h1
      obtain ⟨base, cap, h3, _⟩ := h1
      obtain ⟨e, hu⟩ : ∃ e, P.underlying t = some (.slice e) := by
        rcases hu with ⟨h, _⟩ | ⟨_, h⟩ | ⟨h, _⟩ <;> first | exact h | omega
      exact ⟨rfl, _, ex _ _ h3 (by simp [Builtin.len_, run_underlying hu, goInt]), scRel rfl⟩
    · cases ha
  · rename_i id off n sz heq
    simp only [List.cons.injEq, and_true] at heq
    subst heq
    split at ha
    · rename_i hk
      cases ha
      unfold RelV at h1
      obtain ⟨b, cap, _, _, _, h3, _⟩ := h1
      obtain ⟨e, hu⟩ : ∃ e, P.underlying t = some (.slice e) := by
        rcases hu with ⟨h, _⟩ | ⟨_, h⟩ | ⟨h, _⟩ <;> first | exact h | omega
      exact ⟨rfl, _, ex _ _ h3 (by simp [Builtin.len_, run_underlying hu, goInt]), scRel rfl⟩
    · cases ha
  · rename_i b heq
    simp only [List.cons.injEq, and_true] at heq
    subst heq
    split at ha
    · rename_i hk
      cases ha
      have hu : P.underlying t = some .string := by
        rcases hu with ⟨_, h⟩ | ⟨h, _⟩ | ⟨h, _⟩ <;> first | exact h | omega
      exact ⟨rfl, _, ex _ _ (relSc h1) (by simp [Builtin.len_, run_underlying hu, goInt]), scRel rfl⟩
    · cases ha
  · rename_i id heq
    simp only [List.cons.injEq, and_true] at heq
    subst heq
    split at ha
    · rename_i hk
      split at ha
      · rename_i es hes
        cases ha
        unfold RelV at h1
        obtain ⟨b, hb, h3⟩ := h1
        obtain ⟨kt, vt, hu⟩ : ∃ k v, P.underlying t = some (.map k v) := by
          rcases hu with ⟨h, _⟩ | ⟨h, _⟩ | ⟨_, h⟩ <;> first | exact h | omega
        obtain ⟨_, ents, hents, hsz, _⟩ := hw.obj id b _ (getMap_spec hes) hb
        exact ⟨rfl, _, ex _ _ h3 (by simp [Builtin.len_, run_underlying hu, goInt, run_getObj_map hents, hsz]), scRel rfl⟩
      · cases ha
    · cases ha
  · cases ha
end
end Go.Ab

namespace Go.Ab
open Go

def scv : V → Value
  | .sc a => a
  | _ => undef
/-- A key's value. -/
def kval : V → Value
  | .agg cs => .agg (cs.map scv).toArray
  | v => scv v

def keyKind (P : Program) (t : TypeId) : Option Nat := match P.underlying t with
  | some (.int _) => some 0
  | some .string => some 1
  | some .bool => some 2
  | _ => none
def keyFields (P : Program) : Nat → Nat → List Field → Bool
  | _, c, [] => c == 0
  | i, c, f :: fs => f.name != "_" && f.offset == i && (match keyKind P f.type with
    | some k => c % 4 == k + 1
    | none => false) && keyFields P (i + 1) (c / 4) fs
def codeRep (k : Nat) : Nat → Nat
  | 0 => 0
  | n + 1 => (k + 1) + 4 * codeRep k n
def elemKind (P : Program) (e : TypeId) (n c : Nat) : Bool := match keyKind P e with
  | some k => c == codeRep k n && decide (k ≤ 2) && isSize P e 1
  | none => false
/-- The kind of a map's keys. -/
def keyIs (P : Program) (t : TypeId) (kd : Nat) : Bool := match P.underlying t with
  | some (.struct fs) => decide (4 ≤ kd) && keyFields P 0 (kd - 4) fs.toList && !P.stoodInHeld t
  | some (.array n e) => decide (4 ≤ kd) && elemKind P e n (kd - 4)
  | _ => keyKind P t == some kd

section
variable {P : Program} {μ : List Nat} {lim : Nat → Nat} {w : World}

theorem scKind_sc {v : V} {k : Nat} (h : scKind v = some k) : ∃ a, v = .sc a ∧ a.noAgg = true := by
  unfold scKind at h
  split at h <;> first | exact ⟨_, rfl, rfl⟩ | cases h
theorem relSc' {v X : Value} (h : RelV μ lim w (.sc v) X) : X = v := by unfold RelV at h; exact h.1

theorem relVs_sc : ∀ {cs : List V} {xs : List Value}, (∀ v ∈ cs, ∃ a, v = .sc a) → RelVs μ lim w cs xs → xs = cs.map scv
  | [], [], _, _ => rfl
  | v :: vs, x :: xs, h, r => by
    unfold RelVs at r
    obtain ⟨a, rfl⟩ := h v (by simp)
    rw [relSc' r.1, relVs_sc (fun u hu => h u (by simp [hu])) r.2]; rfl
  | [], _ :: _, _, r => by unfold RelVs at r; exact r.elim
  | _ :: _, [], _, r => by unfold RelVs at r; exact r.elim

theorem kindsOK_sc : ∀ {c : Nat} {cs : List V}, kindsOK c cs = true → ∀ v ∈ cs, ∃ a, v = .sc a
  | _, [], _ => by simp
  | c, v :: vs, h => by
    simp only [kindsOK, Bool.and_eq_true] at h
    intro u hu
    rcases List.mem_cons.1 hu with rfl | hu
    · obtain ⟨h1, _⟩ := h
      split at h1
      · rename_i k hk; obtain ⟨a, ha, _⟩ := scKind_sc hk; exact ⟨a, ha⟩
      · cases h1
    · exact kindsOK_sc h.2 u hu

theorem keysEq_sc : ∀ (as bs : List V) (e : Bool), keysEq as bs = some e → ∀ v ∈ bs, ∃ a, v = .sc a := by
  intro as
  induction as with
  | nil => intro bs e h; cases bs with
    | nil => simp
    | cons _ _ => simp [keysEq] at h
  | cons x as ih =>
    intro bs e h
    cases bs with
    | nil => cases x <;> simp [keysEq] at h
    | cons y bs =>
      cases x <;> cases y <;> first | (simp [keysEq] at h; done) | skip
      rename_i a b
      simp only [keysEq] at h
      split at h
      · cases h
      · split at h
        · cases h
        · rename_i r hr
          intro v hv
          rcases List.mem_cons.1 hv with rfl | hv
          · exact ⟨b, rfl⟩
          · exact ih bs r hr v hv

theorem scEq_same {a b : Value} (h : scEq a b = some true) : b = a := by
  cases a <;> cases b <;> simp [scEq] at h <;> simp_all

theorem keysEq_same : ∀ (as bs : List V), keysEq as bs = some true → bs.map scv = as.map scv := by
  intro as
  induction as with
  | nil => intro bs h; cases bs with
    | nil => rfl
    | cons _ _ => simp [keysEq] at h
  | cons x as ih =>
    intro bs h
    cases bs with
    | nil => cases x <;> simp [keysEq] at h
    | cons y bs =>
      cases x <;> cases y <;> first | (simp [keysEq] at h; done) | skip
      rename_i a b
      simp only [keysEq] at h
      split at h
      · cases h
      · rename_i e he
        split at h
        · cases h
        · rename_i r hr
          simp only [Option.some.injEq, Bool.and_eq_true] at h
          obtain ⟨rfl, rfl⟩ := h
          simp only [List.map_cons, scv, scEq_same he, ih bs hr]

theorem key_rel {kd : Nat} {k : V} {K : Value} (hk : kindOK kd k = true) (hr : RelV μ lim w k K) : K = kval k := by
  unfold kindOK at hk
  split at hk
  · rename_i cs
    simp only [Bool.and_eq_true] at hk
    unfold RelV at hr
    obtain ⟨xs, rfl, hr⟩ := hr
    have := relVs_sc (kindsOK_sc hk.2) hr
    simp only [kval, ← this]
  · obtain ⟨a, rfl, _⟩ := scKind_sc (eq_of_beq hk)
    exact relSc' hr

theorem key_rel' {k k' : V} {e : Bool} {K : Value} (hk : keyEq k k' = some e) (hr : RelV μ lim w k' K) : K = kval k' := by
  unfold keyEq at hk
  split at hk
  · exact relSc' hr
  · rename_i as bs
    unfold RelV at hr
    obtain ⟨xs, rfl, hr⟩ := hr
    have := relVs_sc (keysEq_sc _ _ _ hk) hr
    simp only [kval, ← this]
  · cases hk

theorem keyEq_same {k k' : V} (h : keyEq k k' = some true) : kval k' = kval k := by
  unfold keyEq at h
  split at h
  · exact scEq_same h
  · simp only [kval, keysEq_same _ _ h]
  · cases h

theorem keyKind_agg {t : TypeId} {k : Nat} (h : keyKind P t = some k) : isAggB P t false = true := by
  unfold keyKind at h
  unfold isAggB
  split at h <;> rename_i hu <;> first | (rw [hu]; rfl) | cases h

theorem part_key {t : TypeId} {k i : Nat} {xs : Array Value} {v : Value} (hk : keyKind P t = some k) (hx : xs[i]? = some v) : (Go.part t xs i).run P w = .ok v w := by
  simp only [Go.part, Sem.run_bind, run_isAgg (keyKind_agg hk), Result.andThen_ok, hx]
  rfl

theorem equalSc {t : TypeId} {k d : Nat} {a b : Value} {e : Bool} (hk : keyKind P t = some k) (ha : scKind (.sc a) = some k) (h : scEq a b = some e) : (Op.equalIn (d + 1) t a b).run P w = .ok e w := by
  unfold keyKind at hk
  split at hk
  · rename_i kk hu
    cases hk
    cases a <;> simp [scKind] at ha
    cases b <;> simp [scEq] at h
    obtain ⟨rfl, rfl⟩ := h
    rw [run_equalIn_int _ _ _ _ _ _ _ hu]
  · rename_i hu
    cases hk
    cases a <;> simp [scKind] at ha
    cases b <;> simp [scEq] at h
    subst h
    rw [run_equalIn_string _ _ _ _ _ hu, bytes_toList_beq]
  · rename_i hu
    cases hk
    cases a <;> simp [scKind] at ha
    cases b <;> simp [scEq] at h
    subst h
    rw [run_equalIn_bool' _ _ _ _ _ hu]
  · cases hk

theorem eqFields_run (d : Nat) (xs ys : Array Value) : ∀ (fs : List Field) (i c : Nat) (as bs : List V) (e : Bool), keyFields P i c fs = true → kindsOK c as = true → keysEq as bs = some e →
    (∀ j, xs[i + j]? = (as.map scv)[j]?) → (∀ j, ys[i + j]? = (bs.map scv)[j]?) → (Op.eqFields (d + 1) xs ys fs).run P w = .ok e w := by
  intro fs
  induction fs with
  | nil =>
    intro i c as bs e hf hk he _ _
    simp only [keyFields, beq_iff_eq] at hf
    subst hf
    cases as with
    | cons v vs => simp [kindsOK] at hk; split at hk <;> simp at hk
    | nil => cases bs with
      | cons _ _ => simp [keysEq] at he
      | nil => simp only [keysEq] at he; cases he; rfl
  | cons f fs ih =>
    intro i c as bs e hf hk he hx hy
    simp only [keyFields, Bool.and_eq_true, bne_iff_ne, beq_iff_eq] at hf
    obtain ⟨⟨⟨hn, ho⟩, hkk⟩, hf⟩ := hf
    split at hkk
    case h_2 => cases hkk
    rename_i k hkt
    have hc := eq_of_beq hkk
    cases as with
    | nil => simp [kindsOK] at hk; omega
    | cons v vs =>
      simp only [kindsOK, Bool.and_eq_true] at hk
      obtain ⟨hk1, hk2⟩ := hk
      split at hk1
      case h_2 => cases hk1
      rename_i k' hk'
      have hc' := eq_of_beq hk1
      have : k' = k := by omega
      subst this
      obtain ⟨a, rfl, _⟩ := scKind_sc hk'
      cases bs with
      | nil => simp [keysEq] at he
      | cons u us =>
        obtain ⟨b, rfl⟩ := keysEq_sc _ _ _ he u (by simp)
        simp only [keysEq] at he
        split at he
        · cases he
        · rename_i e1 he1
          split at he
          · cases he
          · rename_i e2 he2
            cases he
            have hx0 := hx 0
            have hy0 := hy 0
            simp only [Nat.add_zero, List.map_cons, scv, List.getElem?_cons_zero] at hx0 hy0
            rw [← ho] at hx0 hy0
            have hr := ih (i + 1) (c / 4) vs us e2 hf hk2 he2 (fun j => by have := hx (j + 1); rw [show i + 1 + j = i + (j + 1) by omega]; simpa using this) (fun j => by have := hy (j + 1); rw [show i + 1 + j = i + (j + 1) by omega]; simpa using this)
            simp only [Op.eqFields, hn, ne_eq, not_false_eq_true, if_true, Sem.run_bind, part_key hkt hx0, part_key hkt hy0, Result.andThen_ok, equalSc hkt hk' he1]
            cases e1
            · simp
            · simpa using hr

theorem keyIs_struct {t : TypeId} {kd : Nat} {cs : List V} (h : keyIs P t kd = true) (hk : kindOK kd (.agg cs) = true) : (P.underlying t = some (.struct (P.fieldsOf t)) ∧ keyFields P 0 (kd - 4) (P.fieldsOf t).toList = true ∧ P.stoodInHeld t = false ∧ kindsOK (kd - 4) cs = true) ∨
    ∃ n e k i, P.underlying t = some (.array n e) ∧ keyKind P e = some k ∧ k ≤ 2 ∧ P.info? e = some i ∧ P.cellsOf e = 1 ∧ isSize P e 1 = true ∧ kindsOK (codeRep k n) cs = true := by
  simp only [kindOK, Bool.and_eq_true, decide_eq_true_eq] at hk
  unfold keyIs at h
  split at h
  · rename_i fs hu
    simp only [Bool.and_eq_true, decide_eq_true_eq, Bool.not_eq_true'] at h
    have : P.fieldsOf t = fs := by simp [Program.fieldsOf, hu]
    rw [this]
    exact .inl ⟨hu, h.1.2, h.2, hk.2⟩
  · rename_i n e hu
    simp only [Bool.and_eq_true, decide_eq_true_eq] at h
    obtain ⟨_, h⟩ := h
    unfold elemKind at h
    split at h
    case h_2 => cases h
    rename_i k hke
    simp only [Bool.and_eq_true, beq_iff_eq, decide_eq_true_eq] at h
    obtain ⟨⟨h1, h2⟩, h3⟩ := h
    obtain ⟨i, hi, hn⟩ := isSize_spec h3
    exact .inr ⟨n, e, k, i, hu, hke, h2, hi, by simp [Program.cellsOf, hi, hn], h3, h1 ▸ hk.2⟩
  · exfalso
    unfold keyKind at h
    split at h <;> simp at h <;> omega

theorem eqItems_run {e : TypeId} {k : Nat} (hke : keyKind P e = some k) (hk2 : k ≤ 2) (d : Nat) (xs ys : Array Value) : ∀ (n i : Nat) (as bs : List V) (r : Bool), kindsOK (codeRep k n) as = true → keysEq as bs = some r →
    (∀ j, xs[i + j]? = (as.map scv)[j]?) → (∀ j, ys[i + j]? = (bs.map scv)[j]?) → (Op.eqItems (d + 1) e 1 xs ys (List.range' i n)).run P w = .ok r w := by
  intro n
  induction n with
  | zero =>
    intro i as bs r hk he _ _
    cases as with
    | cons v vs => simp [kindsOK, codeRep] at hk; split at hk <;> simp at hk
    | nil => cases bs with
      | cons _ _ => simp [keysEq] at he
      | nil => simp only [keysEq] at he; cases he; rfl
  | succ n ih =>
    intro i as bs r hk he hx hy
    cases as with
    | nil => simp [kindsOK, codeRep] at hk
    | cons v vs =>
      simp only [kindsOK, codeRep, Bool.and_eq_true] at hk
      obtain ⟨hk1, hk2'⟩ := hk
      rw [show (k + 1 + 4 * codeRep k n) / 4 = codeRep k n by omega] at hk2'
      split at hk1
      case h_2 => cases hk1
      rename_i k' hk'
      have hc' := eq_of_beq hk1
      have : k' = k := by omega
      subst this
      obtain ⟨a, rfl, _⟩ := scKind_sc hk'
      cases bs with
      | nil => simp [keysEq] at he
      | cons u us =>
        obtain ⟨b, rfl⟩ := keysEq_sc _ _ _ he u (by simp)
        simp only [keysEq] at he
        split at he
        · cases he
        · rename_i e1 he1
          split at he
          · cases he
          · rename_i e2 he2
            cases he
            have hx0 := hx 0
            have hy0 := hy 0
            simp only [Nat.add_zero, List.map_cons, scv, List.getElem?_cons_zero] at hx0 hy0
            have hr := ih (i + 1) vs us e2 hk2' he2 (fun j => by have := hx (j + 1); rw [show i + 1 + j = i + (j + 1) by omega]; simpa using this) (fun j => by have := hy (j + 1); rw [show i + 1 + j = i + (j + 1) by omega]; simpa using this)
            simp only [List.range'_succ, Op.eqItems, Nat.mul_one, Sem.run_bind, part_key hke hx0, part_key hke hy0, Result.andThen_ok, equalSc hke hk' he1]
            cases e1
            · simp
            · simpa using hr

theorem keyIs_sc {t : TypeId} {kd : Nat} {a : Value} (h : keyIs P t kd = true) (hk : kindOK kd (.sc a) = true) : keyKind P t = some kd ∧ scKind (.sc a) = some kd := by
  have hk' : scKind (.sc a) = some kd := eq_of_beq hk
  refine ⟨?_, hk'⟩
  have hle : kd ≤ 2 := by unfold scKind at hk'; split at hk' <;> simp at hk' <;> omega
  unfold keyIs at h
  split at h
  · simp only [Bool.and_eq_true, decide_eq_true_eq] at h
    omega
  · simp only [Bool.and_eq_true, decide_eq_true_eq] at h
    omega
  · exact eq_of_beq h

theorem kind_cases {kd : Nat} {k : V} (h : kindOK kd k = true) : (∃ a, k = .sc a) ∨ ∃ cs, k = .agg cs := by
  unfold kindOK at h
  split at h
  · exact .inr ⟨_, rfl⟩
  · obtain ⟨a, ha, _⟩ := scKind_sc (eq_of_beq h); exact .inl ⟨a, ha⟩

theorem equal_key {t : TypeId} {kd d : Nat} {k k' : V} {e : Bool} (hki : keyIs P t kd = true) (hk : kindOK kd k = true) (h : keyEq k k' = some e) : (Op.equalIn (d + 2) t (kval k) (kval k')).run P w = .ok e w := by
  rcases kind_cases hk with ⟨a, rfl⟩ | ⟨cs, rfl⟩
  · unfold keyEq at h
    split at h
    · rename_i a' b heq
      cases heq
      obtain ⟨h1, h2⟩ := keyIs_sc hki hk
      exact equalSc h1 h2 h
    · rename_i heq; cases heq
    · cases h
  · unfold keyEq at h
    split at h
    · rename_i heq; cases heq
    · rename_i as bs heq
      cases heq
      rcases keyIs_struct hki hk with ⟨h1, h2, h3, h4⟩ | ⟨n, et, k, i, h1, h2, h3, h4, h5, h6, h7⟩
      · simp only [kval]
        rw [run_equalIn_struct _ _ _ _ _ h1 h3]
        exact eqFields_run d _ _ _ 0 (kd - 4) cs bs e h2 h4 h (fun j => by simp) (fun j => by simp)
      · simp only [kval]
        rw [show d + 2 = d + 1 + 1 from rfl, run_equalIn_array w (d + 1) _ _ h1 h4, h5, List.range_eq_range']
        exact eqItems_run h2 h3 d _ _ n 0 cs bs e h7 h (fun j => by simp) (fun j => by simp)
    · cases h

theorem check_fields (e : Bool) (n : Nat) (xs : Array Value) : ∀ (fs : List Field) (i c : Nat) (as : List V), keyFields P i c fs = true → kindsOK c as = true → (∀ j, xs[i + j]? = (as.map scv)[j]?) →
    (forIn (m := Sem) fs PUnit.unit fun f _ => if f.name ≠ "_" then (do Instr.checkKey e (n + 1) f.type (← Go.part f.type xs f.offset); pure (ForInStep.yield PUnit.unit)) else pure (ForInStep.yield PUnit.unit)).run P w = .ok PUnit.unit w := by
  intro fs
  induction fs with
  | nil => intro i c as _ _ _; rfl
  | cons f fs ih =>
    intro i c as hf hk hx
    simp only [keyFields, Bool.and_eq_true, bne_iff_ne, beq_iff_eq] at hf
    obtain ⟨⟨⟨hn, ho⟩, hkk⟩, hf⟩ := hf
    split at hkk
    case h_2 => cases hkk
    rename_i k hkt
    have hc := eq_of_beq hkk
    cases as with
    | nil => simp [kindsOK] at hk; omega
    | cons v vs =>
      simp only [kindsOK, Bool.and_eq_true] at hk
      obtain ⟨hk1, hk2⟩ := hk
      split at hk1
      case h_2 => cases hk1
      rename_i k' hk'
      have hc' := eq_of_beq hk1
      have : k' = k := by omega
      subst this
      obtain ⟨a, rfl, _⟩ := scKind_sc hk'
      have hx0 := hx 0
      simp only [Nat.add_zero, List.map_cons, scv, List.getElem?_cons_zero] at hx0
      rw [← ho] at hx0
      have hr := ih (i + 1) (c / 4) vs hf hk2 (fun j => by have := hx (j + 1); rw [show i + 1 + j = i + (j + 1) by omega]; simpa using this)
      have hck : (Instr.checkKey e (n + 1) f.type a).run P w = .ok () w := by
        unfold keyKind at hkt
        unfold Instr.checkKey
        split at hkt <;> rename_i hu <;> first | (cases hkt; done) | skip
        all_goals (cases hkt; cases a <;> simp [scKind] at hk' <;> simp [run_underlying hu])
      rw [List.forIn_cons]
      simp only [hn, ne_eq, not_false_eq_true, if_true, Sem.run_bind, part_key hkt hx0, Result.andThen_ok, hck, Sem.run_pure]
      exact hr

theorem check_scalar {t : TypeId} {k : Nat} {a : Value} (e : Bool) (n : Nat) (hkt : keyKind P t = some k) (hk' : scKind (.sc a) = some k) : (Instr.checkKey e (n + 1) t a).run P w = .ok () w := by
  unfold keyKind at hkt
  unfold Instr.checkKey
  split at hkt <;> rename_i hu <;> first | (cases hkt; done) | skip
  all_goals (cases hkt; cases a <;> simp [scKind] at hk' <;> simp [run_underlying hu])

theorem check_items {e : TypeId} {k : Nat} (hke : keyKind P e = some k) (hsz : isSize P e 1 = true) (em : Bool) (d : Nat) (xs : Array Value) : ∀ (n i : Nat) (as : List V), kindsOK (codeRep k n) as = true → (∀ j, xs[i + j]? = (as.map scv)[j]?) →
    (forIn (m := Sem) (List.range' i n) PUnit.unit fun i _ => (do Instr.checkKey em (d + 1) e (← Go.part e xs (i * (← sizeOf e))); pure (ForInStep.yield PUnit.unit))).run P w = .ok PUnit.unit w := by
  intro n
  induction n with
  | zero => intro i as _ _; rfl
  | succ n ih =>
    intro i as hk hx
    cases as with
    | nil => simp [kindsOK, codeRep] at hk
    | cons v vs =>
      simp only [kindsOK, codeRep, Bool.and_eq_true] at hk
      obtain ⟨hk1, hk2'⟩ := hk
      have hk4 : k ≤ 2 := by unfold keyKind at hke; split at hke <;> simp at hke <;> omega
      rw [show (k + 1 + 4 * codeRep k n) / 4 = codeRep k n by omega] at hk2'
      split at hk1
      case h_2 => cases hk1
      rename_i k' hk'
      have hc' := eq_of_beq hk1
      obtain ⟨a, rfl, _⟩ := scKind_sc hk'
      have : k' = k := by omega
      subst this
      have hx0 := hx 0
      simp only [Nat.add_zero, List.map_cons, scv, List.getElem?_cons_zero] at hx0
      have hr := ih (i + 1) vs hk2' (fun j => by have := hx (j + 1); rw [show i + 1 + j = i + (j + 1) by omega]; simpa using this)
      rw [List.range'_succ, List.forIn_cons]
      simp only [Sem.run_bind, run_sizeOf hsz, Result.andThen_ok, Nat.mul_one, part_key hke hx0, check_scalar em d hke hk', Sem.run_pure]
      exact hr

theorem check_key {t : TypeId} {kd : Nat} {k : V} (e : Bool) (n : Nat) (hki : keyIs P t kd = true) (hk : kindOK kd k = true) : (Instr.checkKey e (n + 2) t (kval k)).run P w = .ok () w := by
  rcases kind_cases hk with ⟨a, rfl⟩ | ⟨cs, rfl⟩
  · obtain ⟨h1, h2⟩ := keyIs_sc hki hk
    unfold keyKind at h1
    unfold Instr.checkKey
    simp only [kval, scv]
    split at h1 <;> rename_i hu <;> first | (cases h1; done) | skip
    all_goals (cases h1; cases a <;> simp [scKind] at h2 <;> simp [run_underlying hu])
  · rcases keyIs_struct hki hk with ⟨h1, h2, h3, h4⟩ | ⟨m, et, k, i, h1, h2, h3, h4, h5, h6, h7⟩
    · have := check_fields (P := P) (w := w) e n (cs.map scv).toArray (P.fieldsOf t).toList 0 (kd - 4) cs h2 h4 (fun j => by simp)
      unfold Instr.checkKey
      simp only [kval, Sem.run_bind, run_underlying h1, Result.andThen_ok]
      rw [← Array.forIn_toList, this]
      rfl
    · have := check_items (P := P) (w := w) h2 h6 e n (cs.map scv).toArray m 0 cs h7 (fun j => by simp)
      unfold Instr.checkKey
      simp only [kval, Sem.run_bind, run_underlying h1, Result.andThen_ok]
      simp only [Std.Legacy.Range.forIn_eq_forIn_range', Std.Legacy.Range.size, Nat.sub_zero, Nat.add_one_sub_one, Nat.div_one]
      rw [this]
      rfl

theorem stays_key {kd : Nat} {k : V} (hk : kindOK kd k = true) : (Instr.keyThatStays (kval k) (kval k)).run P w = .ok (kval k) w := by
  have hsc : ∀ (n : Nat) (v : V) (j : Nat), scKind v = some j → Instr.sameBits n (scv v) (scv v) = true := by
    intro n v j h
    obtain ⟨a, rfl, _⟩ := scKind_sc h
    cases a <;> simp [scKind] at h <;> cases n <;> simp [Instr.sameBits, scv, MapKept.bytes_beq]
  have hsb : Instr.sameBits 10000 (kval k) (kval k) = true := by
    rcases kind_cases hk with ⟨a, rfl⟩ | ⟨cs, rfl⟩
    · exact hsc _ _ kd (eq_of_beq hk)
    · simp only [kindOK, Bool.and_eq_true] at hk
      have hall : ∀ (c : Nat) (l : List V), kindsOK c l = true → ((l.map scv).zip (l.map scv)).all (fun p => Instr.sameBits 9999 p.1 p.2) = true := by
        intro c l
        induction l generalizing c with
        | nil => intro _; rfl
        | cons v vs ih =>
          intro h
          simp only [kindsOK, Bool.and_eq_true] at h
          simp only [List.map_cons, List.zip_cons_cons, List.all_cons, Bool.and_eq_true]
          refine ⟨?_, ih _ h.2⟩
          have h1 := h.1
          split at h1
          · rename_i j hj; exact hsc _ _ _ hj
          · cases h1
      show Instr.sameBits (9999 + 1) (kval (.agg cs)) (kval (.agg cs)) = true
      simp only [kval, Instr.sameBits, beq_self_eq_true, Bool.true_and]
      exact hall _ _ hk.2
  simp [Instr.keyThatStays, hsb]

theorem findAsking_key {t : TypeId} {kd : Nat} {k : V} (hki : keyIs P t kd = true) (hk : kindOK kd k = true) : ∀ (es : List (V × V)) (ents : List MapEntry) (i : Nat) (r : Option Nat), es.length = ents.length →
    (∀ (j : Nat) (k v : V), es[j]? = some (k, v) → ∃ e, ents[j]? = some e ∧ RelV μ lim w k e.key) → mapIdx k es = some r →
    (r = none ∧ (Instr.findAsking t (kval k) ents i).run P w = .ok none w) ∨ ∃ j k' v e, r = some j ∧ es[j]? = some (k', v) ∧ ents[j]? = some e ∧ e.key = kval k ∧ (Instr.findAsking t (kval k) ents i).run P w = .ok (some (i + j, e.val)) w
  | [], [], i, r, _, _, h => by simp only [mapIdx] at h; cases h; exact .inl ⟨rfl, rfl⟩
  | [], _ :: _, _, _, hl, _, _ => by simp at hl
  | _ :: _, [], _, _, hl, _, _ => by simp at hl
  | (k1, v) :: es, e :: ents, i, r, hl, hr, h => by
    obtain ⟨e', he', r1⟩ := hr 0 k1 v (by simp)
    simp at he'
    subst he'
    simp only [mapIdx] at h
    cases hq : keyEq k k1 with
    | none => simp [hq] at h
    | some q =>
      have hkey := key_rel' hq r1
      have heq := equal_key (w := w) (d := 9998) hki hk hq
      cases q with
      | true =>
        simp only [hq] at h
        cases h
        refine .inr ⟨0, k1, v, e, rfl, by simp, by simp, by rw [hkey]; exact keyEq_same hq, ?_⟩
        simp only [Instr.findAsking, Op.equal, Op.maxDepth, Sem.run_bind, hkey, heq, Result.andThen_ok, if_true, Sem.run_pure, Nat.add_zero]
      | false =>
        simp only [hq] at h
        cases hm : mapIdx k es with
        | none => simp [hm] at h
        | some r' =>
          have ih := findAsking_key hki hk es ents (i + 1) r' (by simpa using hl) (fun j k v hj => by simpa using hr (j + 1) k v (by simpa using hj)) hm
          have hstep : (Instr.findAsking t (kval k) (e :: ents) i).run P w = (Instr.findAsking t (kval k) ents (i + 1)).run P w := by
            simp only [Instr.findAsking, Op.equal, Op.maxDepth, Sem.run_bind, hkey, heq, Result.andThen_ok, Bool.false_eq_true, if_false]
          rcases ih with ⟨rfl, h2⟩ | ⟨j, k', v', e', rfl, h2, h3, h4, h5⟩
          · simp only [hm] at h; cases h; exact .inl ⟨rfl, by rw [hstep, h2]⟩
          · simp only [hm] at h; cases h
            exact .inr ⟨j + 1, k', v', e', rfl, by simpa using h2, by simpa using h3, h4, by rw [hstep, h5]; congr 3; omega⟩

theorem findNow_key {d : TypeDesc} {a : Value} {kd : Nat} (hd : P.underlying = P.underlying) (hsn : ∀ b e, scEq a b = some e → Instr.sameNow d a b = some e) (hk : kindOK kd (.sc a) = true) : ∀ (es : List (V × V)) (ents : List MapEntry) (i : Nat) (r : Option Nat), es.length = ents.length →
    (∀ (j : Nat) (k v : V), es[j]? = some (k, v) → ∃ e, ents[j]? = some e ∧ RelV μ lim w k e.key) → mapIdx (.sc a) es = some r →
    (r = none ∧ Instr.findNow d a ents i = some none) ∨ ∃ j k' v e, r = some j ∧ es[j]? = some (k', v) ∧ ents[j]? = some e ∧ e.key = a ∧ Instr.findNow d a ents i = some (some (i + j, e.val))
  | [], [], i, r, _, _, h => by simp only [mapIdx] at h; cases h; exact .inl ⟨rfl, rfl⟩
  | [], _ :: _, _, _, hl, _, _ => by simp at hl
  | _ :: _, [], _, _, hl, _, _ => by simp at hl
  | (k1, v) :: es, e :: ents, i, r, hl, hr, h => by
    obtain ⟨e', he', r1⟩ := hr 0 k1 v (by simp)
    simp at he'
    subst he'
    simp only [mapIdx] at h
    cases hq : keyEq (.sc a) k1 with
    | none => simp [hq] at h
    | some q =>
      have hkey := key_rel' hq r1
      have hs : Instr.sameNow d a e.key = some q := by
        rw [hkey]
        unfold keyEq at hq
        split at hq
        · rename_i a' b heq; cases heq; exact hsn b q hq
        · rename_i heq; cases heq
        · cases hq
      cases q with
      | true =>
        simp only [hq] at h
        cases h
        exact .inr ⟨0, k1, v, e, rfl, by simp, by simp, by rw [hkey]; exact keyEq_same hq, by simp [Instr.findNow, hs]⟩
      | false =>
        simp only [hq] at h
        cases hm : mapIdx (.sc a) es with
        | none => simp [hm] at h
        | some r' =>
          rcases findNow_key hd hsn hk es ents (i + 1) r' (by simpa using hl) (fun j k v hj => by simpa using hr (j + 1) k v (by simpa using hj)) hm with ⟨rfl, h2⟩ | ⟨j, k', v', e', rfl, h2, h3, h4, h5⟩
          · simp only [hm] at h; cases h; exact .inl ⟨rfl, by simp [Instr.findNow, hs, h2]⟩
          · simp only [hm] at h; cases h
            exact .inr ⟨j + 1, k', v', e', rfl, by simpa using h2, by simpa using h3, h4, by simp [Instr.findNow, hs, h5]; omega⟩

/-- A key is looked for. -/
theorem idx_rel {t : TypeId} {kd : Nat} {k : V} (hki : keyIs P t kd = true) (hk : kindOK kd k = true) {es : List (V × V)} {ents : Array MapEntry} {r : Option Nat} (hl : es.length = ents.size)
    (hr : ∀ (j : Nat) (k v : V), es[j]? = some (k, v) → ∃ e, ents[j]? = some e ∧ RelV μ lim w k e.key) (h : mapIdx k es = some r) :
    (r = none ∧ (Instr.findKey t (kval k) ents.toList).run P w = .ok none w) ∨ ∃ j k' v e, r = some j ∧ es[j]? = some (k', v) ∧ ents[j]? = some e ∧ e.key = kval k ∧ (Instr.findKey t (kval k) ents.toList).run P w = .ok (some (j, e.val)) w := by
  have hl' : es.length = ents.toList.length := by simpa using hl
  have hr' : ∀ (j : Nat) (k v : V), es[j]? = some (k, v) → ∃ e, ents.toList[j]? = some e ∧ RelV μ lim w k e.key := fun j k v hj => by simpa using hr j k v hj
  rcases kind_cases hk with ⟨a, rfl⟩ | ⟨cs, rfl⟩
  · obtain ⟨h1, h2⟩ := keyIs_sc hki hk
    obtain ⟨d, hd, hsn⟩ : ∃ d, P.underlying t = some d ∧ ∀ b e, scEq a b = some e → Instr.sameNow d a b = some e := by
      unfold keyKind at h1
      split at h1 <;> rename_i hu <;> first | (cases h1; done) | skip
      all_goals
        refine ⟨_, hu, fun b e he => ?_⟩
        cases h1
        cases a <;> simp [scKind] at h2
        cases b <;> simp [scEq] at he
        simp [Instr.sameNow, he, bytes_beq]
    have hf : ∀ x, Instr.findNow d a ents.toList 0 = some x → (Instr.findKey t (kval (.sc a)) ents.toList).run P w = .ok x w := fun x hx => by
      simp only [kval, scv, Instr.findKey, Sem.run_bind, run_underlying hd, Result.andThen_ok, hx]; rfl
    rcases findNow_key (P := P) rfl hsn hk es ents.toList 0 r hl' hr' h with ⟨rfl, q2⟩ | ⟨j, k', v, e, rfl, q2, q3, q4, q5⟩
    · exact .inl ⟨rfl, hf _ q2⟩
    · exact .inr ⟨j, k', v, e, rfl, q2, by simpa using q3, q4, hf _ (by rw [q5, Nat.zero_add])⟩
  · have hask := findAsking_key hki hk es ents.toList 0 r hl' hr' h
    have hf : (Instr.findKey t (kval (.agg cs)) ents.toList).run P w = (Instr.findAsking t (kval (.agg cs)) ents.toList 0).run P w := by
      rcases keyIs_struct hki hk with ⟨h1, h2, h3, h4⟩ | ⟨m, et, k, i, h1, h2, h3, h4, h5, h6, h7⟩
      all_goals
        simp only [Instr.findKey, Sem.run_bind, run_underlying h1, Result.andThen_ok]
        cases ents.toList with
        | nil => rfl
        | cons e l => rfl
    rcases hask with ⟨rfl, q2⟩ | ⟨j, k', v, e, rfl, q2, q3, q4, q5⟩
    · exact .inl ⟨rfl, by rw [hf, q2]⟩
    · exact .inr ⟨j, k', v, e, rfl, q2, by simpa using q3, q4, by rw [hf, q5, Nat.zero_add]⟩

/-! ## structs in structs -/

def vKind : Value → Option Nat
  | .int _ _ => some 0
  | .string _ => some 1
  | .bool _ => some 2
  | _ => none
def vsEq : List Value → List Value → Option Bool
  | [], [] => some true
  | a :: as, b :: bs => match scEq a b with
    | none => none
    | some e => match vsEq as bs with
      | none => none
      | some r => some (e && r)
  | _, _ => none
end

def keyFs (P : Program) (row : TypeId → Option (List Nat)) : Nat → List Field → Option (List Nat)
  | _, [] => some []
  | off, f :: fs => if f.name ≠ "_" ∧ f.offset = off then
      match row f.type with
      | some ks => if isSize P f.type ks.length ∧ ks ≠ [] then (keyFs P row (off + ks.length) fs).map fun r => ks ++ r else none
      | none => none
    else none
/-- The kinds of a type's cells, where all of them are numbers, texts, truth values. -/
def keyRow (P : Program) : Nat → TypeId → Option (List Nat)
  | 0, _ => none
  | d + 1, t => match P.underlying t with
    | some (.struct fs) => if P.stoodInHeld t then none else keyFs P (keyRow P d) 0 fs.toList
    | _ => (keyKind P t).map fun k => [k]
def codeOf : List Nat → Nat
  | [] => 0
  | k :: ks => (k + 1) + 4 * codeOf ks
def aggIs (P : Program) (t : TypeId) (kd : Nat) : Bool := match P.underlying t, keyRow P 8 t with
  | some (.struct _), some ks => kd == 4 + codeOf ks && ks.all (· ≤ 2)
  | some (.array _ _), _ => keyIs P t kd
  | _, _ => false

section
variable {P : Program} {w : World}

def mkV (agg : Bool) (as : List Value) : Value := if agg then .agg as.toArray else as.headD undef

theorem keyRow_agg {d : Nat} {t : TypeId} {ks : List Nat} (h : keyRow P d t = some ks) : ∃ g, isAggB P t g = true ∧ (g = false → ∃ k, ks = [k]) := by
  cases d with
  | zero => simp [keyRow] at h
  | succ d =>
    unfold keyRow at h
    split at h
    · rename_i fs hu
      exact ⟨true, by simp [isAggB, hu], by simp⟩
    · cases hk : keyKind P t with
      | none => simp [hk] at h
      | some k =>
        simp [hk] at h
        exact ⟨false, keyKind_agg hk, fun _ => ⟨k, h.symm⟩⟩

theorem part_row {t : TypeId} {n off : Nat} {g : Bool} {xs : Array Value} (hg : isAggB P t g = true) (hs : isSize P t n = true) (hn : g = false → n = 1) (hl : off + n ≤ xs.size) :
    (Go.part t xs off).run P w = .ok (mkV g ((xs.toList.drop off).take n)) w := by
  simp only [Go.part, Sem.run_bind, run_isAgg hg, Result.andThen_ok]
  cases g with
  | true =>
    simp only [if_true, Sem.run_bind, run_sizeOf hs, Result.andThen_ok, Sem.run_pure, mkV]
    congr 2
    apply Array.ext'
    rw [Array.toList_extract, List.extract_eq_take_drop, Nat.add_sub_cancel_left]
  | false =>
    have h1 := hn rfl
    subst h1
    have hx : xs[off]? = some xs[off] := Array.getElem?_eq_getElem (by omega)
    simp only [Bool.false_eq_true, if_false, hx, Sem.run_pure, mkV]
    congr 1
    have : (xs.toList.drop off).take 1 = [xs[off]] := by
      rw [List.drop_eq_getElem_cons (by simpa using (by omega : off < xs.size))]
      simp
    rw [this]; rfl

theorem vsEq_append : ∀ (a1 a2 b1 b2 : List Value) (e : Bool), a1.length = b1.length → vsEq (a1 ++ a2) (b1 ++ b2) = some e → ∃ e1 e2, vsEq a1 b1 = some e1 ∧ vsEq a2 b2 = some e2 ∧ e = (e1 && e2)
  | [], a2, [], b2, e, _, h => ⟨true, e, rfl, h, by simp⟩
  | a :: a1, a2, b :: b1, b2, e, hl, h => by
    simp only [List.cons_append, vsEq] at h
    split at h
    · cases h
    · rename_i e0 he0
      split at h
      · cases h
      · rename_i r hr
        cases h
        obtain ⟨e1, e2, q1, q2, q3⟩ := vsEq_append a1 a2 b1 b2 r (by simpa using hl) hr
        exact ⟨e0 && e1, e2, by simp [vsEq, he0, q1], q2, by rw [q3, Bool.and_assoc]⟩
  | [], _, _ :: _, _, _, hl, _ => by simp at hl
  | _ :: _, _, [], _, _, hl, _ => by simp at hl

theorem vsEq_length : ∀ {as bs : List Value} {e : Bool}, vsEq as bs = some e → as.length = bs.length
  | [], [], _, _ => rfl
  | a :: as, b :: bs, e, h => by
    simp only [vsEq] at h
    split at h
    · cases h
    · split at h
      · cases h
      · rename_i r hr; simp [vsEq_length hr]
  | [], _ :: _, _, h => by simp [vsEq] at h
  | _ :: _, [], _, h => by simp [vsEq] at h

theorem eq_fs (d : Nat) (row : TypeId → Option (List Nat)) (hrow : ∀ (n : Nat) (t : TypeId) (ks : List Nat) (g : Bool) (as bs : List Value) (e : Bool), row t = some ks → isAggB P t g = true → as.map vKind = ks.map some → vsEq as bs = some e →
      (Op.equalIn (n + d) t (mkV g as) (mkV g bs)).run P w = .ok e w) (hagg : ∀ (t : TypeId) (ks : List Nat), row t = some ks → ∃ g, isAggB P t g = true ∧ (g = false → ∃ k, ks = [k])) (n : Nat) :
    ∀ (fs : List Field) (off : Nat) (ks : List Nat) (as bs : List Value) (xs ys : Array Value) (e : Bool), keyFs P row off fs = some ks → xs.toList.drop off = as → ys.toList.drop off = bs → as.map vKind = ks.map some → vsEq as bs = some e →
    (Op.eqFields (n + d) xs ys fs).run P w = .ok e w
  | [], off, ks, as, bs, xs, ys, e, h, hx, hy, hk, he => by
    have : ks = [] := by simp [keyFs] at h; exact h
    subst this
    have : as = [] := by simpa using hk
    subst this
    cases bs with
    | cons _ _ => simp [vsEq] at he
    | nil => simp only [vsEq] at he; cases he; rfl
  | f :: fs, off, ks, as, bs, xs, ys, e, h, hx, hy, hk, he => by
    unfold keyFs at h
    split at h
    case isFalse => cases h
    rename_i hc
    obtain ⟨hn, ho⟩ := hc
    split at h
    case h_2 => cases h
    rename_i k1 hk1
    split at h
    case isFalse => cases h
    rename_i hsz
    obtain ⟨hsz, hne⟩ := hsz
    cases hr : keyFs P row (off + k1.length) fs with
    | none => simp [hr] at h
    | some k2 =>
      simp [hr] at h
      subst h
      obtain ⟨g, hg, hg1⟩ := hagg _ _ hk1
      have hlen : as.length = k1.length + k2.length := by
        have := congrArg List.length hk
        simpa using this
      have hbl := vsEq_length he
      have hxs : xs.size = off + as.length ∨ as.length = 0 := by
        have := congrArg List.length hx
        simp at this
        omega
      have hys : ys.size = off + bs.length ∨ bs.length = 0 := by
        have := congrArg List.length hy
        simp at this
        omega
      have hk0 : 0 < k1.length := List.length_pos_iff.2 hne
      have hxs' : off + k1.length ≤ xs.size := by omega
      have hys' : off + k1.length ≤ ys.size := by omega
      have ea : as = as.take k1.length ++ as.drop k1.length := (List.take_append_drop _ _).symm
      have eb : bs = bs.take k1.length ++ bs.drop k1.length := (List.take_append_drop _ _).symm
      rw [ea, eb] at he
      obtain ⟨e1, e2, q1, q2, rfl⟩ := vsEq_append _ _ _ _ _ (by simp; omega) he
      have hkt : (as.take k1.length).map vKind = k1.map some := by
        rw [List.map_take, hk, List.map_append, List.take_left' (by simp)]
      have hkd : (as.drop k1.length).map vKind = k2.map some := by
        rw [List.map_drop, hk, List.map_append, List.drop_left' (by simp)]
      have hp1 := part_row (P := P) (w := w) hg hsz (fun hf => by obtain ⟨k, rfl⟩ := hg1 hf; rfl) hxs'
      have hp2 := part_row (P := P) (w := w) hg hsz (fun hf => by obtain ⟨k, rfl⟩ := hg1 hf; rfl) hys'
      rw [hx] at hp1
      rw [hy] at hp2
      rw [← ho] at hp1 hp2
      have he1' := hrow n f.type k1 g _ _ e1 hk1 hg hkt q1
      have hrest := eq_fs d row hrow hagg n fs (off + k1.length) k2 _ _ xs ys e2 hr (by rw [← hx, List.drop_drop]) (by rw [← hy, List.drop_drop]) hkd q2
      simp only [Op.eqFields, hn, ne_eq, not_false_eq_true, if_true, Sem.run_bind, hp1, hp2, Result.andThen_ok, he1']
      cases e1
      · simp
      · simpa using hrest

theorem eq_row : ∀ (d n : Nat) (t : TypeId) (ks : List Nat) (g : Bool) (as bs : List Value) (e : Bool), keyRow P d t = some ks → isAggB P t g = true → as.map vKind = ks.map some → vsEq as bs = some e →
    (Op.equalIn (n + d) t (mkV g as) (mkV g bs)).run P w = .ok e w
  | 0, n, t, ks, g, as, bs, e, h, _, _, _ => by simp [keyRow] at h
  | d + 1, n, t, ks, g, as, bs, e, h, hg, hk, he => by
    unfold keyRow at h
    split at h
    · rename_i fs hu
      split at h
      · cases h
      · rename_i hst
        have hg' : g = true := by
          simp [isAggB, hu] at hg; exact hg
        subst hg'
        have hfs : P.fieldsOf t = fs := by simp [Program.fieldsOf, hu]
        simp only [mkV, if_true]
        rw [show n + (d + 1) = (n + d) + 1 by omega, run_equalIn_struct _ _ _ _ _ (by rw [hfs]; exact hu) (by simpa using hst), hfs]
        exact eq_fs d (keyRow P d) (fun n t ks g as bs e => eq_row d n t ks g as bs e) (fun t ks => keyRow_agg) n fs.toList 0 ks as bs as.toArray bs.toArray e h (by simp) (by simp) hk he
    · cases hkk : keyKind P t with
      | none => simp [hkk] at h
      | some k =>
        simp [hkk] at h
        subst h
        have hg' : g = false := by
          have h2 := keyKind_agg hkk
          unfold isAggB at hg h2
          split at hg <;> simp_all
        subst hg'
        match as, bs, hk, he with
        | [a], [b], hk, he =>
          simp only [vsEq] at he
          cases hab : scEq a b with
          | none => simp [hab] at he
          | some e1 =>
            simp [hab] at he
            subst he
            simp only [mkV, Bool.false_eq_true, if_false, List.headD_cons]
            refine equalSc (d := n + d) hkk ?_ hab
            simp only [List.map_cons, List.map_nil, List.cons.injEq, and_true] at hk
            cases a <;> simp [vKind] at hk <;> simp [scKind, hk]
        | [a], [], _, he => simp [vsEq] at he
        | [a], _ :: _ :: _, _, he =>
          simp only [vsEq] at he
          split at he
          · cases he
          · simp at he
        | [], _, hk, _ => simp at hk
        | _ :: _ :: _, _, hk, _ => simp at hk

theorem kinds_code : ∀ (ks : List Nat) (as : List V), kindsOK (codeOf ks) as = true → ks.all (· ≤ 2) = true → (as.map scv).map vKind = ks.map some
  | [], [], _, _ => rfl
  | [], v :: vs, h, _ => by
    simp only [kindsOK, codeOf, Bool.and_eq_true] at h
    obtain ⟨h, _⟩ := h
    split at h
    · simp at h
    · cases h
  | k :: ks, [], h, _ => by simp [kindsOK, codeOf] at h
  | k :: ks, v :: vs, h, hs => by
    simp only [List.all_cons, Bool.and_eq_true, decide_eq_true_eq] at hs
    simp only [kindsOK, codeOf, Bool.and_eq_true] at h
    obtain ⟨h1, h2⟩ := h
    have e1 : (k + 1 + 4 * codeOf ks) % 4 = k + 1 := by omega
    have e2 : (k + 1 + 4 * codeOf ks) / 4 = codeOf ks := by omega
    rw [e2] at h2
    rw [e1] at h1
    split at h1
    case h_2 => cases h1
    rename_i k' hk'
    have hkk := eq_of_beq h1
    have : k' = k := by omega
    subst this
    obtain ⟨a, rfl, _⟩ := scKind_sc hk'
    have ih := kinds_code ks vs h2 hs.2
    simp only [List.map_cons, scv, ih, List.cons.injEq, and_true]
    cases a <;> simp [scKind] at hk' <;> simp [vKind, hk']

theorem keysEq_vs : ∀ (as bs : List V) (e : Bool), keysEq as bs = some e → vsEq (as.map scv) (bs.map scv) = some e := by
  intro as
  induction as with
  | nil => intro bs e h; cases bs with
    | nil => simpa [keysEq, vsEq] using h
    | cons _ _ => simp [keysEq] at h
  | cons x as ih =>
    intro bs e h
    cases bs with
    | nil => cases x <;> simp [keysEq] at h
    | cons y bs =>
      cases x <;> cases y <;> first | (simp [keysEq] at h; done) | skip
      rename_i a b
      simp only [keysEq] at h
      split at h
      · cases h
      · rename_i e0 he0
        split at h
        · cases h
        · rename_i r hr
          cases h
          simp only [List.map_cons, scv, vsEq, he0, ih bs r hr]

theorem agg_eq {t : TypeId} {kd : Nat} {as bs : List V} {e : Bool} (h : aggIs P t kd = true) (hk : kindOK kd (.agg as) = true) (he : keysEq as bs = some e) : (Op.equal t (kval (.agg as)) (kval (.agg bs))).run P w = .ok e w := by
  unfold aggIs at h
  split at h
  case h_2 => exact equal_key (d := 9998) h hk (by simpa [keyEq] using he)
  case h_3 => cases h
  rename_i fs ks hu hrow
  simp only [Bool.and_eq_true, beq_iff_eq] at h
  obtain ⟨rfl, hs⟩ := h
  simp only [kindOK, Bool.and_eq_true, Nat.add_sub_cancel_left] at hk
  have := eq_row (P := P) (w := w) 8 9992 t ks true _ _ e hrow (by simp [isAggB, hu]) (kinds_code ks as hk.2 hs) (keysEq_vs as bs e he)
  simpa [Op.equal, Op.maxDepth, mkV, kval] using this
end
end Go.Ab

namespace Go.Ab
open Go

/-- Constants, cell by cell. -/
def constsOK : List V → List Value → Bool
  | [], [] => true
  | v :: vs, c :: cs => constOK v c && constsOK vs cs
  | _, _ => false

theorem constOK_spec {v : V} {c : Value} (h : constOK v c = true) : c.oneCell = true ∧ c.noAgg = true ∧ v.leaf = true ∧ (∀ cs, v ≠ .agg cs) := by
  unfold constOK at h
  split at h <;> first
    | (refine ⟨rfl, rfl, rfl, ?_⟩; intro cs hc; cases hc; done)
    | (simp at h; done)

theorem constsOK_rel {μ lim w} : ∀ {vs : List V} {cs : List Value}, constsOK vs cs = true → RelVs μ lim w vs cs ∧ ∀ c ∈ cs, c.oneCell = true
  | [], [], _ => by unfold RelVs; exact ⟨trivial, by simp⟩
  | v :: vs, c :: cs, h => by
    simp only [constsOK, Bool.and_eq_true] at h
    obtain ⟨h1, h2⟩ := constsOK_rel (μ := μ) (lim := lim) (w := w) h.2
    unfold RelVs
    refine ⟨⟨constOK_rel h.1, h1⟩, fun x hx => ?_⟩
    rcases List.mem_cons.1 hx with rfl | hx
    · exact (constOK_spec h.1).1
    · exact h2 x hx
  | [], _ :: _, h => by simp [constsOK] at h
  | _ :: _, [], h => by simp [constsOK] at h

/-- The zero value of a type, as cells. -/
def zeroOK (P : Program) (t : TypeId) (zero : List V) : Bool := match P.info? t with
  | some i => match i.zero with
    | some z => constsOK zero z.cells.toList && i.size == zero.length
    | none => false
  | none => false
theorem zeroOK_spec {P : Program} {t : TypeId} {zero : List V} (h : zeroOK P t zero = true) : ∃ i z, P.info? t = some i ∧ i.zero = some z ∧ constsOK zero z.cells.toList = true ∧ i.size = zero.length := by
  unfold zeroOK at h
  split at h
  · rename_i i hi
    split at h
    · rename_i z hz
      simp only [Bool.and_eq_true, beq_iff_eq] at h
      exact ⟨i, z, hi, hz, h.1, h.2⟩
    · cases h
  · cases h

/-- The zero value of a type, as a value. -/
def zeroVOK (P : Program) (t : TypeId) (zero : V) : Bool := match P.info? t with
  | some i => match i.zero with
    | some (.agg cs) => (match zero with
      | .agg vs => constsOK vs cs.toList
      | _ => false)
    | some z => constOK zero z
    | none => false
  | none => false
theorem zeroVOK_rel {P : Program} {t : TypeId} {zero : V} {μ : List Nat} {lim : Nat → Nat} {w : World} (h : zeroVOK P t zero = true) : ∃ z, (∀ w', (zeroValue t).run P w' = .ok z w') ∧ RelV μ lim w zero z := by
  unfold zeroVOK at h
  split at h
  · rename_i i hi
    split at h
    · rename_i cs hz
      split at h
      · refine ⟨_, fun w' => by simp [zeroValue, typeInfo, hi, hz]; rfl, ?_⟩
        unfold RelV
        exact ⟨cs, rfl, (constsOK_rel h).1⟩
      · cases h
    · rename_i z _ hz
      exact ⟨z, fun w' => by simp [zeroValue, typeInfo, hi, hz], constOK_rel h⟩
    · cases h
  · cases h

/-- As fit1, for other operations. -/
def fit2 (P : Program) (a : A) (op : Op) : Option (List Operand) :=
  match a with
  | .lookup kd zero ok => match op with
    | .lookup t m k ok' => match P.underlying t with
      | some (.map kt e) => if ok = ok' && keyIs P kt kd && zeroVOK P e zero then some [m, k] else none
      | _ => none
    | _ => none
  | .aggEq kd c => match op with
    | .binOp b t x y _ => if b = c.op && aggIs P t kd && !P.eqGuardType P.depth t then some [x, y] else none
    | _ => none
  | .chr => match op with
    | .convert s d x => match P.underlying s with
      | some (.int _) => if isStr P d then some [x] else none
      | _ => none
    | _ => none
  | .str => match op with
    | .convert s d x => match P.underlying s with
      | some (.slice e) => if isStr P d && isInt P e .u8 then some [x] else none
      | _ => none
    | _ => none
  | .sliceStr lo hi => match op with
    | .slice t x l h none => if isStr P t && l.isSome == lo && h.isSome == hi then some (x :: (l.toList ++ h.toList)) else none
    | _ => none
  | _ => none

section
variable {P : Program} {μ : List Nat} {lim : Nat → Nat} {w : World} {σ σ' : St} {o : Oper} {ρ : Operand → Value} {xs : List V} {x : V} {call : CallT} {opers : List Operand}

theorem relVs_map {l : List Operand} (h : RelVs μ lim w xs (l.map ρ)) (n : Nat) : RelVs μ lim w (xs.take n) ((l.take n).map ρ) ∧ RelVs μ lim w (xs.drop n) ((l.drop n).map ρ) := by
  rw [List.map_take, List.map_drop]; exact ⟨h.take n, h.drop n⟩

theorem q_mkFunc {fn : Fn} {n : Nat} (hf : fit1 P (.mkFunc fn n) o.op = some opers) (hx : RelVs μ lim w xs (opers.map ρ)) (ha : A.act call (.mkFunc fn n) xs σ = some (x, σ')) :
    σ' = σ ∧ Quiet P μ lim w o ρ x := by
  obtain ⟨dst, op, ty, pos, after, guard⟩ := o
  simp only [fit1] at hf
  split at hf
  case h_2 => cases hf
  rename_i fn' first cap
  split at hf
  case isFalse => cases hf
  rename_i hc
  simp only [Bool.and_eq_true, decide_eq_true_eq] at hc
  obtain ⟨rfl, hn⟩ := hc
  cases hf
  simp only [A.act] at ha
  cases ha
  refine ⟨rfl, _, rfl, ?_⟩
  unfold RelV
  have h1 : (first.toList ++ cap.toList).take n = first.toList := by rw [← hn]; simp
  have h2 : (first.toList ++ cap.toList).drop n = cap.toList := by rw [← hn]; simp
  obtain ⟨k1, k2⟩ := relVs_map hx n
  rw [h1] at k1
  rw [h2] at k2
  exact ⟨_, _, rfl, by simpa using k1, by simpa using k2⟩

theorem q_indexAgg {sz n : Nat} {agg : Bool} (hf : fit1 P (.indexAgg sz n agg) o.op = some opers) (hx : RelVs μ lim w xs (opers.map ρ)) (ha : A.act call (.indexAgg sz n agg) xs σ = some (x, σ')) :
    σ' = σ ∧ Quiet P μ lim w o ρ x := by
  obtain ⟨dst, op, ty, pos, after, guard⟩ := o
  simp only [fit1] at hf
  split at hf
  case h_2 => cases hf
  rename_i t xo io
  split at hf
  case h_2 => cases hf
  rename_i k e hu
  split at hf
  case isFalse => cases hf
  rename_i hc
  simp only [Bool.and_eq_true, decide_eq_true_eq] at hc
  obtain ⟨⟨rfl, hs⟩, hg⟩ := hc
  cases hf
  obtain ⟨y, z, rfl, h1, h2⟩ := rel2 hx
  simp only [A.act, actIndexAgg] at ha
  split at ha
  case h_2 => cases ha
  rename_i cs kk i heq
  simp only [List.cons.injEq, and_true] at heq
  obtain ⟨rfl, rfl⟩ := heq
  split at ha
  case isFalse => cases ha
  rename_i hb
  cases hp : part cs (i.toNat * sz) sz agg with
  | none => simp [hp] at ha
  | some v =>
    simp [hp] at ha
    obtain ⟨rfl, rfl⟩ := ha
    unfold RelV at h1
    obtain ⟨ys, h3, h4⟩ := h1
    obtain ⟨X, hX, hrel⟩ := part_rel (P := P) h4 hp hs hg
    refine ⟨rfl, X, ?_, hrel⟩
    have hb' : (0 ≤ i ∧ i < (k : Int)) := hb
    simp [execOp, h3, relSc h2, Instr.index, asIntOf, run_underlying hu, hb', run_sizeOf hs, hX]

theorem q_indexStr (hf : fit1 P .indexStr o.op = some opers) (hx : RelVs μ lim w xs (opers.map ρ)) (ha : A.act call .indexStr xs σ = some (x, σ')) :
    σ' = σ ∧ Quiet P μ lim w o ρ x := by
  obtain ⟨dst, op, ty, pos, after, guard⟩ := o
  simp only [fit1] at hf
  split at hf
  case h_2 => cases hf
  rename_i t xo io
  split at hf
  case isFalse => cases hf
  rename_i hc
  cases hf
  have hu : P.underlying t = some .string := by
    unfold isStr at hc
    split at hc
    · assumption
    · cases hc
  obtain ⟨y, z, rfl, h1, h2⟩ := rel2 hx
  simp only [A.act, actIndexStr] at ha
  split at ha
  case h_2 => cases ha
  rename_i b kk i heq
  simp only [List.cons.injEq, and_true] at heq
  obtain ⟨rfl, rfl⟩ := heq
  split at ha
  case isFalse => cases ha
  rename_i hb
  cases hp : b.data.toList[i.toNat]? with
  | none => simp [hp] at ha
  | some c =>
    simp [hp] at ha
    obtain ⟨rfl, rfl⟩ := ha
    have hp' : b[i.toNat]? = some c := by
      rw [Array.getElem?_toList] at hp
      obtain ⟨hlt, hv⟩ := Array.getElem?_eq_some_iff.1 hp
      have hlt' : i.toNat < b.size := hlt
      rw [getElem?_pos b i.toNat hlt']
      exact congrArg some hv
    refine ⟨rfl, _, ?_, scRel rfl⟩
    simp [execOp, relSc h1, relSc h2, Instr.index, asIntOf, run_underlying hu, hb, hp']

theorem q_chr (hf : fit2 P .chr o.op = some opers) (hx : RelVs μ lim w xs (opers.map ρ)) (ha : A.act call .chr xs σ = some (x, σ')) :
    σ' = σ ∧ Quiet P μ lim w o ρ x := by
  obtain ⟨dst, op, ty, pos, after, guard⟩ := o
  simp only [fit2] at hf
  split at hf
  case h_2 => cases hf
  rename_i s d xo
  split at hf
  case h_2 => cases hf
  rename_i ik hs
  split at hf
  case isFalse => cases hf
  rename_i hd
  cases hf
  have hd' : P.underlying d = some .string := by
    unfold isStr at hd
    split at hd
    · assumption
    · cases hd
  obtain ⟨y, rfl, h1⟩ := rel1 hx
  simp only [A.act, actChr] at ha
  split at ha
  case h_2 => cases ha
  rename_i kk n heq
  simp only [List.cons.injEq, and_true] at heq
  subst heq
  split at ha
  case isFalse => cases ha
  rename_i hb
  cases ha
  refine ⟨rfl, _, ?_, scRel rfl⟩
  have henc : Utf8.encode n = ⟨#[UInt8.ofNat n.toNat]⟩ := by
    have hv : Utf8.valid n = true := by
      simp only [Utf8.valid, Bool.and_eq_true, Bool.or_eq_true, decide_eq_true_eq]
      omega
    simp only [Utf8.encode, hv, if_true]
    rw [if_pos (by omega)]
  simp [execOp, relSc h1, convert, run_underlying hs, run_underlying hd', Conv.intToString, henc]

theorem bound_spec {i : Int} {n c : Nat} (h : bound i n = some c) : 0 ≤ i ∧ i ≤ n ∧ i.toNat = c := by
  unfold bound at h
  split at h
  · rename_i hb; cases h; exact ⟨hb.1, hb.2, rfl⟩
  · cases h
theorem run_sliceBound {i : Int} {n c : Nat} (h0 : 0 ≤ i) (hn : i ≤ n) (hc : i.toNat = c) (k : IntKind) (code : BoundsCode) (w' : World) : (Instr.sliceBound (.int k i) n code).run P w' = .ok c w' := by
  simp [Instr.sliceBound, asIntOf, h0, hn, hc]

theorem sliceArgs_rel {lo hi mx : Bool} {n : Nat} {ys : List V} {l h mo : Option Operand} {a b : Nat} {m : Bool} (hlo : l.isSome = lo) (hhi : h.isSome = hi) (hmx : mo.isSome = mx)
    (hx : RelVs μ lim w ys ((l.toList ++ h.toList ++ mo.toList).map ρ)) (ha : sliceArgs lo hi mx n ys = some (a, b, m)) (is : Bool) (cap : Nat) (hcap : n ≤ cap) :
    m = mx ∧ a ≤ b ∧ b ≤ n ∧ ∀ w', (Instr.sliceBounds is n cap (l.map ρ) (h.map ρ) (mo.map ρ)).run P w' = .ok (a, b, if mx then b else cap) w' := by
  unfold sliceArgs at ha
  dsimp only at ha
  split at ha
  · -- nothing
    cases l <;> cases h <;> cases mo <;> simp_all
    obtain ⟨rfl, rfl, _⟩ := ha
    exact ⟨by omega, fun w' => by simp [Instr.sliceBounds]⟩
  · rename_i kk i
    cases l with
    | none => simp at hlo
    | some l =>
      cases h <;> cases mo <;> simp_all
      obtain ⟨c, hc, rfl, rfl, _⟩ := ha
      obtain ⟨b1, b2, b3⟩ := bound_spec hc
      have h1 : ρ l = .int kk i := by unfold RelVs at hx; exact relSc hx.1
      refine ⟨by first | assumption | omega | simp_all, by omega, by omega, fun w' => ?_⟩
      simp [Instr.sliceBounds, h1, run_sliceBound b1 b2 b3]
  · rename_i kk i
    cases h with
    | none => simp at hhi
    | some h =>
      cases l <;> cases mo <;> simp_all
      obtain ⟨c, hc, rfl, rfl, _⟩ := ha
      obtain ⟨b1, b2, b3⟩ := bound_spec hc
      have h1 : ρ h = .int kk i := by unfold RelVs at hx; exact relSc hx.1
      refine ⟨by first | assumption | omega | simp_all, by omega, by omega, fun w' => ?_⟩
      have hle : i ≤ (cap : Int) := by omega
      simp [Instr.sliceBounds, h1, run_sliceBound b1 hle b3]
  · rename_i kk i kk' j
    cases l with
    | none => simp at hlo
    | some l => cases h with
      | none => simp at hhi
      | some h =>
        cases mo <;> simp_all
        split at ha
        case h_2 => cases ha
        rename_i c hc
        simp at ha
        obtain ⟨d, hd, rfl, rfl, _⟩ := ha
        obtain ⟨b1, b2, b3⟩ := bound_spec hc
        obtain ⟨d1, d2, d3⟩ := bound_spec hd
        unfold RelVs at hx
        have hx2 := hx.2
        unfold RelVs at hx2
        have h1 : ρ l = .int kk i := relSc hx.1
        have h2 : ρ h = .int kk' j := relSc hx2.1
        refine ⟨by first | assumption | omega | simp_all, by omega, by omega, fun w' => ?_⟩
        have hle : j ≤ (cap : Int) := by omega
        simp [Instr.sliceBounds, h1, h2, run_sliceBound b1 hle b3, run_sliceBound d1 d2 d3]
  · rename_i kk i kk' j
    cases l with
    | some l => simp at hlo
    | none => cases h with
      | none => simp at hhi
      | some h => cases mo with
        | none => simp at hmx
        | some mo =>
          split at ha
          case isFalse => cases ha
          rename_i hij
          subst hij
          simp_all
          obtain ⟨c, hc, rfl, rfl, _⟩ := ha
          obtain ⟨b1, b2, b3⟩ := bound_spec hc
          unfold RelVs at hx
          have hx2 := hx.2
          unfold RelVs at hx2
          have h1 : ρ h = .int kk i := relSc hx.1
          have h2 : ρ mo = .int kk' i := relSc hx2.1
          refine ⟨by first | assumption | omega | simp_all, by omega, by omega, fun w' => ?_⟩
          have hle : i ≤ (cap : Int) := by omega
          have hle2 : i ≤ (c : Int) := by omega
          simp [Instr.sliceBounds, h1, h2, run_sliceBound b1 hle b3, run_sliceBound b1 hle2 b3]
  · cases ha

theorem q_sliceStr {lo hi : Bool} (hf : fit2 P (.sliceStr lo hi) o.op = some opers) (hx : RelVs μ lim w xs (opers.map ρ)) (ha : A.act call (.sliceStr lo hi) xs σ = some (x, σ')) :
    σ' = σ ∧ Quiet P μ lim w o ρ x := by
  obtain ⟨dst, op, ty, pos, after, guard⟩ := o
  simp only [fit2] at hf
  split at hf
  case h_2 => cases hf
  rename_i t xo l h
  split at hf
  case isFalse => cases hf
  rename_i hc
  simp only [Bool.and_eq_true, beq_iff_eq] at hc
  obtain ⟨⟨hs, hlo⟩, hhi⟩ := hc
  cases hf
  have hu : P.underlying t = some .string := by
    unfold isStr at hs
    split at hs
    · assumption
    · cases hs
  cases xs with
  | nil => simp only [List.map_cons] at hx; unfold RelVs at hx; exact hx.elim
  | cons y ys =>
    simp only [List.map_cons] at hx
    unfold RelVs at hx
    obtain ⟨h1, h2⟩ := hx
    simp only [A.act, actSliceStr] at ha
    split at ha
    case h_2 => cases ha
    rename_i b ys' heq
    simp only [List.cons.injEq] at heq
    obtain ⟨rfl, rfl⟩ := heq
    cases hsa : sliceArgs lo hi false b.size ys with
    | none => simp [hsa] at ha
    | some r =>
      obtain ⟨l', h', m'⟩ := r
      simp [hsa] at ha
      obtain ⟨rfl, rfl⟩ := ha
      obtain ⟨_, _, _, hb⟩ := sliceArgs_rel (P := P) (mo := none) hlo hhi rfl (by simpa using h2) hsa false b.size (Nat.le_refl _)
      refine ⟨rfl, _, ?_, scRel rfl⟩
      have hb' := hb w
      simp at hb'
      simp [execOp, relSc h1, Instr.sliceAt, Instr.slice, run_underlying hu, hb']

theorem q_lookup {kd : Nat} {zero : V} {ok : Bool} (hw : WRel μ lim w σ) (hf : fit2 P (.lookup kd zero ok) o.op = some opers) (hx : RelVs μ lim w xs (opers.map ρ)) (ha : A.act call (.lookup kd zero ok) xs σ = some (x, σ')) :
    σ' = σ ∧ Quiet P μ lim w o ρ x := by
  obtain ⟨dst, op, ty, pos, after, guard⟩ := o
  simp only [fit2] at hf
  split at hf
  case h_2 => cases hf
  rename_i t mo ko ok'
  split at hf
  case h_2 => cases hf
  rename_i kt et hu
  split at hf
  case isFalse => cases hf
  rename_i hc
  simp only [Bool.and_eq_true, decide_eq_true_eq] at hc
  obtain ⟨⟨rfl, hki⟩, hz⟩ := hc
  cases hf
  obtain ⟨z, hz1, hz2⟩ := zeroVOK_rel (μ := μ) (lim := lim) (w := w) hz
  obtain ⟨y, k, rfl, h1, h2⟩ := rel2 hx
  simp only [A.act, actLookup] at ha
  split at ha
  case h_2 => cases ha
  rename_i id k' heq
  simp only [List.cons.injEq, and_true] at heq
  obtain ⟨rfl, rfl⟩ := heq
  split at ha
  case isFalse => cases ha
  rename_i hk
  split at ha
  case h_2 => cases ha
  rename_i es hes
  unfold RelV at h1
  obtain ⟨b, hb, h1⟩ := h1
  obtain ⟨ents, nn, e1, e2, e3⟩ := getMapL_obj hw hes hb
  have hρk := key_rel hk h2
  have hck : (Instr.checkKey (Array.isEmpty ents) 10000 kt (kval k)).run P w = .ok () w := check_key _ 9998 hki hk
  have hidx : ∀ r, mapIdx k es = some r → _ := fun r hr => idx_rel (P := P) (μ := μ) (lim := lim) (w := w) hki hk e2.symm (fun j k v hj => by obtain ⟨e, q1, q2, _⟩ := e3 j k v hj; exact ⟨e, q1, q2⟩) hr
  have hrel : ∀ v ok', RelV μ lim w (.tup [v, .bool ok']) = RelV μ lim w (.tup [v, .bool ok']) := fun _ _ => rfl
  unfold mapFind at ha
  cases hm : mapIdx k es with
  | none => simp [hm] at ha
  | some r =>
    simp only [hm] at ha
    rcases hidx r hm with ⟨rfl, hfk⟩ | ⟨j, k', v', e, rfl, q1, q2, _, hfk⟩
    · simp only at ha
      cases ha
      cases ok with
      | true =>
        refine ⟨rfl, .tuple #[z, .bool false], ?_, ?_⟩
        · simp [execOp, h1, hρk, Instr.lookup, run_underlying hu, MapKept.run_getObj_map e1, hck, hfk, hz1]
        · simp only [if_true]; unfold RelV; refine ⟨_, rfl, ?_⟩; unfold RelVs; refine ⟨hz2, ?_⟩; unfold RelVs; refine ⟨scRel rfl, ?_⟩; unfold RelVs; trivial
      | false =>
        refine ⟨rfl, z, ?_, by simpa using hz2⟩
        simp [execOp, h1, hρk, Instr.lookup, run_underlying hu, MapKept.run_getObj_map e1, hck, hfk, hz1]
    · simp only [q1] at ha
      cases ha
      obtain ⟨e', q3, _, q4⟩ := e3 j k' v' q1
      rw [q2] at q3
      cases q3
      cases ok with
      | true =>
        refine ⟨rfl, .tuple #[e.val, .bool true], ?_, ?_⟩
        · simp [execOp, h1, hρk, Instr.lookup, run_underlying hu, MapKept.run_getObj_map e1, hck, hfk]
        · simp only [if_true]; unfold RelV; refine ⟨_, rfl, ?_⟩; unfold RelVs; refine ⟨q4, ?_⟩; unfold RelVs; refine ⟨scRel rfl, ?_⟩; unfold RelVs; trivial
      | false =>
        refine ⟨rfl, e.val, ?_, by simpa using q4⟩
        simp [execOp, h1, hρk, Instr.lookup, run_underlying hu, MapKept.run_getObj_map e1, hck, hfk]

theorem q_aggEq {kd : Nat} {c : Cmp} (hf : fit2 P (.aggEq kd c) o.op = some opers) (hx : RelVs μ lim w xs (opers.map ρ)) (ha : A.act call (.aggEq kd c) xs σ = some (x, σ')) :
    σ' = σ ∧ Quiet P μ lim w o ρ x := by
  obtain ⟨dst, op, ty, pos, after, guard⟩ := o
  simp only [fit2] at hf
  split at hf
  case h_2 => cases hf
  rename_i op' t xo yo yt
  split at hf
  case isFalse => cases hf
  rename_i hc
  simp only [Bool.and_eq_true, decide_eq_true_eq, Bool.not_eq_true'] at hc
  obtain ⟨⟨rfl, hki⟩, hg⟩ := hc
  cases hf
  obtain ⟨y, z, rfl, h1, h2⟩ := rel2 hx
  simp only [A.act, actAggEq] at ha
  split at ha
  case h_2 => cases ha
  rename_i as bs heq
  simp only [List.cons.injEq, and_true] at heq
  obtain ⟨rfl, rfl⟩ := heq
  split at ha
  case isFalse => cases ha
  rename_i hk
  cases he : keysEq as bs with
  | none => simp [he] at ha
  | some e =>
    simp [he] at ha
    obtain ⟨rfl, rfl⟩ := ha
    have hke : keyEq (.agg as) (.agg bs) = some e := by simp [keyEq, he]
    have r1 := key_rel hk h1
    have r2 := key_rel' hke h2
    have heq := agg_eq (w := w) hki hk he
    refine ⟨rfl, _, ?_, scRel rfl⟩
    simp only [execOp, r1, r2, kval] at heq ⊢
    rw [Sem.run_bind, cmp_run (r := e) heq (run_eqGuard_agg _ _ _ _ _ _ _ hg) (by rintro op (rfl | rfl) <;> simp [binOp])]
    rfl
end
end Go.Ab

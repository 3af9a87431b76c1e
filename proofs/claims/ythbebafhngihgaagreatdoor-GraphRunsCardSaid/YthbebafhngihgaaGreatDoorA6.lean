/- More operations that change nothing do what the abstract machine says. No premise but those named. -/
import Derived.Test.YthbebafhngihgaaGreatDoorA5
namespace Go.Ab
open Go
section
variable {P : Program} {μ : List Nat} {lim : Nat → Nat} {w : World} {σ σ' : St} {o : Oper} {ρ : Operand → Value} {xs : List V} {x : V} {call : CallT} {opers : List Operand}

theorem maxDepth_succ : Op.maxDepth = 9999 + 1 := rfl
theorem equal_bool {t : TypeId} (hu : P.underlying t = some .bool) (a b : Bool) : (Op.equal t (.bool a) (.bool b)).run P w = .ok (a == b) w := by
  rw [Op.equal, maxDepth_succ, Op.equalIn]; simp only [Sem.run_bind, run_underlying hu, Result.andThen_ok, Sem.run_pure]
theorem equal_nilp {t e : TypeId} (hu : P.underlying t = some (.pointer e)) (b : Option Addr) : (Op.equal t (.pointer b) (.pointer none)).run P w = .ok b.isNone w := by
  rw [Op.equal, maxDepth_succ, Op.equalIn]
  cases b <;> simp only [Sem.run_bind, run_underlying hu, Result.andThen_ok, Sem.run_pure] <;> rfl
theorem equal_nili {t : TypeId} {ms} (hu : P.underlying t = some (.interface ms)) : (Op.equal t .nilIface .nilIface).run P w = .ok true w := by
  rw [Op.equal, maxDepth_succ, Op.equalIn]; simp only [Sem.run_bind, run_underlying hu, Result.andThen_ok, Sem.run_pure]
theorem equal_iface_nil {t u : TypeId} {ms} {v : Value} (hu : P.underlying t = some (.interface ms)) : (Op.equal t (.iface u v) .nilIface).run P w = .ok false w := by
  rw [Op.equal, maxDepth_succ, Op.equalIn]; simp only [Sem.run_bind, run_underlying hu, Result.andThen_ok, Sem.run_pure]

theorem cmp_run {c : Cmp} {t : TypeId} {x y : Operand} {a b : Value} {r : Bool} (h : (Op.equal t a b).run P w = .ok r w) (hg : (eqGuard c.op t x y a b).run P w = .ok () w)
    (hb : ∀ op, op = BinOp.eql ∨ op = BinOp.neq → binOp op t a b = (if op = .eql then (do pure (.bool (← Op.equal t a b))) else (do pure (.bool (!(← Op.equal t a b)))))) :
    (do eqGuard c.op t x y a b; binOp c.op t a b).run P w = .ok (.bool (c.on r)) w := by
  rw [Sem.run_bind, hg]
  cases c <;> simp only [Cmp.op, Result.andThen_ok, Cmp.on]
  · rw [hb _ (.inl rfl), if_pos rfl]; simp only [Sem.run_bind, h, Result.andThen_ok, Sem.run_pure]
  · rw [hb _ (.inr rfl), if_neg (by decide)]; simp only [Sem.run_bind, h, Result.andThen_ok, Sem.run_pure]

theorem underlying_of {t : TypeId} {d : TypeDesc} (h : P.underlying t = some d) : (underlying t).run P w = .ok d w := run_underlying h w

theorem q_bbin {c : Cmp} (hf : fit1 P (.bbin c) o.op = some opers) (hx : RelVs μ lim w xs (opers.map ρ)) (ha : A.act call (.bbin c) xs σ = some (x, σ')) :
    σ' = σ ∧ Quiet P μ lim w o ρ x := by
  obtain ⟨dst, op, ty, pos, after, guard⟩ := o
  simp only [fit1] at hf
  split at hf
  case h_2 => cases hf
  rename_i op' t xo yo yt
  split at hf
  case h_2 => cases hf
  rename_i hu
  split at hf
  case isFalse => cases hf
  rename_i hc
  subst hc
  cases hf
  obtain ⟨y, z, rfl, h1, h2⟩ := rel2 hx
  simp only [A.act, actBbin] at ha
  split at ha
  · rename_i a b heq
    simp only [List.cons.injEq, and_true] at heq
    obtain ⟨rfl, rfl⟩ := heq
    cases ha
    refine ⟨rfl, _, ?_, scRel rfl⟩
    simp only [execOp, relSc h1, relSc h2]
    rw [Sem.run_bind, cmp_run (equal_bool hu a b) (by cases c <;> rfl) (by rintro op (rfl | rfl) <;> rfl)]; rfl
  · cases ha

theorem q_nilp {c : Cmp} (hf : fit1 P (.nilp c) o.op = some opers) (hx : RelVs μ lim w xs (opers.map ρ)) (ha : A.act call (.nilp c) xs σ = some (x, σ')) :
    σ' = σ ∧ Quiet P μ lim w o ρ x := by
  obtain ⟨dst, op, ty, pos, after, guard⟩ := o
  simp only [fit1] at hf
  split at hf
  case h_2 => cases hf
  rename_i op' t xo yo yt
  split at hf
  case h_2 => cases hf
  rename_i e hu
  split at hf
  case isFalse => cases hf
  rename_i hc
  subst hc
  cases hf
  obtain ⟨y, z, rfl, h1, h2⟩ := rel2 hx
  simp only [A.act, actNilp] at ha
  split at ha
  · rename_i heq
    simp only [List.cons.injEq, and_true] at heq
    obtain ⟨rfl, rfl⟩ := heq
    cases ha
    refine ⟨rfl, _, ?_, scRel rfl⟩
    simp only [execOp, relSc h1, relSc h2]
    rw [Sem.run_bind, cmp_run (equal_nilp hu none) (by cases c <;> rfl) (by rintro op (rfl | rfl) <;> rfl)]; rfl
  · rename_i i off heq
    simp only [List.cons.injEq, and_true] at heq
    obtain ⟨rfl, rfl⟩ := heq
    cases ha
    have h1' := h1
    unfold RelV at h1'
    obtain ⟨b, _, h3⟩ := h1'
    refine ⟨rfl, _, ?_, scRel rfl⟩
    simp only [execOp, h3, relSc h2]
    rw [Sem.run_bind, cmp_run (equal_nilp hu _) (by cases c <;> rfl) (by rintro op (rfl | rfl) <;> rfl)]; rfl
  · rename_i cs heq
    simp only [List.cons.injEq, and_true] at heq
    obtain ⟨rfl, rfl⟩ := heq
    cases ha
    have h1' := h1
    unfold RelV at h1'
    obtain ⟨b, off, h3, _⟩ := h1'
    refine ⟨rfl, _, ?_, scRel rfl⟩
    simp only [execOp, h3, relSc h2]
    rw [Sem.run_bind, cmp_run (equal_nilp hu _) (by cases c <;> rfl) (by rintro op (rfl | rfl) <;> rfl)]; rfl
  · cases ha

theorem q_nilif {c : Cmp} (hρ : ∀ c, ρ (.const c) = c) (hf : fit1 P (.nilif c) o.op = some opers) (hx : RelVs μ lim w xs (opers.map ρ)) (ha : A.act call (.nilif c) xs σ = some (x, σ')) :
    σ' = σ ∧ Quiet P μ lim w o ρ x := by
  obtain ⟨dst, op, ty, pos, after, guard⟩ := o
  simp only [fit1] at hf
  split at hf
  case h_2 => cases hf
  rename_i op' t xo yt
  split at hf
  case h_2 => cases hf
  rename_i ms hu
  split at hf
  case isFalse => cases hf
  rename_i hc
  subst hc
  cases hf
  obtain ⟨y, z, rfl, h1, h2⟩ := rel2 hx
  simp only [A.act, actNilif] at ha
  split at ha
  · rename_i heq
    simp only [List.cons.injEq, and_true] at heq
    obtain ⟨rfl, rfl⟩ := heq
    cases ha
    refine ⟨rfl, _, ?_, scRel rfl⟩
    simp only [execOp, relSc h1, hρ]
    rw [Sem.run_bind, cmp_run (equal_nili hu) (by cases c <;> simp [eqGuard, Cmp.op]) (by rintro op (rfl | rfl) <;> rfl)]; rfl
  · rename_i t' v heq
    simp only [List.cons.injEq, and_true] at heq
    obtain ⟨rfl, rfl⟩ := heq
    cases ha
    unfold RelV at h1
    obtain ⟨yy, h3, _⟩ := h1
    refine ⟨rfl, _, ?_, scRel rfl⟩
    simp only [execOp, h3, hρ]
    rw [Sem.run_bind, cmp_run (equal_iface_nil hu) (by cases c <;> rfl) (by rintro op (rfl | rfl) <;> rfl)]; rfl
  · cases ha

theorem q_not (hf : fit1 P (.not) o.op = some opers) (hx : RelVs μ lim w xs (opers.map ρ)) (ha : A.act call (.not) xs σ = some (x, σ')) :
    σ' = σ ∧ Quiet P μ lim w o ρ x := by
  obtain ⟨dst, op, ty, pos, after, guard⟩ := o
  simp only [fit1] at hf
  split at hf
  case h_2 => cases hf
  cases hf
  obtain ⟨y, rfl, h1⟩ := rel1 hx
  simp only [A.act, actNot] at ha
  split at ha
  · rename_i b heq
    simp only [List.cons.injEq, and_true] at heq
    subst heq
    cases ha
    exact ⟨rfl, _, by simp [execOp, relSc h1, Op.unary], scRel rfl⟩
  · cases ha

theorem q_neg (hf : fit1 P (.neg) o.op = some opers) (hx : RelVs μ lim w xs (opers.map ρ)) (ha : A.act call (.neg) xs σ = some (x, σ')) :
    σ' = σ ∧ Quiet P μ lim w o ρ x := by
  obtain ⟨dst, op, ty, pos, after, guard⟩ := o
  simp only [fit1] at hf
  split at hf
  case h_2 => cases hf
  cases hf
  obtain ⟨y, rfl, h1⟩ := rel1 hx
  simp only [A.act, actNeg, wrapF_eq] at ha
  split at ha
  · rename_i k b heq
    simp only [List.cons.injEq, and_true] at heq
    subst heq
    cases ha
    exact ⟨rfl, .int k (k.wrap (0 - b)), by simp [execOp, relSc h1, Op.unary, Op.intArith], scRel rfl⟩
  · cases ha

theorem q_conv {k : IntKind} (hf : fit1 P (.conv k) o.op = some opers) (hx : RelVs μ lim w xs (opers.map ρ)) (ha : A.act call (.conv k) xs σ = some (x, σ')) :
    σ' = σ ∧ Quiet P μ lim w o ρ x := by
  obtain ⟨dst, op, ty, pos, after, guard⟩ := o
  simp only [fit1] at hf
  split at hf
  case h_2 => cases hf
  rename_i s d xo
  split at hf
  case isFalse => cases hf
  rename_i hc
  cases hf
  simp only [Bool.and_eq_true] at hc
  obtain ⟨hs, hd⟩ := hc
  obtain ⟨y, rfl, h1⟩ := rel1 hx
  simp only [A.act, actConv, wrapF_eq] at ha
  split at ha
  · rename_i k' n heq
    simp only [List.cons.injEq, and_true] at heq
    subst heq
    cases ha
    unfold isInt at hd
    unfold Ab.isSome at hs
    obtain ⟨ds, hs'⟩ := Option.isSome_iff_exists.1 hs
    split at hd
    · rename_i kk hd'
      simp only [beq_iff_eq] at hd
      subst hd
      exact ⟨rfl, _, by simp [execOp, relSc h1, convert, run_underlying hs', run_underlying hd', Conv.intToInt], scRel rfl⟩
    · cases hd
  · cases ha

theorem q_mkIface {t : TypeId} (hf : fit1 P (.mkIface t) o.op = some opers) (hx : RelVs μ lim w xs (opers.map ρ)) (ha : A.act call (.mkIface t) xs σ = some (x, σ')) :
    σ' = σ ∧ Quiet P μ lim w o ρ x := by
  obtain ⟨dst, op, ty, pos, after, guard⟩ := o
  simp only [fit1] at hf
  split at hf
  case h_2 => cases hf
  rename_i u xo
  split at hf
  case isFalse => cases hf
  rename_i hc
  cases hf
  simp only [Bool.and_eq_true, decide_eq_true_eq] at hc
  obtain ⟨rfl, hc⟩ := hc
  obtain ⟨y, rfl, h1⟩ := rel1 hx
  simp only [A.act, actMkIface] at ha
  cases ha
  refine ⟨rfl, _, by simp [execOp, run_makeInterface, hc]; rfl, ?_⟩
  unfold RelV
  exact ⟨_, rfl, relV_erase.2 h1⟩

theorem q_nilCheck (hf : fit1 P (.nilCheck) o.op = some opers) (hx : RelVs μ lim w xs (opers.map ρ)) (ha : A.act call (.nilCheck) xs σ = some (x, σ')) :
    σ' = σ ∧ Quiet P μ lim w o ρ x := by
  obtain ⟨dst, op, ty, pos, after, guard⟩ := o
  simp only [fit1] at hf
  split at hf
  case h_2 => cases hf
  cases hf
  obtain ⟨y, rfl, h1⟩ := rel1 hx
  simp only [A.act, actNilCheck] at ha
  split at ha
  · rename_i id off heq
    simp only [List.cons.injEq, and_true] at heq
    subst heq
    cases ha
    have h1' := h1
    unfold RelV at h1'
    obtain ⟨b, _, h3⟩ := h1'
    exact ⟨rfl, _, by simp [execOp, h3]; rfl, by rw [← h3]; exact h1⟩
  · rename_i cs heq
    simp only [List.cons.injEq, and_true] at heq
    subst heq
    cases ha
    have h1' := h1
    unfold RelV at h1'
    obtain ⟨b, off, h3, _⟩ := h1'
    exact ⟨rfl, _, by simp [execOp, h3]; rfl, by rw [← h3]; exact h1⟩
  · cases ha

theorem add_at (b o n : Nat) : (⟨b, o, none⟩ : Addr).add n = ⟨b, o + n, none⟩ := by
  unfold Addr.add; split
  · rename_i h; subst h; rfl
  · rfl

theorem fieldIs_spec {t f off ft : TypeId} (h : fieldIs P t f off = some ft) : ∃ fs fd, P.underlying t = some (.struct fs) ∧ fs[f]? = some fd ∧ fd.offset = off ∧ fd.type = ft := by
  unfold fieldIs at h
  split at h
  · rename_i fs hu
    split at h
    · rename_i fd hfd
      split at h
      · rename_i ho
        cases h
        exact ⟨fs, fd, hu, hfd, ho, rfl⟩
      · cases h
    · cases h
  · cases h

theorem run_fieldAt {t f off ft : TypeId} {i : TypeInfo} (h : fieldIs P t f off = some ft) (hi : P.info? ft = some i) (hz : i.size ≠ 0) (b p : Nat) :
    (Instr.fieldAt t (.pointer (some ⟨b, p, none⟩)) f).run P w = .ok (.pointer (some ⟨b, p + off, none⟩)) w := by
  obtain ⟨fs, fd, hu, hfd, ho, ht⟩ := fieldIs_spec h
  have hs : (sizeOf fd.type).run P w = .ok i.size w := by rw [ht]; simp [sizeOf, typeInfo, hi]
  simp [Instr.fieldAt, run_underlying hu, hfd, Instr.sureAddr, fieldPlace, hs, hz, add_at, ho]

theorem q_fieldAddr {off : Nat} (hf : fit1 P (.fieldAddr off) o.op = some opers) (hx : RelVs μ lim w xs (opers.map ρ)) (ha : A.act call (.fieldAddr off) xs σ = some (x, σ')) :
    σ' = σ ∧ Quiet P μ lim w o ρ x := by
  obtain ⟨dst, op, ty, pos, after, guard⟩ := o
  simp only [fit1] at hf
  split at hf
  case h_2 => cases hf
  rename_i t xo f
  split at hf
  case h_2 => cases hf
  rename_i ft hft
  split at hf
  case h_2 => cases hf
  rename_i i hi
  split at hf
  case isTrue => cases hf
  rename_i hz
  cases hf
  obtain ⟨y, rfl, h1⟩ := rel1 hx
  simp only [A.act, actFieldAddr] at ha
  split at ha
  · rename_i id p heq
    simp only [List.cons.injEq, and_true] at heq
    subst heq
    cases ha
    unfold RelV at h1
    obtain ⟨b, hb, h3⟩ := h1
    refine ⟨rfl, .pointer (some ⟨b, p + off, none⟩), by simp [execOp, h3, run_fieldAt hft hi hz], ?_⟩
    unfold RelV; exact ⟨b, hb, rfl⟩
  · rename_i cs heq
    simp only [List.cons.injEq, and_true] at heq
    subst heq
    cases ha
    unfold RelV at h1
    obtain ⟨b, p, h3, hr⟩ := h1
    refine ⟨rfl, .pointer (some ⟨b, p + off, none⟩), by simp [execOp, h3, run_fieldAt hft hi hz], ?_⟩
    unfold RelV; exact ⟨b, p + off, rfl, hr.drop off⟩
  · cases ha

/-- A part of a row of values. -/
theorem part_rel {cs : List V} {ys : Array Value} {off n : Nat} {agg : Bool} {t : TypeId} (h : RelVs μ lim w cs ys.toList) (hp : part cs off n agg = some x)
    (hs : isSize P t n = true) (hg : isAggB P t agg = true) : ∃ X, (Go.part t ys off).run P w = .ok X w ∧ RelV μ lim w x X := by
  unfold part at hp
  split at hp
  case isFalse => cases hp
  rename_i hl
  have hlen := h.length
  simp only [Go.part, Sem.run_bind, run_isAgg hg, Result.andThen_ok]
  cases agg with
  | true =>
    simp only [if_true] at hp
    cases hp
    refine ⟨.agg (ys.extract off (off + n)), by simp [run_sizeOf hs], ?_⟩
    unfold RelV
    refine ⟨_, rfl, ?_⟩
    rw [Array.toList_extract, List.extract_eq_take_drop, Nat.add_sub_cancel_left]
    exact (h.drop off).take n
  | false =>
    simp only [Bool.false_eq_true, if_false] at hp
    split at hp
    case isFalse => cases hp
    obtain ⟨X, hX, hr⟩ := h.get hp
    have : ys[off]? = some X := by rw [← hX, Array.getElem?_toList]
    exact ⟨X, by simp [this], hr⟩

theorem q_field {off n : Nat} {agg : Bool} (hf : fit1 P (.field off n agg) o.op = some opers) (hx : RelVs μ lim w xs (opers.map ρ)) (ha : A.act call (.field off n agg) xs σ = some (x, σ')) :
    σ' = σ ∧ Quiet P μ lim w o ρ x := by
  obtain ⟨dst, op, ty, pos, after, guard⟩ := o
  simp only [fit1] at hf
  split at hf
  case h_2 => cases hf
  rename_i t xo f
  split at hf
  case h_2 => cases hf
  rename_i ft hft
  split at hf
  case isFalse => cases hf
  rename_i hc
  simp only [Bool.and_eq_true] at hc
  cases hf
  obtain ⟨y, rfl, h1⟩ := rel1 hx
  simp only [A.act, actField] at ha
  split at ha
  · rename_i cs heq
    simp only [List.cons.injEq, and_true] at heq
    subst heq
    simp only [Option.map_eq_some_iff, Prod.mk.injEq] at ha
    obtain ⟨v, hv, rfl, rfl⟩ := ha
    unfold RelV at h1
    obtain ⟨ys, h3, hr⟩ := h1
    obtain ⟨X, hX, hrel⟩ := part_rel (P := P) (t := ft) hr hv hc.1 hc.2
    obtain ⟨fs, fd, hu, hfd, ho, ht⟩ := fieldIs_spec hft
    refine ⟨rfl, X, ?_, hrel⟩
    subst ho; subst ht
    simp [execOp, h3, Instr.field, run_underlying hu, hfd, asAgg, hX]
  · cases ha

theorem run_loadCells_rel {b o n : Nat} {cs : List V} (h : ∀ (k : Nat) (v : V), cs[k]? = some v → ∃ c, w.cell? ⟨b, o + k, none⟩ = some c ∧ RelV μ lim w v c ∧ c.oneCell = true) (hn : cs.length = n) :
    ∃ X : Array Value, (loadCells ⟨b, o, none⟩ n).run P w = .ok X w ∧ RelVs μ lim w cs X.toList ∧ ∀ y ∈ X.toList, y.oneCell = true := by
  let f : Nat → Value := fun k => (w.cell? ⟨b, o + k, none⟩).getD undef
  have hc : ∀ j, j < n → w.cell? ((⟨b, o, none⟩ : Addr).add j) = some (f j) := by
    intro j hj
    obtain ⟨c, hc, _⟩ := h j cs[j] (List.getElem?_eq_getElem (by omega))
    simp [add_at, f, hc]
  refine ⟨_, run_loadCells w ⟨b, o, none⟩ n f hc, RelVs.of_get (by simp [hn]) ?_, ?_⟩
  case refine_2 =>
    intro y hy
    simp only [List.mem_map, List.mem_range] at hy
    obtain ⟨k, hk, rfl⟩ := hy
    obtain ⟨c, hc', _, h1⟩ := h k cs[k] (List.getElem?_eq_getElem (by omega))
    simp only [f, hc', Option.getD_some]; exact h1
  intro k v x hv hx
  obtain ⟨c, hc', hr⟩ := h k v hv
  have hk : k < n := by rw [← hn]; exact (List.getElem?_eq_some_iff.1 hv).1
  simp [List.getElem?_map, List.getElem?_range hk] at hx
  subst hx
  simp [f, hc']; exact hr.1

theorem run_loadVar_rel {t : TypeId} {b o n : Nat} {agg : Bool} {cs : List V} (hp : part cs 0 n agg = some x)
    (h : ∀ (k : Nat) (v : V), cs[k]? = some v → ∃ c, w.cell? ⟨b, o + k, none⟩ = some c ∧ RelV μ lim w v c ∧ c.oneCell = true)
    (hs : isSize P t n = true) (hg : isAggB P t agg = true) :
    ∃ X, (Instr.loadAt t (.pointer (some ⟨b, o, none⟩))).run P w = .ok X w ∧ RelV μ lim w x X := by
  unfold part at hp
  split at hp
  case isFalse => cases hp
  rename_i hl
  simp only [Instr.loadAt, Instr.sureAddr, Sem.run_bind, Sem.run_pure, Result.andThen_ok, loadVar, run_isAgg hg]
  cases agg with
  | true =>
    simp only [if_true, List.drop_zero] at hp
    cases hp
    obtain ⟨X, hX, hr⟩ := run_loadCells_rel (P := P) (n := n) (cs := cs.take n) (fun k v hv => by
      rw [List.getElem?_take] at hv; split at hv
      · exact h k v hv
      · simp at hv) (by simp; omega)
    refine ⟨.agg X, by simp [run_sizeOf hs, hX], ?_⟩
    unfold RelV; exact ⟨_, rfl, hr.1⟩
  | false =>
    simp only [Bool.false_eq_true, if_false] at hp
    split at hp
    case isFalse => cases hp
    obtain ⟨X, hX, hr⟩ := h 0 x hp
    exact ⟨X, by simp at hX; simp [hX], hr.1⟩

theorem q_load {n : Nat} {agg : Bool} (hw : WRel μ lim w σ) (hf : fit1 P (.load n agg) o.op = some opers) (hx : RelVs μ lim w xs (opers.map ρ)) (ha : A.act call (.load n agg) xs σ = some (x, σ')) :
    σ' = σ ∧ Quiet P μ lim w o ρ x := by
  obtain ⟨dst, op, ty, pos, after, guard⟩ := o
  simp only [fit1] at hf
  split at hf
  case h_2 => cases hf
  rename_i t xo
  split at hf
  case isFalse => cases hf
  rename_i hc
  simp only [Bool.and_eq_true] at hc
  cases hf
  obtain ⟨y, rfl, h1⟩ := rel1 hx
  simp only [A.act, actLoad] at ha
  split at ha
  · rename_i id off heq
    simp only [List.cons.injEq, and_true] at heq
    subst heq
    split at ha
    · rename_i ob ho
      split at ha
      · rename_i cs hcs
        simp only [Option.map_eq_some_iff, Prod.mk.injEq] at ha
        obtain ⟨v, hv, rfl, rfl⟩ := ha
        unfold RelV at h1
        obtain ⟨b, hb, h3⟩ := h1
        have hob := (hw.obj id b _ ho hb).cellsOf hcs
        have hp : part (cs.drop off) 0 n agg = some v := by
          unfold part at hv ⊢
          split at hv
          · rename_i hl
            rw [if_pos (by simp; omega)]
            simpa using hv
          · cases hv
        obtain ⟨X, hX, hr⟩ := run_loadVar_rel (P := P) (w := w) (b := b) (o := off) hp (fun k v' hv' => by
          rw [List.getElem?_drop] at hv'
          exact hob.2.2.2 _ _ hv') hc.1.1 hc.1.2
        exact ⟨rfl, X, by simp [execOp, h3, hX], hr⟩
      · cases ha
    · cases ha
  · rename_i cs heq
    simp only [List.cons.injEq, and_true] at heq
    subst heq
    simp only [Option.map_eq_some_iff, Prod.mk.injEq] at ha
    obtain ⟨v, hv, rfl, rfl⟩ := ha
    unfold RelV at h1
    obtain ⟨b, off, h3, hr⟩ := h1
    obtain ⟨X, hX, hrel⟩ := run_loadVar_rel (P := P) (w := w) (b := b) (o := off) hv (fun k v' hv' => (hr.get hv').2) hc.1.1 hc.1.2
    exact ⟨rfl, X, by simp [execOp, h3, hX], hrel⟩
  · cases ha

theorem sliceElem_spec {t e : TypeId} (h : sliceElem P t = some e) : P.underlying t = some (.slice e) := by
  unfold sliceElem at h
  split at h
  · rename_i hu; cases h; exact hu
  · cases h

theorem q_indexAddr {sz : Nat} (hf : fit1 P (.indexAddr sz) o.op = some opers) (hx : RelVs μ lim w xs (opers.map ρ)) (ha : A.act call (.indexAddr sz) xs σ = some (x, σ')) :
    σ' = σ ∧ Quiet P μ lim w o ρ x := by
  obtain ⟨dst, op, ty, pos, after, guard⟩ := o
  simp only [fit1] at hf
  split at hf
  case h_2 => cases hf
  rename_i t xo io
  split at hf
  case h_2 => cases hf
  rename_i e he
  have hu := sliceElem_spec he
  split at hf
  case isFalse => cases hf
  rename_i hs
  cases hf
  obtain ⟨y, z, rfl, h1, h2⟩ := rel2 hx
  simp only [A.act, actIndexAddr] at ha
  split at ha
  · rename_i own sz' l k i heq
    simp only [List.cons.injEq, and_true] at heq
    obtain ⟨rfl, rfl⟩ := heq
    split at ha
    · rename_i hc
      obtain ⟨rfl, hi⟩ := hc
      simp only [Option.map_eq_some_iff, Prod.mk.injEq] at ha
      obtain ⟨cs, hcs, rfl, rfl⟩ := ha
      have hlt := (List.getElem?_eq_some_iff.1 hcs).1
      unfold RelV at h1
      obtain ⟨base, cap, h3, h4, h5, h6⟩ := h1
      cases base with
      | none => simp only at h6; omega
      | some a =>
        obtain ⟨blk, of, sp⟩ := a
        simp only at h6
        obtain ⟨rfl, h6⟩ := h6
        have hg := h6.get hcs
        refine ⟨rfl, .pointer (some ⟨blk, of + i.toNat * sz, none⟩), ?_, ?_⟩
        · have hb : 0 ≤ i ∧ i < (l.length : Int) := ⟨hi, by omega⟩
          simp [execOp, h3, relSc h2, Instr.indexAt, asIntOf, run_underlying hu, hb, run_sizeOf hs, add_at]
        · unfold RelV; exact ⟨_, _, rfl, hg.2⟩
    · cases ha
  · rename_i id off n sz' k i heq
    simp only [List.cons.injEq, and_true] at heq
    obtain ⟨rfl, rfl⟩ := heq
    split at ha
    · rename_i hc
      obtain ⟨rfl, hi, hn⟩ := hc
      cases ha
      unfold RelV at h1
      obtain ⟨b, cap, h3, h4, h5, h6, h7⟩ := h1
      refine ⟨rfl, .pointer (some ⟨b, off + i.toNat * sz, none⟩), ?_, ?_⟩
      · have hb : 0 ≤ i ∧ i < (n : Int) := ⟨hi, hn⟩
        simp [execOp, h6, relSc h2, Instr.indexAt, asIntOf, run_underlying hu, hb, run_sizeOf hs, add_at]
      · unfold RelV; exact ⟨b, h3, rfl⟩
    · cases ha
  · cases ha

theorem q_extract {i : Nat} (hf : fit1 P (.extract i) o.op = some opers) (hx : RelVs μ lim w xs (opers.map ρ)) (ha : A.act call (.extract i) xs σ = some (x, σ')) :
    σ' = σ ∧ Quiet P μ lim w o ρ x := by
  obtain ⟨dst, op, ty, pos, after, guard⟩ := o
  simp only [fit1] at hf
  split at hf
  case h_2 => cases hf
  rename_i xo j
  split at hf
  case isFalse => cases hf
  rename_i hij
  subst hij
  cases hf
  obtain ⟨y, rfl, h1⟩ := rel1 hx
  simp only [A.act, actExtract] at ha
  split at ha
  · rename_i vs heq
    simp only [List.cons.injEq, and_true] at heq
    subst heq
    simp only [Option.map_eq_some_iff, Prod.mk.injEq] at ha
    obtain ⟨v, hv, rfl, rfl⟩ := ha
    unfold RelV at h1
    obtain ⟨ys, h3, hr⟩ := h1
    obtain ⟨X, hX, hrel⟩ := hr.get hv
    rw [Array.getElem?_toList] at hX
    exact ⟨rfl, X, by simp [execOp, h3, Instr.extract, hX], hrel⟩
  · cases ha

theorem getMap_spec {id : Nat} {es : List (V × V)} (h : σ.getMap id = some es) : σ.objs[id]? = some (.map es) := by
  unfold St.getMap at h
  split at h
  · rename_i ho; cases h; exact ho
  · cases h
theorem get_spec {id : Nat} {cs : List V} (h : σ.get id = some cs) : σ.objs[id]? = some (.cells cs) := by
  unfold St.get at h
  split at h
  · rename_i ho; cases h; exact ho
  · cases h
theorem run_getObj_map {b : Nat} {es : Array MapEntry} {k : Nat} (h : w.heap[b]? = some (.map es k)) : (getObj b).run P w = .ok (.map es k) w := by
  simp only [getObj, Sem.run, h]

theorem q_len {k : Nat} (hw : WRel μ lim w σ) (hf : fit1 P (.len k) o.op = some opers) (hx : RelVs μ lim w xs (opers.map ρ)) (ha : A.act call (.len k) xs σ = some (x, σ')) :
    σ' = σ ∧ Quiet P μ lim w o ρ x := by
  obtain ⟨dst, op, ty, pos, after, guard⟩ := o
  simp only [fit1] at hf
  split at hf
  case h_2 => cases hf
  rename_i c
  obtain ⟨callee, args, argTypes⟩ := c
  split at hf
  case h_2 => cases hf
  rename_i xo t hcal hargs htys
  simp only at hcal hargs htys
  subst hcal
  obtain rfl : args = #[xo] := by rw [← Array.toList_inj]; simpa using hargs
  obtain rfl : argTypes = #[t] := by rw [← Array.toList_inj]; simpa using htys
  have ex : ∀ X v, ρ xo = X → (Builtin.len_ #[t] ty #[X]).run P w = .ok v w → (execOp ρ ⟨dst, .call { callee := .builtin .len, args := #[xo], argTypes := #[t] }, ty, pos, after, guard⟩).run P w = .ok (.value v) w := by
    intro X v hX hv
    simp [execOp, resolve, invoke, builtin, hX, hv]
  have ho : opers = [xo] ∧ ((k = 1 ∧ P.underlying t = some .string) ∨ (k = 0 ∧ ∃ e, P.underlying t = some (.slice e)) ∨ (k = 2 ∧ ∃ k v, P.underlying t = some (.map k v))) := by
    split at hf <;> first
      | (split at hf
         · rename_i hu hk; cases hf; exact ⟨rfl, by simp [hu, hk]⟩
         · cases hf)
      | cases hf
  obtain ⟨rfl, hu⟩ := ho
  obtain ⟨y, rfl, h1⟩ := rel1 hx
  simp only [A.act, actLen] at ha
  split at ha
  · rename_i own sz l heq
    simp only [List.cons.injEq, and_true] at heq
    subst heq
    split at ha
    · rename_i hk
      cases ha
      unfold RelV at h1
      obtain ⟨base, cap, h3, _⟩ := h1
      obtain ⟨e, hu⟩ : ∃ e, P.underlying t = some (.slice e) := by
        rcases hu with ⟨h, _⟩ | ⟨_, h⟩ | ⟨h, _⟩ <;> first | exact h | omega
      exact ⟨rfl, _, ex _ _ h3 (by simp [Builtin.len_, run_underlying hu, goInt]), scRel rfl⟩
    · cases ha
  · rename_i id off n sz heq
    simp only [List.cons.injEq, and_true] at heq
    subst heq
    split at ha
    · rename_i hk
      cases ha
      unfold RelV at h1
      obtain ⟨b, cap, _, _, _, h3, _⟩ := h1
      obtain ⟨e, hu⟩ : ∃ e, P.underlying t = some (.slice e) := by
        rcases hu with ⟨h, _⟩ | ⟨_, h⟩ | ⟨h, _⟩ <;> first | exact h | omega
      exact ⟨rfl, _, ex _ _ h3 (by simp [Builtin.len_, run_underlying hu, goInt]), scRel rfl⟩
    · cases ha
  · rename_i b heq
    simp only [List.cons.injEq, and_true] at heq
    subst heq
    split at ha
    · rename_i hk
      cases ha
      have hu : P.underlying t = some .string := by
        rcases hu with ⟨_, h⟩ | ⟨h, _⟩ | ⟨h, _⟩ <;> first | exact h | omega
      exact ⟨rfl, _, ex _ _ (relSc h1) (by simp [Builtin.len_, run_underlying hu, goInt]), scRel rfl⟩
    · cases ha
  · rename_i id heq
    simp only [List.cons.injEq, and_true] at heq
    subst heq
    split at ha
    · rename_i hk
      split at ha
      · rename_i es hes
        cases ha
        unfold RelV at h1
        obtain ⟨b, hb, h3⟩ := h1
        obtain ⟨kt, vt, hu⟩ : ∃ k v, P.underlying t = some (.map k v) := by
          rcases hu with ⟨h, _⟩ | ⟨h, _⟩ | ⟨_, h⟩ <;> first | exact h | omega
        obtain ⟨_, ents, hents, hsz, _⟩ := hw.obj id b _ (getMap_spec hes) hb
        exact ⟨rfl, _, ex _ _ h3 (by simp [Builtin.len_, run_underlying hu, goInt, run_getObj_map hents, hsz]), scRel rfl⟩
      · cases ha
    · cases ha
  · cases ha
end
end Go.Ab

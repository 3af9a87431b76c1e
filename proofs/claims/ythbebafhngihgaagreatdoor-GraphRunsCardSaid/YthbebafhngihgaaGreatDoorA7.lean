/- The last of the operations that change nothing. No premise but those named. -/
import Derived.Test.YthbebafhngihgaaGreatDoorK1
namespace Go.Ab
open Go

/-- Constants, cell by cell. -/
def constsOK : List V → List Value → Bool
  | [], [] => true
  | v :: vs, c :: cs => constOK v c && constsOK vs cs
  | _, _ => false

theorem constOK_spec {v : V} {c : Value} (h : constOK v c = true) : c.oneCell = true ∧ c.noAgg = true ∧ v.leaf = true ∧ (∀ cs, v ≠ .agg cs) := by
  unfold constOK at h
  split at h <;> first
    | (refine ⟨rfl, rfl, rfl, ?_⟩; intro cs hc; cases hc; done)
    | (simp at h; done)

theorem constsOK_rel {μ lim w} : ∀ {vs : List V} {cs : List Value}, constsOK vs cs = true → RelVs μ lim w vs cs ∧ ∀ c ∈ cs, c.oneCell = true
  | [], [], _ => by unfold RelVs; exact ⟨trivial, by simp⟩
  | v :: vs, c :: cs, h => by
    simp only [constsOK, Bool.and_eq_true] at h
    obtain ⟨h1, h2⟩ := constsOK_rel (μ := μ) (lim := lim) (w := w) h.2
    unfold RelVs
    refine ⟨⟨constOK_rel h.1, h1⟩, fun x hx => ?_⟩
    rcases List.mem_cons.1 hx with rfl | hx
    · exact (constOK_spec h.1).1
    · exact h2 x hx
  | [], _ :: _, h => by simp [constsOK] at h
  | _ :: _, [], h => by simp [constsOK] at h

/-- The zero value of a type, as cells. -/
def zeroOK (P : Program) (t : TypeId) (zero : List V) : Bool := match P.info? t with
  | some i => match i.zero with
    | some z => constsOK zero z.cells.toList && i.size == zero.length
    | none => false
  | none => false
theorem zeroOK_spec {P : Program} {t : TypeId} {zero : List V} (h : zeroOK P t zero = true) : ∃ i z, P.info? t = some i ∧ i.zero = some z ∧ constsOK zero z.cells.toList = true ∧ i.size = zero.length := by
  unfold zeroOK at h
  split at h
  · rename_i i hi
    split at h
    · rename_i z hz
      simp only [Bool.and_eq_true, beq_iff_eq] at h
      exact ⟨i, z, hi, hz, h.1, h.2⟩
    · cases h
  · cases h

/-- The zero value of a type, as a value. -/
def zeroVOK (P : Program) (t : TypeId) (zero : V) : Bool := match P.info? t with
  | some i => match i.zero with
    | some (.agg cs) => (match zero with
      | .agg vs => constsOK vs cs.toList
      | _ => false)
    | some z => constOK zero z
    | none => false
  | none => false
theorem zeroVOK_rel {P : Program} {t : TypeId} {zero : V} {μ : List Nat} {lim : Nat → Nat} {w : World} (h : zeroVOK P t zero = true) : ∃ z, (∀ w', (zeroValue t).run P w' = .ok z w') ∧ RelV μ lim w zero z := by
  unfold zeroVOK at h
  split at h
  · rename_i i hi
    split at h
    · rename_i cs hz
      split at h
      · refine ⟨_, fun w' => by simp [zeroValue, typeInfo, hi, hz]; rfl, ?_⟩
        unfold RelV
        exact ⟨cs, rfl, (constsOK_rel h).1⟩
      · cases h
    · rename_i z _ hz
      exact ⟨z, fun w' => by simp [zeroValue, typeInfo, hi, hz], constOK_rel h⟩
    · cases h
  · cases h

/-- As fit1, for other operations. -/
def fit2 (P : Program) (a : A) (op : Op) : Option (List Operand) :=
  match a with
  | .lookup kd zero ok => match op with
    | .lookup t m k ok' => match P.underlying t with
      | some (.map kt e) => if ok = ok' && keyIs P kt kd && zeroVOK P e zero then some [m, k] else none
      | _ => none
    | _ => none
  | .aggEq kd c => match op with
    | .binOp b t x y _ => if b = c.op && aggIs P t kd && !P.eqGuardType P.depth t then some [x, y] else none
    | _ => none
  | .chr => match op with
    | .convert s d x => match P.underlying s with
      | some (.int _) => if isStr P d then some [x] else none
      | _ => none
    | _ => none
  | .str => match op with
    | .convert s d x => match P.underlying s with
      | some (.slice e) => if isStr P d && isInt P e .u8 then some [x] else none
      | _ => none
    | _ => none
  | .sliceStr lo hi => match op with
    | .slice t x l h none => if isStr P t && l.isSome == lo && h.isSome == hi then some (x :: (l.toList ++ h.toList)) else none
    | _ => none
  | _ => none

section
variable {P : Program} {μ : List Nat} {lim : Nat → Nat} {w : World} {σ σ' : St} {o : Oper} {ρ : Operand → Value} {xs : List V} {x : V} {call : CallT} {opers : List Operand}

theorem relVs_map {l : List Operand} (h : RelVs μ lim w xs (l.map ρ)) (n : Nat) : RelVs μ lim w (xs.take n) ((l.take n).map ρ) ∧ RelVs μ lim w (xs.drop n) ((l.drop n).map ρ) := by
  rw [List.map_take, List.map_drop]; exact ⟨h.take n, h.drop n⟩

theorem q_mkFunc {fn : Fn} {n : Nat} (hf : fit1 P (.mkFunc fn n) o.op = some opers) (hx : RelVs μ lim w xs (opers.map ρ)) (ha : A.act call (.mkFunc fn n) xs σ = some (x, σ')) :
    σ' = σ ∧ Quiet P μ lim w o ρ x := by
  obtain ⟨dst, op, ty, pos, after, guard⟩ := o
  simp only [fit1] at hf
  split at hf
  case h_2 => cases hf
  rename_i fn' first cap
  split at hf
  case isFalse => cases hf
  rename_i hc
  simp only [Bool.and_eq_true, decide_eq_true_eq] at hc
  obtain ⟨rfl, hn⟩ := hc
  cases hf
  simp only [A.act] at ha
  cases ha
  refine ⟨rfl, _, rfl, ?_⟩
  unfold RelV
  have h1 : (first.toList ++ cap.toList).take n = first.toList := by rw [← hn]; simp
  have h2 : (first.toList ++ cap.toList).drop n = cap.toList := by rw [← hn]; simp
  obtain ⟨k1, k2⟩ := relVs_map hx n
  rw [h1] at k1
  rw [h2] at k2
  exact ⟨_, _, rfl, by simpa using k1, by simpa using k2⟩

theorem q_indexAgg {sz n : Nat} {agg : Bool} (hf : fit1 P (.indexAgg sz n agg) o.op = some opers) (hx : RelVs μ lim w xs (opers.map ρ)) (ha : A.act call (.indexAgg sz n agg) xs σ = some (x, σ')) :
    σ' = σ ∧ Quiet P μ lim w o ρ x := by
  obtain ⟨dst, op, ty, pos, after, guard⟩ := o
  simp only [fit1] at hf
  split at hf
  case h_2 => cases hf
  rename_i t xo io
  split at hf
  case h_2 => cases hf
  rename_i k e hu
  split at hf
  case isFalse => cases hf
  rename_i hc
  simp only [Bool.and_eq_true, decide_eq_true_eq] at hc
  obtain ⟨⟨rfl, hs⟩, hg⟩ := hc
  cases hf
  obtain ⟨y, z, rfl, h1, h2⟩ := rel2 hx
  simp only [A.act, actIndexAgg] at ha
  split at ha
  case h_2 => cases ha
  rename_i cs kk i heq
  simp only [List.cons.injEq, and_true] at heq
  obtain ⟨rfl, rfl⟩ := heq
  split at ha
  case isFalse => cases ha
  rename_i hb
  cases hp : part cs (i.toNat * sz) sz agg with
  | none => simp [hp] at ha
  | some v =>
    simp [hp] at ha
    obtain ⟨rfl, rfl⟩ := ha
    unfold RelV at h1
    obtain ⟨ys, h3, h4⟩ := h1
    obtain ⟨X, hX, hrel⟩ := part_rel (P := P) h4 hp hs hg
    refine ⟨rfl, X, ?_, hrel⟩
    have hb' : (0 ≤ i ∧ i < (k : Int)) := hb
    simp [execOp, h3, relSc h2, Instr.index, asIntOf, run_underlying hu, hb', run_sizeOf hs, hX]

theorem q_indexStr (hf : fit1 P .indexStr o.op = some opers) (hx : RelVs μ lim w xs (opers.map ρ)) (ha : A.act call .indexStr xs σ = some (x, σ')) :
    σ' = σ ∧ Quiet P μ lim w o ρ x := by
  obtain ⟨dst, op, ty, pos, after, guard⟩ := o
  simp only [fit1] at hf
  split at hf
  case h_2 => cases hf
  rename_i t xo io
  split at hf
  case isFalse => cases hf
  rename_i hc
  cases hf
  have hu : P.underlying t = some .string := by
    unfold isStr at hc
    split at hc
    · assumption
    · cases hc
  obtain ⟨y, z, rfl, h1, h2⟩ := rel2 hx
  simp only [A.act, actIndexStr] at ha
  split at ha
  case h_2 => cases ha
  rename_i b kk i heq
  simp only [List.cons.injEq, and_true] at heq
  obtain ⟨rfl, rfl⟩ := heq
  split at ha
  case isFalse => cases ha
  rename_i hb
  cases hp : b.data.toList[i.toNat]? with
  | none => simp [hp] at ha
  | some c =>
    simp [hp] at ha
    obtain ⟨rfl, rfl⟩ := ha
    have hp' : b[i.toNat]? = some c := by
      rw [Array.getElem?_toList] at hp
      obtain ⟨hlt, hv⟩ := Array.getElem?_eq_some_iff.1 hp
      have hlt' : i.toNat < b.size := hlt
      rw [getElem?_pos b i.toNat hlt']
      exact congrArg some hv
    refine ⟨rfl, _, ?_, scRel rfl⟩
    simp [execOp, relSc h1, relSc h2, Instr.index, asIntOf, run_underlying hu, hb, hp']

theorem q_chr (hf : fit2 P .chr o.op = some opers) (hx : RelVs μ lim w xs (opers.map ρ)) (ha : A.act call .chr xs σ = some (x, σ')) :
    σ' = σ ∧ Quiet P μ lim w o ρ x := by
  obtain ⟨dst, op, ty, pos, after, guard⟩ := o
  simp only [fit2] at hf
  split at hf
  case h_2 => cases hf
  rename_i s d xo
  split at hf
  case h_2 => cases hf
  rename_i ik hs
  split at hf
  case isFalse => cases hf
  rename_i hd
  cases hf
  have hd' : P.underlying d = some .string := by
    unfold isStr at hd
    split at hd
    · assumption
    · cases hd
  obtain ⟨y, rfl, h1⟩ := rel1 hx
  simp only [A.act, actChr] at ha
  split at ha
  case h_2 => cases ha
  rename_i kk n heq
  simp only [List.cons.injEq, and_true] at heq
  subst heq
  split at ha
  case isFalse => cases ha
  rename_i hb
  cases ha
  refine ⟨rfl, _, ?_, scRel rfl⟩
  have henc : Utf8.encode n = ⟨#[UInt8.ofNat n.toNat]⟩ := by
    have hv : Utf8.valid n = true := by
      simp only [Utf8.valid, Bool.and_eq_true, Bool.or_eq_true, decide_eq_true_eq]
      omega
    simp only [Utf8.encode, hv, if_true]
    rw [if_pos (by omega)]
  simp [execOp, relSc h1, convert, run_underlying hs, run_underlying hd', Conv.intToString, henc]

theorem bound_spec {i : Int} {n c : Nat} (h : bound i n = some c) : 0 ≤ i ∧ i ≤ n ∧ i.toNat = c := by
  unfold bound at h
  split at h
  · rename_i hb; cases h; exact ⟨hb.1, hb.2, rfl⟩
  · cases h
theorem run_sliceBound {i : Int} {n c : Nat} (h0 : 0 ≤ i) (hn : i ≤ n) (hc : i.toNat = c) (k : IntKind) (code : BoundsCode) (w' : World) : (Instr.sliceBound (.int k i) n code).run P w' = .ok c w' := by
  simp [Instr.sliceBound, asIntOf, h0, hn, hc]

theorem sliceArgs_rel {lo hi mx : Bool} {n : Nat} {ys : List V} {l h mo : Option Operand} {a b : Nat} {m : Bool} (hlo : l.isSome = lo) (hhi : h.isSome = hi) (hmx : mo.isSome = mx)
    (hx : RelVs μ lim w ys ((l.toList ++ h.toList ++ mo.toList).map ρ)) (ha : sliceArgs lo hi mx n ys = some (a, b, m)) (is : Bool) (cap : Nat) (hcap : n ≤ cap) :
    m = mx ∧ a ≤ b ∧ b ≤ n ∧ ∀ w', (Instr.sliceBounds is n cap (l.map ρ) (h.map ρ) (mo.map ρ)).run P w' = .ok (a, b, if mx then b else cap) w' := by
  unfold sliceArgs at ha
  dsimp only at ha
  split at ha
  · -- nothing
    cases l <;> cases h <;> cases mo <;> simp_all
    obtain ⟨rfl, rfl, _⟩ := ha
    exact ⟨by omega, fun w' => by simp [Instr.sliceBounds]⟩
  · rename_i kk i
    cases l with
    | none => simp at hlo
    | some l =>
      cases h <;> cases mo <;> simp_all
      obtain ⟨c, hc, rfl, rfl, _⟩ := ha
      obtain ⟨b1, b2, b3⟩ := bound_spec hc
      have h1 : ρ l = .int kk i := by unfold RelVs at hx; exact relSc hx.1
      refine ⟨by first | assumption | omega | simp_all, by omega, by omega, fun w' => ?_⟩
      simp [Instr.sliceBounds, h1, run_sliceBound b1 b2 b3]
  · rename_i kk i
    cases h with
    | none => simp at hhi
    | some h =>
      cases l <;> cases mo <;> simp_all
      obtain ⟨c, hc, rfl, rfl, _⟩ := ha
      obtain ⟨b1, b2, b3⟩ := bound_spec hc
      have h1 : ρ h = .int kk i := by unfold RelVs at hx; exact relSc hx.1
      refine ⟨by first | assumption | omega | simp_all, by omega, by omega, fun w' => ?_⟩
      have hle : i ≤ (cap : Int) := by omega
      simp [Instr.sliceBounds, h1, run_sliceBound b1 hle b3]
  · rename_i kk i kk' j
    cases l with
    | none => simp at hlo
    | some l => cases h with
      | none => simp at hhi
      | some h =>
        cases mo <;> simp_all
        split at ha
        case h_2 => cases ha
        rename_i c hc
        simp at ha
        obtain ⟨d, hd, rfl, rfl, _⟩ := ha
        obtain ⟨b1, b2, b3⟩ := bound_spec hc
        obtain ⟨d1, d2, d3⟩ := bound_spec hd
        unfold RelVs at hx
        have hx2 := hx.2
        unfold RelVs at hx2
        have h1 : ρ l = .int kk i := relSc hx.1
        have h2 : ρ h = .int kk' j := relSc hx2.1
        refine ⟨by first | assumption | omega | simp_all, by omega, by omega, fun w' => ?_⟩
        have hle : j ≤ (cap : Int) := by omega
        simp [Instr.sliceBounds, h1, h2, run_sliceBound b1 hle b3, run_sliceBound d1 d2 d3]
  · rename_i kk i kk' j
    cases l with
    | some l => simp at hlo
    | none => cases h with
      | none => simp at hhi
      | some h => cases mo with
        | none => simp at hmx
        | some mo =>
          split at ha
          case isFalse => cases ha
          rename_i hij
          subst hij
          simp_all
          obtain ⟨c, hc, rfl, rfl, _⟩ := ha
          obtain ⟨b1, b2, b3⟩ := bound_spec hc
          unfold RelVs at hx
          have hx2 := hx.2
          unfold RelVs at hx2
          have h1 : ρ h = .int kk i := relSc hx.1
          have h2 : ρ mo = .int kk' i := relSc hx2.1
          refine ⟨by first | assumption | omega | simp_all, by omega, by omega, fun w' => ?_⟩
          have hle : i ≤ (cap : Int) := by omega
          have hle2 : i ≤ (c : Int) := by omega
          simp [Instr.sliceBounds, h1, h2, run_sliceBound b1 hle b3, run_sliceBound b1 hle2 b3]
  · cases ha

theorem q_sliceStr {lo hi : Bool} (hf : fit2 P (.sliceStr lo hi) o.op = some opers) (hx : RelVs μ lim w xs (opers.map ρ)) (ha : A.act call (.sliceStr lo hi) xs σ = some (x, σ')) :
    σ' = σ ∧ Quiet P μ lim w o ρ x := by
  obtain ⟨dst, op, ty, pos, after, guard⟩ := o
  simp only [fit2] at hf
  split at hf
  case h_2 => cases hf
  rename_i t xo l h
  split at hf
  case isFalse => cases hf
  rename_i hc
  simp only [Bool.and_eq_true, beq_iff_eq] at hc
  obtain ⟨⟨hs, hlo⟩, hhi⟩ := hc
  cases hf
  have hu : P.underlying t = some .string := by
    unfold isStr at hs
    split at hs
    · assumption
    · cases hs
  cases xs with
  | nil => simp only [List.map_cons] at hx; unfold RelVs at hx; exact hx.elim
  | cons y ys =>
    simp only [List.map_cons] at hx
    unfold RelVs at hx
    obtain ⟨h1, h2⟩ := hx
    simp only [A.act, actSliceStr] at ha
    split at ha
    case h_2 => cases ha
    rename_i b ys' heq
    simp only [List.cons.injEq] at heq
    obtain ⟨rfl, rfl⟩ := heq
    cases hsa : sliceArgs lo hi false b.size ys with
    | none => simp [hsa] at ha
    | some r =>
      obtain ⟨l', h', m'⟩ := r
      simp [hsa] at ha
      obtain ⟨rfl, rfl⟩ := ha
      obtain ⟨_, _, _, hb⟩ := sliceArgs_rel (P := P) (mo := none) hlo hhi rfl (by simpa using h2) hsa false b.size (Nat.le_refl _)
      refine ⟨rfl, _, ?_, scRel rfl⟩
      have hb' := hb w
      simp at hb'
      simp [execOp, relSc h1, Instr.sliceAt, Instr.slice, run_underlying hu, hb']

theorem q_lookup {kd : Nat} {zero : V} {ok : Bool} (hw : WRel μ lim w σ) (hf : fit2 P (.lookup kd zero ok) o.op = some opers) (hx : RelVs μ lim w xs (opers.map ρ)) (ha : A.act call (.lookup kd zero ok) xs σ = some (x, σ')) :
    σ' = σ ∧ Quiet P μ lim w o ρ x := by
  obtain ⟨dst, op, ty, pos, after, guard⟩ := o
  simp only [fit2] at hf
  split at hf
  case h_2 => cases hf
  rename_i t mo ko ok'
  split at hf
  case h_2 => cases hf
  rename_i kt et hu
  split at hf
  case isFalse => cases hf
  rename_i hc
  simp only [Bool.and_eq_true, decide_eq_true_eq] at hc
  obtain ⟨⟨rfl, hki⟩, hz⟩ := hc
  cases hf
  obtain ⟨z, hz1, hz2⟩ := zeroVOK_rel (μ := μ) (lim := lim) (w := w) hz
  obtain ⟨y, k, rfl, h1, h2⟩ := rel2 hx
  simp only [A.act, actLookup] at ha
  split at ha
  case h_2 => cases ha
  rename_i id k' heq
  simp only [List.cons.injEq, and_true] at heq
  obtain ⟨rfl, rfl⟩ := heq
  split at ha
  case isFalse => cases ha
  rename_i hk
  split at ha
  case h_2 => cases ha
  rename_i es hes
  unfold RelV at h1
  obtain ⟨b, hb, h1⟩ := h1
  have hob := hw.obj id b _ (getMap_spec hes) hb
  obtain ⟨_, ents, e1, e2, e3⟩ := hob
  have hρk := key_rel hk h2
  have hck : (Instr.checkKey (Array.isEmpty ents) 10000 kt (kval k)).run P w = .ok () w := check_key _ 9998 hki hk
  have hidx : ∀ r, mapIdx k es = some r → _ := fun r hr => idx_rel (P := P) (μ := μ) (lim := lim) (w := w) hki hk e2.symm (fun j k v hj => by obtain ⟨e, q1, q2, _⟩ := e3 j k v hj; exact ⟨e, q1, q2⟩) hr
  have hrel : ∀ v ok', RelV μ lim w (.tup [v, .bool ok']) = RelV μ lim w (.tup [v, .bool ok']) := fun _ _ => rfl
  unfold mapFind at ha
  cases hm : mapIdx k es with
  | none => simp [hm] at ha
  | some r =>
    simp only [hm] at ha
    rcases hidx r hm with ⟨rfl, hfk⟩ | ⟨j, k', v', e, rfl, q1, q2, _, hfk⟩
    · simp only at ha
      cases ha
      cases ok with
      | true =>
        refine ⟨rfl, .tuple #[z, .bool false], ?_, ?_⟩
        · simp [execOp, h1, hρk, Instr.lookup, run_underlying hu, MapKept.run_getObj_map e1, hck, hfk, hz1]
        · simp only [if_true]; unfold RelV; refine ⟨_, rfl, ?_⟩; unfold RelVs; refine ⟨hz2, ?_⟩; unfold RelVs; refine ⟨scRel rfl, ?_⟩; unfold RelVs; trivial
      | false =>
        refine ⟨rfl, z, ?_, by simpa using hz2⟩
        simp [execOp, h1, hρk, Instr.lookup, run_underlying hu, MapKept.run_getObj_map e1, hck, hfk, hz1]
    · simp only [q1] at ha
      cases ha
      obtain ⟨e', q3, _, q4, _⟩ := e3 j k' v' q1
      rw [q2] at q3
      cases q3
      cases ok with
      | true =>
        refine ⟨rfl, .tuple #[e.val, .bool true], ?_, ?_⟩
        · simp [execOp, h1, hρk, Instr.lookup, run_underlying hu, MapKept.run_getObj_map e1, hck, hfk]
        · simp only [if_true]; unfold RelV; refine ⟨_, rfl, ?_⟩; unfold RelVs; refine ⟨q4, ?_⟩; unfold RelVs; refine ⟨scRel rfl, ?_⟩; unfold RelVs; trivial
      | false =>
        refine ⟨rfl, e.val, ?_, by simpa using q4⟩
        simp [execOp, h1, hρk, Instr.lookup, run_underlying hu, MapKept.run_getObj_map e1, hck, hfk]

theorem q_aggEq {kd : Nat} {c : Cmp} (hf : fit2 P (.aggEq kd c) o.op = some opers) (hx : RelVs μ lim w xs (opers.map ρ)) (ha : A.act call (.aggEq kd c) xs σ = some (x, σ')) :
    σ' = σ ∧ Quiet P μ lim w o ρ x := by
  obtain ⟨dst, op, ty, pos, after, guard⟩ := o
  simp only [fit2] at hf
  split at hf
  case h_2 => cases hf
  rename_i op' t xo yo yt
  split at hf
  case isFalse => cases hf
  rename_i hc
  simp only [Bool.and_eq_true, decide_eq_true_eq, Bool.not_eq_true'] at hc
  obtain ⟨⟨rfl, hki⟩, hg⟩ := hc
  cases hf
  obtain ⟨y, z, rfl, h1, h2⟩ := rel2 hx
  simp only [A.act, actAggEq] at ha
  split at ha
  case h_2 => cases ha
  rename_i as bs heq
  simp only [List.cons.injEq, and_true] at heq
  obtain ⟨rfl, rfl⟩ := heq
  split at ha
  case isFalse => cases ha
  rename_i hk
  cases he : keysEq as bs with
  | none => simp [he] at ha
  | some e =>
    simp [he] at ha
    obtain ⟨rfl, rfl⟩ := ha
    have hke : keyEq (.agg as) (.agg bs) = some e := by simp [keyEq, he]
    have r1 := key_rel hk h1
    have r2 := key_rel' hke h2
    have heq := agg_eq (w := w) hki hk he
    refine ⟨rfl, _, ?_, scRel rfl⟩
    simp only [execOp, r1, r2, kval] at heq ⊢
    rw [Sem.run_bind, cmp_run (r := e) heq (run_eqGuard_agg _ _ _ _ _ _ _ hg) (by rintro op (rfl | rfl) <;> simp [binOp])]
    rfl
end
end Go.Ab

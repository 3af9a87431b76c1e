/- Slices of slices; rows that are made; rows to texts. No premise but those named. -/
import Derived.Test.YthjniafhfboggaaGreatDoorC4
namespace Go.Ab
open Go

/-- As fit1, for slices. -/
def fit4 (P : Program) (a : A) (op : Op) : Option (List Operand) :=
  match a with
  | .sliceS sz lo hi mx => match op with
    | .slice t x l h m => match sliceElem P t with
      | some e => if isSize P e sz && l.isSome == lo && h.isSome == hi && m.isSome == mx then some (x :: (l.toList ++ h.toList ++ m.toList)) else none
      | none => none
    | _ => none
  | .clearA sz zero => match op with
    | .call c => match c.callee, c.args.toList, c.argTypes.toList with
      | .builtin .clear, [x], [t] => match sliceElem P t with
        | some e => if zeroOK P e zero && elemOK P e sz then some [x] else none
        | none => none
      | _, _, _ => none
    | _ => none
  | .appendZ sz zero => match op with
    | .call c => match c.callee, c.args.toList, c.argTypes.toList with
      | .builtin .append, [x, y], [t, u] => match sliceElem P t, P.underlying u with
        | some e, some (.int _) => if zeroOK P e zero && elemOK P e sz then some [x, y] else none
        | _, _ => none
      | _, _, _ => none
    | _ => none
  | .capS => match op with
    | .call c => match c.callee, c.args.toList, c.argTypes.toList with
      | .builtin .cap, [x], [t] => match sliceElem P t with
        | some _ => some [x]
        | none => none
      | _, _, _ => none
    | _ => none
  | .mapDel kd => match op with
    | .call c => match c.callee, c.args.toList, c.argTypes.toList with
      | .builtin .delete, [x, y], [t, _] => match P.underlying t with
        | some (.map kt _) => if keyIs P kt kd then some [x, y] else none
        | _ => none
      | _, _, _ => none
    | _ => none
  | .indexPtr sz n => match op with
    | .indexAddr t x i => match P.underlying t with
      | some (.array k e) => if k = n && isSize P e sz then some [x, i] else none
      | _ => none
    | _ => none
  | .slicePtr sz n lo hi => match op with
    | .slice t x l h m => match P.underlying t with
      | some (.array k e) => if k = n && isSize P e sz && l.isSome == lo && h.isSome == hi && m.isSome == false then some (x :: (l.toList ++ h.toList ++ m.toList)) else none
      | _ => none
    | _ => none
  | .append sz _ => match op with
    | .call c => match c.callee, c.args.toList, c.argTypes.toList with
      | .builtin .append, [x, y], [t, u] => match sliceElem P t with
        | some e => if elemOK P e sz && rowType P u then some [x, y] else none
        | none => none
      | _, _, _ => none
    | _ => none
  | .appendB e0 => match op with
    | .call c => match c.callee, c.args.toList, c.argTypes.toList with
      | .builtin .append, [x, y], [t, u] => match sliceElem P t with
        | some e => if e0 = e && elemOK P e 1 && rowType P u then some [x, y] else none
        | none => none
      | _, _, _ => none
    | _ => none
  | .sliceData => match op with
    | .call c => match c.callee, c.args.toList with
      | .builtin .unsafeSliceData, [x] => some [x]
      | _, _ => none
    | _ => none
  | .unsafeStr e => match op with
    | .call c => match c.callee, c.args.toList, c.argTypes.toList with
      | .builtin .unsafeString, [x, y], [t, _] => match P.underlying t with
        | some (.pointer e') => if e' = e && P.cellsOf e == 1 then some [x, y] else none
        | _ => none
      | _, _, _ => none
    | _ => none
  | _ => none

section
variable {P : Program} {μ : List Nat} {lim : Nat → Nat} {w : World} {σ σ' : St} {o : Oper} {ρ : Operand → Value} {xs : List V} {x : V} {call : CallT} {opers : List Operand}

/-- A part of a slice, and its leave. -/
theorem slice_rel {t e : TypeId} {sz : Nat} (ht : sliceElem P t = some e) (hs : isSize P e sz = true) {ow : Own} {l : List (List V)} {X : Value} (hr : RelV μ lim w (.slice ow sz l) X) {lo hi mx : Bool} {ys : List V}
    {ol oh om : Option Operand} (hlo : ol.isSome = lo) (hhi : oh.isSome = hi) (hmx : om.isSome = mx) (hy : RelVs μ lim w ys ((ol.toList ++ oh.toList ++ om.toList).map ρ)) {a b : Nat} {m : Bool} (ha : sliceArgs lo hi mx l.length ys = some (a, b, m)) :
    ∃ X', (Instr.sliceAt t X (ol.map ρ) (oh.map ρ) (om.map ρ)).run P w = .ok X' w ∧ RelV μ lim w (.slice (if m then .shut else if b = l.length then ow else .no) sz ((l.take b).drop a)) X' ∧
      ∀ (own : Nat → Owner) (oo : Owner), OwnLeaf lim w own oo (.slice ow sz l) X → OwnLeaf lim w own oo (.slice (if m then .shut else if b = l.length then ow else .no) sz ((l.take b).drop a)) X' := by
  unfold RelV at hr
  obtain ⟨base, cap, rfl, ⟨hle, hsh⟩, hcap, hbase⟩ := hr
  obtain ⟨rfl, hab, hbl, hb⟩ := sliceArgs_rel (P := P) hlo hhi hmx hy ha true cap hle
  have hu := sliceElem_spec ht
  have hlen : ((l.take b).drop a).length = b - a := by simp; omega
  have hrun : (Instr.sliceAt t (.slice base l.length cap) (ol.map ρ) (oh.map ρ) (om.map ρ)).run P w =
      .ok (.slice (if (if m then b else cap) = a then base else base.map (·.add (a * sz))) (b - a) ((if m then b else cap) - a)) w := by
    simp [Instr.sliceAt, Instr.slice, run_underlying hu, hb w, run_sizeOf hs]
  refine ⟨_, hrun, ?_, ?_⟩
  · unfold RelV
    rw [hlen]
    refine ⟨_, _, rfl, ⟨?_, ?_⟩, ?_, ?_⟩
    · cases m <;> simp <;> omega
    · intro hsm
      cases m with
      | true => rfl
      | false =>
        simp only [Bool.false_eq_true, if_false] at hsm ⊢
        split at hsm
        · rename_i hbl'
          have := hsh hsm
          omega
        · cases hsm
    · cases m <;> simp <;> omega
    · cases base with
      | none => simp only at hbase; subst hbase; cases m <;> simp <;> omega
      | some ad =>
        have hd : RelLL μ lim w sz ad.block (ad.off + a * sz) ((l.take b).drop a) := (hbase.2.take b).drop a
        by_cases hma : (if m then b else cap) = a
        · rw [if_pos hma]
          refine ⟨hbase.1, ?_⟩
          have : (l.take b).drop a = [] := List.eq_nil_of_length_eq_zero (by rw [hlen]; cases m <;> simp at hma <;> omega)
          rw [this]; unfold RelLL; trivial
        · rw [if_neg hma]
          have had : ad = ⟨ad.block, ad.off, none⟩ := by cases ad; simp at hbase; simp [hbase.1]
          simp only [Option.map_some]
          rw [had, add_at]
          exact ⟨rfl, hd⟩
  · intro own oo ho
    cases m with
    | true => cases base <;> trivial
    | false =>
      simp only [Bool.false_eq_true, if_false]
      split
      · rename_i hbl'
        cases ow with
        | no => trivial
        | shut => trivial
        | tail =>
          cases base with
          | none => simp; trivial
          | some ad =>
            have had : ad = ⟨ad.block, ad.off, none⟩ := by cases ad; simp at hbase; simp [hbase.1]
            by_cases hca : cap = a
            · rw [if_pos hca]
              exact .inl (by omega)
            · rw [if_neg hca]
              simp only [Option.map_some]
              have hoff : ad.add (a * sz) = ⟨ad.block, ad.off + a * sz, none⟩ := by rw [had, add_at]
              rw [hoff]
              rcases ho with ho | ⟨o1, o2, o3, o4, o5⟩
              · exact .inl (by omega)
              · refine .inr ⟨o1, o2, ?_, ?_, o5⟩
                · show lim ad.block = ad.off + a * sz + _
                  rw [hlen, o3, Nat.add_assoc, ← Nat.add_mul]; congr 2; omega
                · show ad.off + a * sz + (cap - a) * sz ≤ _
                  rw [Nat.add_assoc, ← Nat.add_mul, show a + (cap - a) = cap by omega]; exact o4
      · trivial

theorem slice_opers {lo hi mx : Bool} {sz : Nat} {op : Op} (hf : fit4 P (.sliceS sz lo hi mx) op = some opers) : ∃ t e xo ol oh om, op = .slice t xo ol oh om ∧ sliceElem P t = some e ∧ isSize P e sz = true ∧ ol.isSome = lo ∧ oh.isSome = hi ∧ om.isSome = mx ∧
    opers = xo :: (ol.toList ++ oh.toList ++ om.toList) := by
  simp only [fit4] at hf
  split at hf
  case h_2 => cases hf
  split at hf
  case h_2 => cases hf
  split at hf
  case isFalse => cases hf
  rename_i hc
  simp only [Bool.and_eq_true, beq_iff_eq] at hc
  cases hf
  exact ⟨_, _, _, _, _, _, rfl, by assumption, hc.1.1.1, hc.1.1.2, hc.1.2, hc.2, rfl⟩

/-- A slice of an object's row. -/
theorem arr_rel (hw : WRel μ lim w σ) {t e : TypeId} {sz id off n : Nat} (ht : sliceElem P t = some e) (hs : isSize P e sz = true) {X : Value} (hr : RelV μ lim w (.arr id off n sz) X) {lo hi mx : Bool} {ys : List V}
    {ol oh om : Option Operand} (hlo : ol.isSome = lo) (hhi : oh.isSome = hi) (hmx : om.isSome = mx) (hy : RelVs μ lim w ys ((ol.toList ++ oh.toList ++ om.toList).map ρ)) {a b : Nat} {m : Bool} (ha : sliceArgs lo hi mx n ys = some (a, b, m)) :
    ∃ X', (Instr.sliceAt t X (ol.map ρ) (oh.map ρ) (om.map ρ)).run P w = .ok X' w ∧ RelV μ lim w (if a = 0 ∨ a < b then (if m = true ∧ b = 0 then .slice .shut sz [] else .arr id (off + a * sz) (b - a) sz) else .slice .no sz []) X' := by
  unfold RelV at hr
  obtain ⟨bb, cap, h1, h2, h3, rfl, h5⟩ := hr
  obtain ⟨rfl, hab, hbl, hb⟩ := sliceArgs_rel (P := P) hlo hhi hmx hy ha true cap h2
  have hu := sliceElem_spec ht
  have hrun : (Instr.sliceAt t (.slice (some ⟨bb, off, none⟩) n cap) (ol.map ρ) (oh.map ρ) (om.map ρ)).run P w =
      .ok (.slice (if (if m then b else cap) = a then some ⟨bb, off, none⟩ else some ⟨bb, off + a * sz, none⟩) (b - a) ((if m then b else cap) - a)) w := by
    simp [Instr.sliceAt, Instr.slice, run_underlying hu, hb w, run_sizeOf hs, add_at]
  refine ⟨_, hrun, ?_⟩
  by_cases hab' : a = 0 ∨ a < b
  case neg =>
    rw [if_neg hab']
    have h0 : b - a = 0 := by omega
    have hcl : (if m then b else cap) - a < 2 ^ 63 := by cases m <;> simp <;> omega
    rw [h0]
    unfold RelV
    by_cases hma : (if m = true then b else cap) = a
    · rw [if_pos hma]
      exact ⟨_, _, rfl, ⟨by simp, fun h => by cases h⟩, hcl, rfl, by unfold RelLL; trivial⟩
    · rw [if_neg hma]
      exact ⟨_, _, rfl, ⟨by simp, fun h => by cases h⟩, hcl, rfl, by unfold RelLL; trivial⟩
  rw [if_pos hab']
  have hbase : (if (if m then b else cap) = a then some (⟨bb, off, none⟩ : Addr) else some ⟨bb, off + a * sz, none⟩) = some ⟨bb, off + a * sz, none⟩ := by
    by_cases hma : (if m = true then b else cap) = a
    · rw [if_pos hma]
      have : a = 0 := by
        rcases hab' with h | h
        · exact h
        · cases m <;> simp at hma <;> omega
      rw [this]; simp
    · rw [if_neg hma]
  rw [hbase]
  split
  · rename_i h0
    obtain ⟨rfl, rfl⟩ := h0
    unfold RelV
    have ha0 : a = 0 := by omega
    subst ha0
    exact ⟨_, _, rfl, ⟨by simp, fun _ => by simp⟩, by simp, by unfold RelLL; exact ⟨rfl, trivial⟩⟩
  unfold RelV
  refine ⟨bb, _, h1, ?_, ?_, rfl, ?_⟩
  · cases m <;> simp <;> omega
  · cases m <;> simp <;> omega
  · have : (if m then b else cap) - a + a ≤ cap := by cases m <;> simp <;> omega
    have h6 := Nat.mul_le_mul_right sz this
    rw [Nat.add_mul] at h6
    omega

theorem d_sliceS {lo hi mx : Bool} {sz : Nat} (hw : WRel μ lim w σ) (hf : fit4 P (.sliceS sz lo hi mx) o.op = some opers) (hx : RelVs μ lim w xs (opers.map ρ)) (he : ∀ y ∈ xs, ∃ u : V, y = u.erase) (ha : A.act call (.sliceS sz lo hi mx) xs σ = some (x, σ')) :
    Done P μ lim w σ o ρ x σ' := by
  obtain ⟨dst, op, ty, pos, after, guard⟩ := o
  obtain ⟨t, e, xo, ol, oh, om, rfl, ht, hs, hlo, hhi, hmx, rfl⟩ := slice_opers hf
  cases xs with
  | nil => simp only [List.map_cons] at hx; unfold RelVs at hx; exact hx.elim
  | cons y ys =>
    simp only [List.map_cons] at hx
    unfold RelVs at hx
    simp only [A.act, actSliceS] at ha
    split at ha
    · rename_i ow sz' l ys' heq
      simp only [List.cons.injEq] at heq
      obtain ⟨rfl, rfl⟩ := heq
      split at ha
      case h_2 => cases ha
      rename_i a b m hsa
      split at ha
      case isFalse => cases ha
      rename_i hsz
      subst hsz
      cases ha
      obtain ⟨X', h1, h2, _⟩ := slice_rel ht hs hx.1 hlo hhi hmx hx.2 hsa
      have hnt : ow ≠ .tail := by
        rintro rfl
        obtain ⟨u, hu⟩ := he _ (.head _)
        cases u <;> simp [V.erase, V.eraseLeaf] at hu
        rename_i o' _ _
        cases o' <;> simp at hu
      refine ⟨_, X', μ, lim, w, by simp [execOp, h1], .inl rfl, Chg.refl hw, h2, ?_, ?_⟩
      · cases m <;> simp <;> (try split) <;> first | (cases ow <;> first | exact absurd rfl hnt | (cases X' <;> trivial)) | (cases X' <;> trivial)
      · intro sz1 l1 a1 n1 cap1 h3
        have hne : (if m = true then Own.shut else if b = l.length then ow else Own.no) ≠ .tail := by
          split
          · simp
          · split
            · exact hnt
            · simp
        simp only [V.slice.injEq] at h3
        exact absurd h3.1 hne
    · rename_i id off n sz' ys' heq
      simp only [List.cons.injEq] at heq
      obtain ⟨rfl, rfl⟩ := heq
      split at ha
      case h_2 => cases ha
      rename_i a b m hsa
      split at ha
      case isFalse => cases ha
      rename_i hc
      subst hc
      cases ha
      obtain ⟨X', h1, h2⟩ := arr_rel hw ht hs hx.1 hlo hhi hmx hx.2 hsa
      refine ⟨_, X', μ, lim, w, by simp [execOp, h1], .inl rfl, Chg.refl hw, h2, ?_, ?_⟩
      · split
        · split
          · cases X' <;> trivial
          · exact freshV_of_ne (by intro _ _ _ h; cases h) (by intro _ h; cases h)
        · cases X' <;> trivial
      · intro _ _ _ _ _ he
        split at he
        · split at he <;> cases he
        · cases he
    · cases ha

theorem q_indexPtr {sz n : Nat} (hf : fit4 P (.indexPtr sz n) o.op = some opers) (hx : RelVs μ lim w xs (opers.map ρ)) (ha : A.act call (.indexPtr sz n) xs σ = some (x, σ')) :
    σ' = σ ∧ Quiet P μ lim w o ρ x := by
  obtain ⟨dst, op, ty, pos, after, guard⟩ := o
  simp only [fit4] at hf
  split at hf
  case h_2 => cases hf
  rename_i t xo io
  split at hf
  case h_2 => cases hf
  rename_i k e hu
  split at hf
  case isFalse => cases hf
  rename_i hc
  simp only [Bool.and_eq_true, decide_eq_true_eq] at hc
  obtain ⟨rfl, hs⟩ := hc
  cases hf
  obtain ⟨y, z, rfl, h1, h2⟩ := rel2 hx
  simp only [A.act, actIndexPtr] at ha
  split at ha
  case h_2 => cases ha
  rename_i id off kk i heq
  simp only [List.cons.injEq, and_true] at heq
  obtain ⟨rfl, rfl⟩ := heq
  split at ha
  case isFalse => cases ha
  rename_i hc
  cases ha
  unfold RelV at h1
  obtain ⟨b, h3, h4⟩ := h1
  refine ⟨rfl, .pointer (some ⟨b, off + i.toNat * sz, none⟩), ?_, ?_⟩
  · simp [execOp, h4, relSc h2, Instr.indexAt, asIntOf, run_underlying hu, hc, run_sizeOf hs, add_at, Instr.sureAddr]
  · unfold RelV; exact ⟨b, h3, rfl⟩

theorem q_slicePtr {sz n : Nat} {lo hi : Bool} (hw : WRel μ lim w σ) (hf : fit4 P (.slicePtr sz n lo hi) o.op = some opers) (hx : RelVs μ lim w xs (opers.map ρ)) (ha : A.act call (.slicePtr sz n lo hi) xs σ = some (x, σ')) :
    σ' = σ ∧ Quiet P μ lim w o ρ x := by
  obtain ⟨dst, op, ty, pos, after, guard⟩ := o
  simp only [fit4] at hf
  split at hf
  case h_2 => cases hf
  rename_i t xo ol oh om
  split at hf
  case h_2 => cases hf
  rename_i k e hu
  split at hf
  case isFalse => cases hf
  rename_i hc
  simp only [Bool.and_eq_true, decide_eq_true_eq, beq_iff_eq] at hc
  obtain ⟨⟨⟨⟨rfl, hs⟩, hlo⟩, hhi⟩, hmx⟩ := hc
  cases hf
  cases xs with
  | nil => simp only [List.map_cons] at hx; unfold RelVs at hx; exact hx.elim
  | cons y ys =>
    simp only [List.map_cons] at hx
    unfold RelVs at hx
    simp only [A.act, actSlicePtr] at ha
    split at ha
    case h_2 => cases ha
    rename_i id off ys' heq
    simp only [List.cons.injEq] at heq
    obtain ⟨rfl, rfl⟩ := heq
    split at ha
    case h_2 => cases ha
    rename_i a b m cs hsa hcs
    split at ha
    case isFalse => cases ha
    rename_i hcond
    obtain ⟨hfit, hab', hlt⟩ := hcond
    cases ha
    have h1 := hx.1
    unfold RelV at h1
    obtain ⟨bb, h3, h4⟩ := h1
    obtain ⟨hm, hab, hbl, hb⟩ := sliceArgs_rel (P := P) hlo hhi hmx hx.2 hsa false k (Nat.le_refl _)
    subst hm
    obtain ⟨_, hbs, _⟩ := hw.obj id bb _ (get_spec hcs) h3
    refine ⟨rfl, .slice (some ⟨bb, off + a * sz, none⟩) (b - a) (k - a), ?_, ?_⟩
    · have hbase : (if k = a then (⟨bb, off, none⟩ : Addr) else ⟨bb, off + a * sz, none⟩) = ⟨bb, off + a * sz, none⟩ := by
        by_cases hka : k = a
        · rw [if_pos hka]
          have : a = 0 := by omega
          rw [this]; simp
        · rw [if_neg hka]
      have hb' := hb
      simp only [Bool.false_eq_true, if_false] at hb'
      simp [execOp, h4, Instr.sliceAt, run_underlying hu, hb', run_sizeOf hs, add_at, Instr.sureAddr, hbase]
    · unfold RelV
      refine ⟨bb, k - a, h3, by omega, by omega, rfl, ?_⟩
      have h6 := Nat.mul_le_mul_right sz (show k - a + a ≤ k by omega)
      rw [Nat.add_mul] at h6
      omega

/-- A text of a row of bytes. -/
theorem bytes_rel : ∀ {l : List (List V)} {bs : List UInt8} {new : List Value}, toBytes l = some bs → RelVs μ lim w l.flatten new → ∃ ns : List Int, new = ns.map (Value.int .u8) ∧ bs = ns.map (fun n => UInt8.ofNat n.toNat)
  | [], bs, new, hb, hr => by
    simp only [toBytes] at hb
    cases hb
    cases new with
    | nil => exact ⟨[], rfl, rfl⟩
    | cons _ _ => simp only [List.flatten_nil] at hr; unfold RelVs at hr; exact hr.elim
  | c :: l, bs, new, hb, hr => by
    unfold toBytes at hb
    split at hb
    · rename_i heq; cases heq
    · rename_i n l' heq
      simp only [List.cons.injEq] at heq
      obtain ⟨rfl, rfl⟩ := heq
      split at hb
      · rename_i bs' hb'
        cases hb
        simp only [List.flatten_cons, List.singleton_append] at hr
        cases new with
        | nil => unfold RelVs at hr; exact hr.elim
        | cons v new =>
          unfold RelVs at hr
          obtain ⟨ns, h1, h2⟩ := bytes_rel hb' hr.2
          exact ⟨n :: ns, by rw [h1, relSc hr.1]; rfl, by rw [h2]; rfl⟩
      · cases hb
    · cases hb

theorem toBytes_bytes : ∀ (l : List UInt8), toBytes (l.map fun c => [V.sc (.int .u8 c.toNat)]) = some l
  | [] => rfl
  | c :: l => by simp [toBytes, toBytes_bytes l]

theorem foldl_push : ∀ (ns : List Int) (acc : ByteArray), ns.foldl (fun r n => r.push (UInt8.ofNat n.toNat)) acc = ⟨acc.data ++ (ns.map (fun n => UInt8.ofNat n.toNat)).toArray⟩
  | [], acc => by simp
  | n :: ns, acc => by
    simp only [List.foldl_cons, foldl_push ns]
    cases acc
    simp [ByteArray.push]

theorem q_str (hw : WRel μ lim w σ) (hf : fit2 P .str o.op = some opers) (hx : RelVs μ lim w xs (opers.map ρ)) (ha : A.act call .str xs σ = some (x, σ')) :
    σ' = σ ∧ Quiet P μ lim w o ρ x := by
  obtain ⟨dst, op, ty, pos, after, guard⟩ := o
  simp only [fit2] at hf
  split at hf
  case h_2 => cases hf
  rename_i s d xo
  split at hf
  case h_2 => cases hf
  rename_i e hs
  split at hf
  case isFalse => cases hf
  rename_i hc
  simp only [Bool.and_eq_true] at hc
  cases hf
  have hd' : P.underlying d = some .string := by
    have := hc.1
    unfold isStr at this
    split at this
    · assumption
    · cases this
  have he' : P.underlying e = some (.int .u8) := by
    have := hc.2
    unfold isInt at this
    split at this
    · rename_i k hk; rw [hk, eq_of_beq this]
    · cases this
  obtain ⟨y, rfl, h1⟩ := rel1 hx
  simp only [A.act, actStr] at ha
  split at ha
  case h_2 => cases ha
  rename_i l hl
  cases hb : toBytes l with
  | none => simp [hb] at ha
  | some bs =>
    simp [hb] at ha
    obtain ⟨rfl, rfl⟩ := ha
    obtain ⟨new, n1, n2, n3, n4, n5, n6⟩ := elems_rel (P := P) hw hl h1
    obtain ⟨ns, rfl, rfl⟩ := bytes_rel hb n1
    have hfc := n6 w rfl
    refine ⟨rfl, .string ⟨(ns.map fun n => UInt8.ofNat n.toNat).toArray⟩, ?_, scRel rfl⟩
    have hfold := foldl_push ns ByteArray.empty
    cases y with
    | slice oo sz l0 =>
      unfold RelV at h1
      obtain ⟨base, cap, h1, _, _, hbase⟩ := h1
      rw [h1] at hfc
      cases base with
      | none =>
        simp only at hbase
        have hl0 : ns = [] := by
          have := n1.length
          simp only [elems] at hl
          split at hl
          · have h1' := Option.some.inj hl
            have h0 : l0 = [] := List.eq_nil_of_length_eq_zero (by omega)
            rw [← h1', h0] at this
            simpa using this.symm
          · cases hl
        subst hl0
        simp [execOp, h1, convert, run_underlying hs, run_underlying hd', run_underlying he', Conv.bytesToString]
        rfl
      | some ad =>
        have hlc : (loadCells ad l0.length).run P w = .ok (ns.map (Value.int .u8)).toArray w := by
          simp only [elems] at hl
          split at hl
          · cases hl
            simpa [Builtin.firstCells] using hfc
          · cases hl
        have := run_bytesToString (P := P) w ad l0.length cap ns hlc
        rw [hfold] at this
        simp [execOp, h1, convert, run_underlying hs, run_underlying hd', run_underlying he', this]
    | arr id off n sz =>
      unfold RelV at h1
      obtain ⟨bb, cap, _, _, _, h1, _⟩ := h1
      have hln : l.length = n := by
        have := n5 w
        rw [h1] at this
        simp [Builtin.lenOf] at this
        exact this.symm
      rw [h1, hln] at hfc
      have hlc : (loadCells ⟨bb, off, none⟩ n).run P w = .ok (ns.map (Value.int .u8)).toArray w := by simpa [Builtin.firstCells] using hfc
      have := run_bytesToString (P := P) w ⟨bb, off, none⟩ n cap ns hlc
      rw [hfold] at this
      simp [execOp, h1, convert, run_underlying hs, run_underlying hd', run_underlying he', this]
    | sc v =>
      cases v <;> simp [elems] at hl
      rename_i b
      obtain ⟨_, rfl⟩ := hl
      rw [toBytes_bytes] at hb
      have hb' := Option.some.inj hb
      rw [← hb']
      have : (⟨b.data.toList.toArray⟩ : ByteArray) = b := by cases b; simp
      rw [this]
      simp [execOp, relSc h1, convert, run_underlying hs, run_underlying hd']
    | _ => simp [elems] at hl
end
end Go.Ab

/- Append to an object's row; rows that are made; the steps that take. No premise but those named. -/
import Derived.Test.YthjniafhfboggaaGreatDoorC5
namespace Go.Ab
open Go

/-- An object goes on as another, in its block. -/
theorem chg_renew {μ lim w σ} (hw : WRel μ lim w σ) {id b : Nat} (_hb : σ.base ≤ σ.objs.length) (hbase : σ.base ≤ id) (ha : alive σ id) (hm : μ[id]? = some b) {w' : World}
    (hos : w'.os = w.os) (ht : w'.tape = w.tape) (hout : w'.output = w.output) (hs : w'.heap.size = w.heap.size)
    (hk : ∀ c, c ≠ b → w'.heap[c]? = w.heap[c]?) (hz : bsize w b ≤ bsize w' b) (ob : Obj)
    (hr : Ext μ lim w (μ ++ [b]) lim w' → ObjRel (μ ++ [b]) lim w' b ob) : Chg μ lim w σ (μ ++ [b]) lim w' ((σ.set id .dead).push ob) ∧ Ext μ lim w (μ ++ [b]) lim w' := by
  have hl : lim b = 0 := hw.unprot_lim ⟨id, hbase, ha, hm⟩
  have hx : Ext μ lim w (μ ++ [b]) lim w' := ⟨fun i c h => by rw [List.getElem?_append_left (List.getElem?_eq_some_iff.1 h).1]; exact h, fun c o ho => ⟨ho, cell_congr (hk c (fun hc => by rw [hc, hl] at ho; omega)) o⟩,
    fun c => by
      by_cases hc : c = b
      · rw [hc]; exact hz
      · rw [bsize_congr (hk c hc)]; exact Nat.le_refl _⟩
  have hidl : id < σ.objs.length := by obtain ⟨o, ho, _⟩ := ha; exact (List.getElem?_eq_some_iff.1 ho).1
  have hget : ∀ j c, (μ ++ [b])[j]? = some c → (j < σ.objs.length ∧ μ[j]? = some c) ∨ (j = σ.objs.length ∧ c = b) := by
    intro j c h
    rcases Nat.lt_or_ge j μ.length with h1 | h1
    · rw [List.getElem?_append_left h1] at h; exact .inl ⟨by rw [← hw.len]; exact h1, h⟩
    · rw [List.getElem?_append_right h1] at h
      cases hh : j - μ.length with
      | zero => rw [hh] at h; simp at h; exact .inr ⟨by rw [← hw.len]; omega, h.symm⟩
      | succ m => rw [hh] at h; simp at h
  have hobj : ∀ j o, j < σ.objs.length → ((σ.set id .dead).push ob).objs[j]? = some o → (j = id ∧ o = .dead) ∨ (j ≠ id ∧ σ.objs[j]? = some o) := by
    intro j o hj h
    simp only [St.push, St.set] at h
    rw [List.getElem?_append_left (by simpa using hj)] at h
    by_cases hji : j = id
    · subst hji
      rw [List.getElem?_set_self hidl] at h
      cases h; exact .inl ⟨rfl, rfl⟩
    · rw [List.getElem?_set_ne (fun h => hji h.symm)] at h; exact .inr ⟨hji, h⟩
  have hnew : ((σ.set id .dead).push ob).objs[σ.objs.length]? = some ob := by
    simp only [St.push, St.set]
    rw [List.getElem?_append_right (by simp)]
    simp
  have hal : ∀ j, j < σ.objs.length → alive ((σ.set id .dead).push ob) j → alive σ j ∧ j ≠ id := by
    rintro j hj ⟨o, ho, hd⟩
    rcases hobj j o hj ho with ⟨_, h2⟩ | ⟨h1, h2⟩
    · exact absurd h2 hd
    · exact ⟨⟨o, h2, hd⟩, h1⟩
  refine ⟨⟨hos, ht, hout, by omega, hx.pre, fun c hc hu => ⟨hk c (fun h => hu (by rw [h]; exact ⟨id, hbase, ha, hm⟩)), rfl⟩, fun c _ => hx.size c, ?_, rfl, ?_, by simp [St.push, St.set], fun _ hp => hw.glob_lt hp, ?_⟩, hx⟩
  · intro j c hj hjb hjm
    rcases hget j c hjm with ⟨h1, h2⟩ | ⟨h1, h2⟩
    · exact .inr ⟨j, hjb, (hal j h1 hj).1, h2⟩
    · rw [h2]; exact .inr ⟨id, hbase, ha, hm⟩
  · intro j hj
    simp only [St.push, St.set]
    rw [List.getElem?_append_left (by simp; omega), List.getElem?_set_ne (by omega)]
  · refine ⟨by simp [St.push, St.set, hw.len], ?_, ?_, ?_, fun c hc => hw.fresh c (by omega), glob_keep hw.glob fun p _ hl0 _ => ⟨hk p.1 (fun hpb => by rw [hpb, hl] at hl0; omega), rfl⟩⟩
    · intro j c h
      rw [hs]
      rcases hget j c h with ⟨_, h2⟩ | ⟨_, h2⟩
      · exact hw.lt j c h2
      · rw [h2]; exact hw.lt id b hm
    · intro i j c hi hj hic hjc
      rcases hget i c hic with ⟨i1, i2⟩ | ⟨i1, i2⟩ <;> rcases hget j c hjc with ⟨j1, j2⟩ | ⟨j1, j2⟩
      · exact hw.inj i j c (hal i i1 hi).1 (hal j j1 hj).1 i2 j2
      · obtain ⟨a1, a2⟩ := hal i i1 hi
        exact absurd (hw.inj i id c a1 ha i2 (by rw [j2]; exact hm)) a2
      · obtain ⟨a1, a2⟩ := hal j j1 hj
        exact absurd (hw.inj j id c a1 ha j2 (by rw [i2]; exact hm)) a2
      · omega
    · intro j c o ho hjc
      rcases hget j c hjc with ⟨j1, j2⟩ | ⟨j1, j2⟩
      · rcases hobj j o j1 ho with ⟨_, h2⟩ | ⟨h1, h2⟩
        · rw [h2]; trivial
        · by_cases ho' : o = .dead
          · rw [ho']; trivial
          · have hne : c ≠ b := fun hc => h1 (hw.inj j id b ⟨o, h2, ho'⟩ ha (by rw [← hc]; exact j2) hm)
            exact (hw.obj j c o h2 j2).ext hx (hk c hne) rfl
      · rw [j1, hnew] at ho
        cases ho
        rw [j2]; exact hr hx

section
variable {P : Program} {μ : List Nat} {lim : Nat → Nat} {w : World} {σ σ' : St} {o : Oper} {ρ : Operand → Value} {xs : List V} {x : V} {call : CallT} {opers : List Operand}

theorem d_makeSlice {zero : List V} {arr : Bool} (hw : WRel μ lim w σ) (hb : σ.base ≤ σ.objs.length) (hf : fit3 P (.makeSlice zero arr) o.op = some opers) (hx : RelVs μ lim w xs (opers.map ρ)) (ha : A.act call (.makeSlice zero arr) xs σ = some (x, σ')) :
    Done P μ lim w σ o ρ x σ' := by
  obtain ⟨dst, op, ty, pos, after, guard⟩ := o
  simp only [fit3] at hf
  split at hf
  case h_2 => cases hf
  rename_i t lo co
  split at hf
  case h_2 => cases hf
  rename_i e he
  split at hf
  case isFalse => cases hf
  rename_i hc
  simp only [Bool.and_eq_true] at hc
  cases hf
  have hu := sliceElem_spec he
  obtain ⟨inf, z, z1, z2, z3, z4⟩ := zeroOK_spec hc.1
  obtain ⟨inf', z', e0, e1, e2, e3, e4, e5, e6, e7⟩ := elemOK_spec hc.2
  rw [z1] at e1; cases e1
  rw [z2] at e5; cases e5
  obtain ⟨y, y2, rfl, h1, h2⟩ := rel2 hx
  simp only [A.act, actMakeSlice] at ha
  split at ha
  case h_2 => cases ha
  rename_i k1 n k2 c heq
  simp only [List.cons.injEq, and_true] at heq
  obtain ⟨rfl, rfl⟩ := heq
  split at ha
  case isFalse => cases ha
  rename_i hcond
  obtain ⟨hn0, hnc, hcr, _⟩ := hcond
  have hcr' : c ≤ 4294967296 := by unfold roomy at hcr; simpa using hcr
  have hbytes : (inf.bytes : Int) * c ≤ 281474976710656 := by
    have : (inf.bytes : Int) ≤ 4096 := by omega
    have h3 : (inf.bytes : Int) * c ≤ 4096 * 4294967296 := Int.mul_le_mul this hcr' (by omega) (by omega)
    omega
  have hrun := run_make (P := P) w t e inf z hu z1 z2 k1 k2 n c hn0 hnc hbytes (by omega)
  have hmf : (madeCells z.cells (c.toNat * inf.size)).toList = (List.replicate c.toNat z.cells.toList).flatten := by rw [e2, ← e6]; exact made_flat _ _
  have hflat := constsOK_flat z3 c.toNat
  have hexec : (execOp ρ ⟨dst, .makeSlice t lo co, ty, pos, after, guard⟩).run P w = .ok (.value (.slice (some ⟨w.heap.size, 0, none⟩) n.toNat c.toNat)) (addObj w (.cells (madeCells z.cells (c.toNat * inf.size)) e)) := by
    simp [execOp, relSc h1, relSc h2, hrun, alloc_addObj]
  cases arr with
  | true =>
    simp only [if_true] at ha
    split at ha
    case isFalse => cases ha
    rename_i hnc'
    subst hnc'
    cases ha
    obtain ⟨r1, r2⟩ := constsOK_rel (μ := μ) (lim := lim) (w := w) hflat
    rw [← hmf] at r1 r2
    obtain ⟨g1, g2, g3⟩ := push_cells hw hb e r1 r2
    refine ⟨_, _, _, lim, _, hexec, .inl rfl, g1, ?_, freshV_of_ne (by intro _ _ _ h; cases h) (by intro _ h; cases h), fun _ _ _ _ _ he => by cases he⟩
    unfold RelV
    refine ⟨w.heap.size, n.toNat, g2, Nat.le_refl _, by omega, rfl, ?_⟩
    rw [g3, size_madeCells, e2]; omega
  | false =>
    simp only [Bool.false_eq_true, if_false] at ha
    split at ha
    case isFalse => cases ha
    rename_i hn
    subst hn
    cases ha
    obtain ⟨g1, g2, g3⟩ := fresh_row (l := []) (xs := []) (sz := zero.length) (cap := c.toNat) (rest := madeCells z.cells (c.toNat * inf.size)) (e := e) hw (by simp; unfold RelVs; trivial) (by simp) (by simp) (by simp) (Nat.zero_le _) (by omega)
      (by rw [size_madeCells, e2]; simp) .tail (by simp)
    have hnil : ([] : List Value).toArray ++ madeCells z.cells (c.toNat * inf.size) = madeCells z.cells (c.toNat * inf.size) := by simp
    rw [hnil] at g1 g2 g3
    simp only [List.length_nil] at g1 g2 g3
    refine ⟨_, _, _, _, _, hexec, .inl rfl, g1, g2, g3, ?_⟩
    intro sz' l1 a1 n1 cap1 _ hx id ha hm
    simp only [Value.slice.injEq, Option.some.injEq] at hx
    rw [← hx.1] at hm
    have := hw.lt id _ hm
    exact Nat.lt_irrefl _ this

theorem eraseIdx_get {α : Type} {l : List α} {j i : Nat} : (l.eraseIdx j)[i]? = if i < j then l[i]? else l[i + 1]? := List.getElem?_eraseIdx
theorem eraseIdxA_get {α : Type} {l : Array α} {j i : Nat} (hj : j < l.size) : (l.eraseIdxIfInBounds j)[i]? = if i < j then l[i]? else l[i + 1]? := by
  rw [← Array.getElem?_toList]
  have : (l.eraseIdxIfInBounds j).toList = l.toList.eraseIdx j := by simp [Array.eraseIdxIfInBounds, hj]
  rw [this, List.getElem?_eraseIdx]
  simp
theorem d_mapDel {kd : Nat} (hw : WRel μ lim w σ) (hd : o.dst = none) (hf : fit4 P (.mapDel kd) o.op = some opers) (hx : RelVs μ lim w xs (opers.map ρ)) (ha : A.act call (.mapDel kd) xs σ = some (x, σ')) :
    Done P μ lim w σ o ρ x.erase σ' := by
  obtain ⟨dst, op, ty, pos, after, guard⟩ := o
  simp only at hd
  simp only [fit4] at hf
  split at hf
  case h_2 => cases hf
  rename_i c
  obtain ⟨callee, args, argTypes⟩ := c
  split at hf
  case h_2 => cases hf
  rename_i mo ko t u hcal hargs htys
  simp only at hcal hargs htys
  subst hcal
  obtain rfl : args = #[mo, ko] := by rw [← Array.toList_inj]; simpa using hargs
  obtain rfl : argTypes = #[t, u] := by rw [← Array.toList_inj]; simpa using htys
  split at hf
  case h_2 => cases hf
  rename_i kt et hu
  split at hf
  case isFalse => cases hf
  rename_i hki
  cases hf
  obtain ⟨y, k, rfl, h1, h2⟩ := rel2 hx
  simp only [A.act, actMapDel] at ha
  split at ha
  case h_2 => cases ha
  rename_i id k' heq
  simp only [List.cons.injEq, and_true] at heq
  obtain ⟨rfl, rfl⟩ := heq
  split at ha
  case isFalse => cases ha
  rename_i hcond
  obtain ⟨hbase, hk⟩ := hcond
  split at ha
  case h_2 => cases ha
  rename_i es hes
  unfold RelV at h1
  obtain ⟨b, hb, h1⟩ := h1
  obtain ⟨ents, nn, e1, e2, e3⟩ := getMapL_obj hw hes hb
  obtain ⟨ob, hget, hdead⟩ : ∃ ob, σ.objs[id]? = some ob ∧ ob ≠ .dead := by
    unfold St.getMapL at hes
    split at hes <;> first | exact ⟨_, by assumption, by simp⟩ | cases hes
  have hρk := key_rel hk h2
  have hck : (Instr.checkKey (Array.isEmpty ents) 10000 kt (kval k)).run P w = .ok () w := check_key _ 9998 hki hk
  unfold mapDrop at ha
  cases hm : mapIdx k es with
  | none => simp [hm] at ha
  | some r =>
    simp only [hm] at ha
    rcases idx_rel (P := P) (μ := μ) (lim := lim) (w := w) hki hk e2.symm (fun j k v hj => by obtain ⟨e, q1, q2, _⟩ := e3 j k v hj; exact ⟨e, q1, q2⟩) hm with ⟨rfl, hfk⟩ | ⟨j, k', v', e, rfl, q1, q2, q5, hfk⟩
    · simp at ha
      obtain ⟨rfl, rfl⟩ := ha
      obtain ⟨g1, g2⟩ := map_setD hw hbase hget hdead hb e1 nn ents es e2 (fun hext => by
          intro i k2 u hi
          obtain ⟨e, r1, r2, r3⟩ := e3 i k2 u hi
          exact ⟨e, r1, r2.ext hext, r3.ext hext⟩)
      refine ⟨_, undef, μ, lim, _, ?_, .inl rfl, g1, rel_undef, fresh_undef, fun _ _ _ _ _ he => absurd he erase_ne_tail⟩
      simp [execOp, resolve, invoke, builtin, Builtin.delete_, h1, hρk, run_underlying hu, MapKept.run_getObj_map e1, hck, hfk, MapKept.run_setObj_map _ e1]
      rfl
    · simp at ha
      obtain ⟨rfl, rfl⟩ := ha
      have hj := (Array.getElem?_eq_some_iff.1 q2).1
      obtain ⟨g1, g2⟩ := map_setD hw hbase hget hdead hb e1 nn (ents.eraseIdxIfInBounds j) (es.eraseIdx j) (by simp [Array.eraseIdxIfInBounds, hj, List.length_eraseIdx, ← e2]) (fun hext => by
          intro i k2 u hi
          rw [eraseIdx_get] at hi
          rw [eraseIdxA_get hj]
          by_cases hlt : i < j
          · rw [if_pos hlt] at hi ⊢
            obtain ⟨e, r1, r2, r3⟩ := e3 i k2 u hi
            exact ⟨e, r1, r2.ext hext, r3.ext hext⟩
          · rw [if_neg hlt] at hi ⊢
            obtain ⟨e, r1, r2, r3⟩ := e3 (i + 1) k2 u hi
            exact ⟨e, r1, r2.ext hext, r3.ext hext⟩)
      refine ⟨_, undef, μ, lim, _, ?_, .inl rfl, g1, rel_undef, fresh_undef, fun _ _ _ _ _ he => absurd he erase_ne_tail⟩
      simp [execOp, resolve, invoke, builtin, Builtin.delete_, h1, hρk, run_underlying hu, MapKept.run_getObj_map e1, hck, hfk, MapKept.run_setObj_map _ e1]
      rfl

theorem zeroCells_list (z : Array Value) (n : Nat) : (Builtin.zeroCells z n).toList = (List.replicate n z.toList).flatten := made_flat _ _
theorem d_clearA {sz : Nat} {zero : List V} (hw : WRel μ lim w σ) (hd : o.dst = none) (hf : fit4 P (.clearA sz zero) o.op = some opers) (hx : RelVs μ lim w xs (opers.map ρ)) (ha : A.act call (.clearA sz zero) xs σ = some (x, σ')) :
    Done P μ lim w σ o ρ x.erase σ' := by
  obtain ⟨dst, op, ty, pos, after, guard⟩ := o
  simp only at hd
  simp only [fit4] at hf
  split at hf
  case h_2 => cases hf
  rename_i c
  obtain ⟨callee, args, argTypes⟩ := c
  split at hf
  case h_2 => cases hf
  rename_i xo t hcal hargs htys
  simp only at hcal hargs htys
  subst hcal
  obtain rfl : args = #[xo] := by rw [← Array.toList_inj]; simpa using hargs
  obtain rfl : argTypes = #[t] := by rw [← Array.toList_inj]; simpa using htys
  split at hf
  case h_2 => cases hf
  rename_i e he
  split at hf
  case isFalse => cases hf
  rename_i hc
  simp only [Bool.and_eq_true] at hc
  cases hf
  have hu := sliceElem_spec he
  obtain ⟨inf, z, z1, z2, z3, z4⟩ := zeroOK_spec hc.1
  obtain ⟨y, rfl, h1⟩ := rel1 hx
  have hnone : ∀ base cap, ρ xo = .slice base 0 cap → (execOp ρ ⟨dst, .call { callee := .builtin .clear, args := #[xo], argTypes := #[t] }, ty, pos, after, guard⟩).run P w = .ok (.value (.tuple #[])) w := by
    intro base cap h
    cases base <;> simp [execOp, resolve, invoke, builtin, Builtin.clear_, h, run_underlying hu]
  have hquiet : (∃ base cap, ρ xo = .slice base 0 cap) → σ' = σ → x = .undef → Done P μ lim w σ ⟨dst, .call { callee := .builtin .clear, args := #[xo], argTypes := #[t] }, ty, pos, after, guard⟩ ρ x.erase σ' := by
    rintro ⟨base, cap, h⟩ rfl rfl
    exact ⟨_, undef, μ, lim, w, hnone base cap h, .inl rfl, Chg.refl hw, rel_undef, fresh_undef, fun _ _ _ _ _ he => absurd he erase_ne_tail⟩
  simp only [A.act, actClearA] at ha
  split at ha
  · rename_i heq
    simp only [List.cons.injEq, and_true] at heq
    subst heq
    cases ha
    unfold RelV at h1
    obtain ⟨base, cap, h2, _⟩ := h1
    exact hquiet ⟨base, cap, h2⟩ rfl rfl
  · rename_i id off n sz' heq
    simp only [List.cons.injEq, and_true] at heq
    subst heq
    unfold RelV at h1
    obtain ⟨b, cap, hb, h3, h4, h5, h6⟩ := h1
    split at ha
    · rename_i hcond
      obtain ⟨hbase, rfl, hzl, hn0⟩ := hcond
      split at ha
      case h_2 => cases ha
      rename_i cs hcs
      split at ha
      case isFalse => cases ha
      rename_i hle
      cases ha
      have hget := get_spec hcs
      have hal : alive σ id := ⟨_, hget, by simp⟩
      obtain ⟨o1, o2, o3, o4⟩ := hw.obj id b _ hget hb
      have hfl : (List.replicate n zero).flatten.length = n * zero.length := by simp
      have hpos : 0 < bsize w b ∨ zero.length = 0 := by
        rcases Nat.eq_zero_or_pos zero.length with h | h
        · exact .inr h
        · left
          have : 0 < n * sz' := Nat.mul_pos (by omega) (by omega)
          omega
      obtain ⟨inf', z', e0, e1, e2, e3, e4, e5, e6, e7⟩ := elemOK_spec hc.2
      rw [z1] at e1; cases e1
      rw [z2] at e5; cases e5
      have hzpos : 0 < bsize w b := by
        rcases hpos with h | h
        · exact h
        · omega
      obtain ⟨c, cty, fr, hh⟩ : ∃ c cty fr, w.heap[b]? = some (.cells c cty fr) := by
        unfold bsize at hzpos
        split at hzpos
        · exact ⟨_, _, _, by assumption⟩
        · omega
      have hbs : bsize w b = c.size := by unfold bsize; rw [hh]
      obtain ⟨r1, r2⟩ := constsOK_rel (μ := μ) (lim := lim) (w := w) (constsOK_flat z3 n)
      generalize hvs : (List.replicate n z.cells.toList).flatten = vs at r1 r2
      have hvl : vs.length = n * sz' := by rw [← r1.length, hfl, hzl]
      obtain ⟨⟨c2, k1, k2, k3⟩, k4, k5, k6, k7, k8⟩ := setCells_heap b vs off w c cty fr hh (by rw [hvl]; omega)
      obtain ⟨g1, g2⟩ := chg_set hw hbase hal hb k6 k7 k8 k5 k4 (by unfold bsize; rw [k1, hh]; simp [k2]) (.cells (splice cs off (List.replicate n zero).flatten)) (fun hext => by
        refine ⟨o1, ?_, ?_, ?_⟩
        · rw [splice_length (by rw [hfl, hzl]; exact hle)]; unfold bsize; rw [k1]; simp only [k2]; omega
        · intro k
          have := o3 k
          simp [World.frozen?, hh] at this
          simp [World.frozen?, k1]
          exact this
        · intro k v hv
          rw [splice_get (by rw [hfl, hzl]; exact hle)] at hv
          have hck := k3 k
          rw [hvl] at hck
          rw [hfl, hzl] at hv
          split at hv
          · rename_i hk
            rw [if_pos hk] at hck
            obtain ⟨y, hy, hry⟩ := r1.get hv
            refine ⟨y, by simp [World.cell?, k1, hck, hy], hry.ext hext, r2 y (List.mem_of_getElem? hy)⟩
          · rename_i hk
            rw [if_neg hk] at hck
            obtain ⟨y, hy, hry, hyo⟩ := o4 k v hv
            refine ⟨y, ?_, hry.ext hext, hyo⟩
            simp [World.cell?, hh] at hy
            simp [World.cell?, k1, hck, hy])
      have hst := run_storeCells_cells (P := P) b off vs 0 w (fun j hj => by
        have hjl : off + j < c.size := by omega
        have : w.cell? ⟨b, off + 0 + j, none⟩ = some (c[off + j]'hjl) := by
          simp [World.cell?, hh]
        rw [this]; rfl) (fun j _ => o3 _) (oneCells' r2)
      refine ⟨_, undef, μ, lim, _, ?_, .inl rfl, g1, rel_undef, fresh_undef, fun _ _ _ _ _ he => absurd he erase_ne_tail⟩
      have hz0 : (zeroValue e).run P w = .ok z w := by simp [zeroValue, typeInfo, z1, z2]
      have hrun : (Builtin.clear_ #[t] ty #[.slice (some ⟨b, off, none⟩) n cap]).run P w = .ok (.tuple #[]) (w.setCells b off vs) := by
        cases n with
        | zero => exact absurd rfl hn0
        | succ n =>
          simp only [Nat.add_zero] at hst
          simp [Builtin.clear_, run_underlying hu, hz0, zeroCells_list, hvs, hst]
      simp [execOp, resolve, invoke, builtin, h5, hrun]
      rfl
    · split at ha
      · rename_i hn
        subst hn
        cases ha
        exact hquiet ⟨_, _, h5⟩ rfl rfl
      · cases ha
  · cases ha

theorem append_opers {sz : Nat} {arr : Bool} (hf : fit4 P (.append sz arr) o.op = some opers) : ∃ t u e xo yo, sliceElem P t = some e ∧ elemOK P e sz = true ∧ rowType P u = true ∧ opers = [xo, yo] ∧
    ∀ (ρ : Operand → Value) Z w', (Builtin.append_ #[t, u] o.type #[ρ xo, ρ yo]).run P w = .ok Z w' → (execOp ρ o).run P w = .ok (.value Z) w' := by
  obtain ⟨dst, op, ty, pos, after, guard⟩ := o
  simp only [fit4] at hf
  split at hf
  case h_2 => cases hf
  rename_i c
  obtain ⟨callee, args, argTypes⟩ := c
  split at hf
  case h_2 => cases hf
  rename_i x y t u hcal hargs htys
  simp only at hcal hargs htys
  subst hcal
  obtain rfl : args = #[x, y] := by rw [← Array.toList_inj]; simpa using hargs
  obtain rfl : argTypes = #[t, u] := by rw [← Array.toList_inj]; simpa using htys
  split at hf
  case h_2 => cases hf
  split at hf
  case isFalse => cases hf
  rename_i hc
  simp only [Bool.and_eq_true] at hc
  cases hf
  refine ⟨t, u, _, x, y, by assumption, hc.1, hc.2, rfl, fun ρ Z w' h => ?_⟩
  simp [execOp, resolve, invoke, builtin, h]

theorem freshV_shut {w0 : World} {lim' : Nat → Nat} {w' : World} {sz : Nat} {l : List (List V)} {X : Value} : FreshV w0 lim' w' (.slice .shut sz l) X := by
  cases X <;> trivial

theorem push_prefix (hw : WRel μ lim w σ) (hb : σ.base ≤ σ.objs.length) {cs : List V} {xs : List Value} (ty : TypeId) (hr : RelVs μ lim w cs xs) (h1 : ∀ v ∈ xs, v.oneCell = true) (rest : Array Value) :
    Chg μ lim w σ (μ ++ [w.heap.size]) lim (addObj w (.cells (xs.toArray ++ rest) ty (0, 0))) (σ.push (.cells cs)) ∧ (μ ++ [w.heap.size])[σ.objs.length]? = some w.heap.size ∧
      bsize (addObj w (.cells (xs.toArray ++ rest) ty (0, 0))) w.heap.size = xs.length + rest.size := by
  have hn := addObj_new w (.cells (xs.toArray ++ rest) ty (0, 0))
  have hbs : bsize (addObj w (.cells (xs.toArray ++ rest) ty (0, 0))) w.heap.size = xs.length + rest.size := by unfold bsize; rw [hn]; simp
  refine ⟨(chg_push hw hb _ _ ?_).1, by rw [← hw.len]; simp, hbs⟩
  refine ⟨hw.fresh _ (Nat.le_refl _), by rw [hbs, hr.length]; omega, fun k => frozen_row hn, fun k v hv => ?_⟩
  obtain ⟨y, hy, hry⟩ := hr.get hv
  refine ⟨y, ?_, hry.ext (ext_push hw _), h1 y (List.mem_of_getElem? hy)⟩
  have hkl := (List.getElem?_eq_some_iff.1 hy).1
  simp only [World.cell?, hn]
  rw [Array.getElem?_append_left (by simpa using hkl)]
  simpa using hy

/-- Append to an object's row, or to nothing. -/
theorem d_appendArr {sz : Nat} {y : V} (hw : WRel μ lim w σ) (hb : σ.base ≤ σ.objs.length) (hf : fit4 P (.append sz true) o.op = some opers) (hx : RelVs μ lim w [x, y] (opers.map ρ)) {z : V} (ha : A.act call (.append sz true) [x, y] σ = some (z, σ')) :
    Done P μ lim w σ o ρ z σ' := by
  obtain ⟨t, u, e, xo, yo, hT, he, h2, rfl, hexec⟩ := append_opers (w := w) hf
  obtain ⟨_, _, heq, hx1, hx2⟩ := rel2 hx
  simp only [List.cons.injEq, and_true] at heq
  obtain ⟨rfl, rfl⟩ := heq
  have hszp : 0 < sz := (elemOK_spec he).choose_spec.choose_spec.1
  have hdr : Chg μ lim w σ μ lim w.drew σ := chg_heap hw rfl rfl rfl rfl
  simp only [A.act, actAppend] at ha
  split at ha
  · -- nothing
    rename_i ow sz' l y' heq
    simp only [List.cons.injEq, and_true] at heq
    obtain ⟨rfl, rfl⟩ := heq
    split at ha
    case h_2 => cases ha
    rename_i l' hel
    simp only [if_true] at ha
    split at ha
    case isFalse => cases ha
    rename_i hc
    obtain ⟨rfl, rfl, hl0, hroom⟩ := hc
    obtain ⟨new, n1, n2, n3, n4, n5, n6⟩ := elems_rel (P := P) hw hel hx2
    have hx1' := hx1
    unfold RelV at hx1
    obtain ⟨base, cap, hX, ⟨_, hsh⟩, hcap, hbase⟩ := hx1
    have hc0 := hsh rfl
    have hl : l = [] := List.eq_nil_of_length_eq_zero hl0
    subst hl
    simp only [List.length_nil] at hc0 hX
    subst hc0
    split at ha
    · rename_i hm
      cases ha
      refine ⟨_, ρ xo, μ, lim, w, hexec ρ _ _ ?_, .inl rfl, Chg.refl hw, hx1', freshV_shut, fun _ _ _ _ _ he => by cases he⟩
      rw [hX]
      have hnew0 : new = [] := List.eq_nil_of_length_eq_zero (by rw [← n1.length, n4, hm, Nat.zero_mul])
      cases base with
      | none => exact run_append_none o.type hT he h2 n5 n6 hm
      | some ad =>
        simp only at hbase
        have had : ad = ⟨ad.block, ad.off, none⟩ := by cases ad; simp at hbase; simp [hbase.1]
        have := run_append_in (P := P) (w := w) (n := 0) (cap := 0) (b := ad.block) (off := ad.off) (new := new) o.type hT he h2 n5 n6 (by omega) (by rw [hnew0]; simp) (by rw [hnew0]; simp) (by rw [hnew0]; simp)
        rw [← had] at this
        rw [this, hnew0, hm]
        rfl
    · rename_i hm
      cases ha
      have hold : ∀ w', w'.heap = w.heap → (Builtin.firstCells sz' 0 (.slice base 0 0)).run P w' = .ok ([] : List Value).toArray w' := by
        intro w' _
        cases base with
        | none => simp [Builtin.firstCells]
        | some ad => simp [Builtin.firstCells, loadCells, loadCellsFrom]
      obtain ⟨nc, rest, m1, m2, m3, m4⟩ := run_append_new (P := P) (w := w) o.type hT he h2 n5 hold n6 (by omega) (by omega)
      obtain ⟨g1, g2, g3⟩ := push_prefix (w := w.drew) hdr.wrel hb e (RelVs.ext (ext_heap (w := w) (w' := w.drew) rfl) _ _ n1) n2 rest
      rw [List.nil_append] at m4
      simp only [Nat.zero_add] at m1 m3 m4
      refine ⟨_, _, _, lim, _, hexec ρ _ _ (by rw [hX]; exact m4), .inl rfl, hdr.trans g1, ?_, freshV_of_ne (by intro _ _ _ h; cases h) (by intro _ h; cases h), fun _ _ _ _ _ he => by cases he⟩
      unfold RelV
      refine ⟨w.heap.size, nc, g2, m1, m2, rfl, ?_⟩
      rw [show w.heap.size = w.drew.heap.size from rfl, g3, m3, ← n1.length, n4, ← Nat.add_mul]
      exact Nat.le_of_eq (by rw [Nat.zero_add]; congr 1; omega)
  · -- an object's row
    rename_i id off n sz' y' heq
    simp only [List.cons.injEq, and_true] at heq
    obtain ⟨rfl, rfl⟩ := heq
    split at ha
    case isFalse => cases ha
    rename_i hbase
    split at ha
    case h_2 => cases ha
    rename_i l' cs hel hcs
    split at ha
    case isFalse => cases ha
    rename_i hc
    obtain ⟨rfl, rfl, hcl, hroom⟩ := hc
    cases ha
    obtain ⟨new, n1, n2, n3, n4, n5, n6⟩ := elems_rel (P := P) hw hel hx2
    obtain ⟨old, k1, k2, k3, k4, _, k6⟩ := elems_rel (P := P) (y := .arr id 0 n sz') (sz := sz') (l := chunks sz' n (cs.drop 0)) hw (by simp [elems, hcs, hcl]) hx1
    obtain ⟨f1, f2, f3⟩ := chunks_flatten sz' n (cs.drop 0) (by simp; omega)
    have hcsf : (chunks sz' n (cs.drop 0)).flatten = cs.take (n * sz') := by rw [f1, List.drop_zero]
    have hcl' : (cs.take (n * sz')).length = n * sz' := by rw [List.length_take]; omega
    rw [hcsf] at k1
    rw [f2] at k6
    unfold RelV at hx1
    obtain ⟨b, cap, hm, hle, hcap, hX, hbs⟩ := hx1
    have hget := get_spec hcs
    have hal : alive σ id := ⟨_, hget, by simp⟩
    obtain ⟨o1, o2, o3, o4⟩ := hw.obj id b _ hget hm
    have hnl : new.length = l'.length * sz' := by rw [← n1.length, n4]
    by_cases hfit : n + l'.length ≤ cap
    · have hbs2 : n * sz' + new.length ≤ bsize w b := by
        rw [hnl, ← Nat.add_mul]
        have := Nat.mul_le_mul_right sz' hfit
        omega
      have hrun := run_append_in (P := P) (w := w) (n := n) (cap := cap) (b := b) (off := 0) (new := new) o.type hT he h2 n5 n6 hfit
        (by intro k hk; obtain ⟨cc, hcc⟩ := cell_of_lt (w := w) (b := b) (o := 0 + n * sz' + k) (by omega); rw [hcc]; rfl)
        (by intro k hk; exact o3 _) (oneCells' n2)
      simp only [Nat.zero_add] at hrun
      -- the world that the write leaves
      have hworld : ∃ (kk : bsize w b ≤ bsize (w.setCells b (n * sz') new) b), (w.setCells b (n * sz') new).os = w.os ∧ (w.setCells b (n * sz') new).tape = w.tape ∧ (w.setCells b (n * sz') new).output = w.output ∧
          (w.setCells b (n * sz') new).heap.size = w.heap.size ∧ (∀ c, c ≠ b → (w.setCells b (n * sz') new).heap[c]? = w.heap[c]?) ∧ (∀ k, (w.setCells b (n * sz') new).frozen? ⟨b, k, none⟩ = false) ∧
          ∀ k, (w.setCells b (n * sz') new).cell? ⟨b, k, none⟩ = if n * sz' ≤ k ∧ k < n * sz' + new.length then new[k - n * sz']? else w.cell? ⟨b, k, none⟩ := by
        by_cases hz : new.length = 0
        · have : new = [] := List.eq_nil_of_length_eq_zero hz
          subst this
          exact ⟨Nat.le_refl _, rfl, rfl, rfl, rfl, fun _ _ => rfl, o3, fun k => by rw [if_neg (by simp only [List.length_nil]; omega)]; rfl⟩
        · obtain ⟨c, cty, fr, hh⟩ : ∃ c cty fr, w.heap[b]? = some (.cells c cty fr) := by
            unfold bsize at hbs2
            split at hbs2
            · exact ⟨_, _, _, by assumption⟩
            · omega
          have hbc : bsize w b = c.size := by unfold bsize; rw [hh]
          obtain ⟨⟨c2, q1, q2, q3⟩, q4, q5, q6, q7, q8⟩ := setCells_heap b new (n * sz') w c cty fr hh (by omega)
          refine ⟨by unfold bsize; rw [q1, hh]; simp [q2], q6, q7, q8, q5, q4, fun k => ?_, fun k => ?_⟩
          · have := o3 k
            simp [World.frozen?, hh] at this
            simp [World.frozen?, q1]
            exact this
          · simp [World.cell?, q1, hh, q3]
      obtain ⟨q0, q1, q2, q3, q4, q5, q6, q7⟩ := hworld
      obtain ⟨g1, g2⟩ := chg_renew hw hb hbase hal hm q1 q2 q3 q4 q5 q0 (.cells (cs.take (n * sz') ++ l'.flatten)) (fun hext => by
        refine ⟨o1, ?_, q6, ?_⟩
        · rw [List.length_append, n4, hcl']; omega
        · intro k v hv
          rcases Nat.lt_or_ge k (cs.take (n * sz')).length with hk | hk
          · rw [List.getElem?_append_left hk] at hv
            rw [hcl'] at hk
            rw [List.getElem?_take_of_lt hk] at hv
            obtain ⟨y, hy, hry, hyo⟩ := o4 k v hv
            exact ⟨y, by rw [q7, if_neg (by omega)]; exact hy, hry.ext hext, hyo⟩
          · rw [List.getElem?_append_right hk] at hv
            obtain ⟨y, hy, hry⟩ := n1.get hv
            have hkl := (List.getElem?_eq_some_iff.1 hy).1
            rw [hcl'] at hk hy hkl
            refine ⟨y, by rw [q7, if_pos (by omega)]; exact hy, hry.ext hext, n2 y (List.mem_of_getElem? hy)⟩)
      refine ⟨_, _, _, lim, _, hexec ρ _ _ (by rw [hX]; exact hrun), .inl rfl, g1, ?_, freshV_of_ne (by intro _ _ _ h; cases h) (by intro _ h; cases h), fun _ _ _ _ _ he => by cases he⟩
      unfold RelV
      refine ⟨b, cap, by rw [← hw.len]; simp, hfit, hcap, rfl, ?_⟩
      exact Nat.le_trans hbs q0
    · rw [hX] at k6
      obtain ⟨nc, rest, m1, m2, m3, m4⟩ := run_append_new (P := P) (w := w) o.type hT he h2 n5 k6 n6 (by omega) hroom
      obtain ⟨d1, d2⟩ := chg_set hw hbase hal hm (w' := w) rfl rfl rfl rfl (fun _ _ => rfl) (Nat.le_refl _) .dead (fun _ => trivial)
      have hdr' : Chg μ lim w (σ.set id .dead) μ lim w.drew (σ.set id .dead) := chg_heap d1.wrel rfl rfl rfl rfl
      obtain ⟨g1, g2, g3⟩ := push_prefix (w := w.drew) hdr'.wrel (by simpa [St.set] using hb) e (RelVs.ext (ext_heap (w := w) (w' := w.drew) rfl) _ _ (RelVs.append k1 n1)) (by intro v hv; rcases List.mem_append.1 hv with hv | hv; exact k2 v hv; exact n2 v hv) rest
      refine ⟨_, _, _, lim, _, hexec ρ _ _ (by rw [hX]; exact m4), .inl rfl, (d1.trans hdr').trans g1, ?_, freshV_of_ne (by intro _ _ _ h; cases h) (by intro _ h; cases h), fun _ _ _ _ _ he => by cases he⟩
      unfold RelV
      refine ⟨w.heap.size, nc, by simpa [St.set] using g2, m1, m2, rfl, ?_⟩
      rw [show w.heap.size = w.drew.heap.size from rfl, g3, m3, List.length_append, ← k1.length, ← n1.length, n4, hcl', ← Nat.add_mul, ← Nat.add_mul]
      exact Nat.le_of_eq (by rw [Nat.zero_add]; congr 1; omega)
  · cases ha
end
end Go.Ab

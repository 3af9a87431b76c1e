/- New rows, new objects. No premise but those named. -/
import Derived.Test.YthjniafhfboggaaGreatDoorC2
namespace Go.Ab
open Go
section
variable {P : Program} {μ : List Nat} {lim : Nat → Nat} {w : World} {σ σ' : St} {o : Oper} {ρ : Operand → Value} {xs : List V} {x : V} {call : CallT} {opers : List Operand}

theorem alloc_addObj (w : World) (o : Go.Obj) : w.alloc o = addObj w o := rfl

theorem fresh_row' (hw : WRel μ lim w σ) {l : List (List V)} {c : Array Value} {sz : Nat} {e : TypeId} (hr : RelVs μ lim w l.flatten c.toList) (h1 : ∀ v ∈ c.toList, v.oneCell = true)
    (hs : ∀ cs ∈ l, cs.length = sz) (hcap : l.length < 2 ^ 63) :
    Chg μ lim w σ μ (fun b => if b = w.heap.size then l.length * sz else lim b) (addObj w (.cells c e (0, 0))) σ ∧
      RelV μ (fun b => if b = w.heap.size then l.length * sz else lim b) (addObj w (.cells c e (0, 0))) (.slice .shut sz l) (.slice (some ⟨w.heap.size, 0, none⟩) l.length l.length) := by
  obtain ⟨k1, k2, _⟩ := fresh_row (l := l) (xs := c.toList) (sz := sz) (cap := l.length) (rest := #[]) (e := e) hw hr h1 hs (flat_len sz l hs) (Nat.le_refl _) hcap (by simp) .shut (fun _ => rfl)
  simp only [Array.toArray_toList, Array.append_empty] at k1 k2
  exact ⟨k1, k2⟩

theorem d_buildSlice {sz n : Nat} {zero : List V} {is : List Nat} (hw : WRel μ lim w σ) (hf : fit3 P (.buildSlice sz n zero is) o.op = some opers) (hx : RelVs μ lim w xs (opers.map ρ)) (ha : A.act call (.buildSlice sz n zero is) xs σ = some (x, σ')) :
    Done P μ lim w σ o ρ x σ' := by
  obtain ⟨dst, op, ty, pos, after, guard⟩ := o
  simp only [fit3] at hf
  split at hf
  case h_2 => cases hf
  rename_i t len parts
  split at hf
  case h_2 => cases hf
  rename_i e he
  split at hf
  case isFalse => cases hf
  rename_i hc
  simp only [Bool.and_eq_true, beq_iff_eq, decide_eq_true_eq] at hc
  obtain ⟨⟨⟨⟨rfl, hz⟩, hzl⟩, hbig⟩, his⟩ := hc
  cases hf
  have hu := sliceElem_spec he
  obtain ⟨inf, z, z1, z2, z3, z4⟩ := zeroOK_spec hz
  have zl := constsOK_length z3
  simp only [A.act, actBuildSlice] at ha
  split at ha
  case isFalse => cases ha
  rename_i hcond
  cases hfe : fillElems sz (List.replicate len zero) is xs with
  | none => simp [hfe] at ha
  | some l' =>
    simp [hfe] at ha
    obtain ⟨rfl, rfl⟩ := ha
    have hzz : z.cells.size = sz := by rw [← hzl, zl]; simp
    obtain ⟨f1, f2, f3, f4⟩ := fillElems_flat sz is xs _ l' (by intro c hc; simp [List.mem_replicate] at hc; rw [hc.2]; exact hzl) hfe
    have hflat := constsOK_flat z3 len
    have hmf : (madeCells z.cells (len * sz)).toList = (List.replicate len z.cells.toList).flatten := by rw [← hzz]; exact made_flat _ _
    obtain ⟨r1, r2⟩ := constsOK_rel (μ := μ) (lim := lim) (w := w) hflat
    have r3 := nilCells_consts hflat
    rw [← hmf] at r1 r2 r3
    obtain ⟨c', k1, k2, k3, k4, k5, k6⟩ := fill_rel (fun i => some (i * sz, sz)) (is.map fun i => (i * sz, sz)) xs (parts.toList.map fun p => (p.1, ρ p.2)) _ _ l'.flatten
      (by rw [← his]; simp [Function.comp_def]) (by rw [List.map_map]; rw [List.map_map] at hx; exact hx) r1 r3 f1
    have hone : ∀ v ∈ c'.toList, v.oneCell = true := k6 r2 (by
      intro p hp v hv
      simp only [List.mem_map] at hp
      obtain ⟨q, hq, rfl⟩ := hp
      obtain ⟨k, hk⟩ := List.getElem?_of_mem hq
      obtain ⟨j, hj⟩ := List.getElem?_of_mem hv
      have hlen := hx.length
      have hkl : k < xs.length := by rw [hlen]; simp; have := (List.getElem?_eq_some_iff.1 hk).1; simpa using this
      have hxr : RelV μ lim w xs[k] (ρ q.2) := hx.get' (List.getElem?_eq_getElem hkl) (by rw [List.map_map]; simp only [List.getElem?_map, hk, Option.map_some, Function.comp_apply])
      have hcr := hxr.cells
      have hjl : j < xs[k].cells.length := by rw [hcr.length]; exact (List.getElem?_eq_some_iff.1 hj).1
      have hleaf := f4 xs[k] (List.getElem_mem hkl)
      exact (hcr.get' (List.getElem?_eq_getElem hjl) hj).leaf (List.all_eq_true.1 hleaf _ (List.getElem_mem hjl)))
    have hl'len : l'.length = len := by rw [f2]; simp
    obtain ⟨g1, g2⟩ := fresh_row' (e := e) hw k3 hone f3 (by rw [hl'len]; omega)
    rw [hl'len] at g1 g2
    refine ⟨_, .slice (some ⟨w.heap.size, 0, none⟩) len len, μ, _, _, ?_, .inl rfl, g1, g2, trivial, by intro _ _ _ _ _ he; cases he⟩
    have hsz : (sizeOf e).run P w = .ok sz w := by simp [sizeOf, typeInfo, z1, z4, hzl]
    have hfill : Instr.fill (fun i => some (i * sz, sz)) (madeCells z.cells (len * sz)) (parts.map fun (i, x) => (i, ρ x)).toList = some c' := by rw [parts_toList]; exact k1
    have hnb : ¬ (16777216 < len * sz) := by omega
    simp only [madeCells] at hfill
    by_cases h0 : len * sz = 0
    · have he0 : (Array.range (len * sz)).map (fun x => z.cells[x % z.cells.size]!) = (Array.range (len * sz)).map (fun x => (#[] : Array Value)[x % (#[] : Array Value).size]!) := by rw [h0]; simp
      rw [he0] at hfill
      simp [execOp, Instr.buildSlice, run_underlying hu, hsz, h0, newRow] at hfill ⊢
      rw [hfill]
      simp [alloc_addObj]
    · simp [execOp, Instr.buildSlice, run_underlying hu, hsz, hnb, h0, zeroValue, typeInfo, z1, z2, newRow] at hfill ⊢
      rw [hfill]
      simp [alloc_addObj]

/-! ## objects -/

theorem ext_push (hw : WRel μ lim w σ) (o : Go.Obj) : Ext μ lim w (μ ++ [w.heap.size]) lim (addObj w o) := by
  have hlim : (fun b => if b = w.heap.size then 0 else lim b) = lim := by
    funext b
    split
    · rename_i h; rw [hw.fresh b (by omega)]
    · rfl
  have hx := ext_add hw o 0 [w.heap.size]
  rwa [hlim] at hx

theorem push_cells (hw : WRel μ lim w σ) (hb : σ.base ≤ σ.objs.length) {cs : List V} {c : Array Value} (ty : TypeId) (hr : RelVs μ lim w cs c.toList) (h1 : ∀ v ∈ c.toList, v.oneCell = true) :
    Chg μ lim w σ (μ ++ [w.heap.size]) lim (addObj w (.cells c ty (0, 0))) (σ.push (.cells cs)) ∧ (μ ++ [w.heap.size])[σ.objs.length]? = some w.heap.size ∧ bsize (addObj w (.cells c ty (0, 0))) w.heap.size = c.size := by
  have hn := addObj_new w (.cells c ty (0, 0))
  have hbs : bsize (addObj w (.cells c ty (0, 0))) w.heap.size = c.size := by unfold bsize; rw [hn]
  refine ⟨(chg_push hw hb _ _ ?_).1, by rw [← hw.len]; simp, hbs⟩
  refine ⟨hw.fresh _ (Nat.le_refl _), by rw [hbs, hr.length]; simp, fun k => frozen_row hn, fun k v hv => ?_⟩
  obtain ⟨y, hy, hry⟩ := hr.get hv
  refine ⟨y, ?_, hry.ext (ext_push hw _), h1 y (List.mem_of_getElem? hy)⟩
  rw [Array.getElem?_toList] at hy
  simp [World.cell?, hn, hy]

theorem push_var (hw : WRel μ lim w σ) (hb : σ.base ≤ σ.objs.length) {cs : List V} {c : Array Value} (ty : TypeId) (hr : RelVs μ lim w cs c.toList) (h1 : ∀ v ∈ c.toList, v.oneCell = true) :
    Chg μ lim w σ (μ ++ [w.heap.size]) lim (addObj w (.cells c ty (0, 0))) (σ.push (.var ty cs)) ∧ (μ ++ [w.heap.size])[σ.objs.length]? = some w.heap.size := by
  have hn := addObj_new w (.cells c ty (0, 0))
  refine ⟨(chg_push hw hb _ _ ?_).1, by rw [← hw.len]; simp⟩
  refine ⟨hw.fresh _ (Nat.le_refl _), c, hn, by rw [hr.length]; simp, fun k v hv => ?_⟩
  obtain ⟨y, hy, hry⟩ := hr.get hv
  refine ⟨y, ?_, hry.ext (ext_push hw _), h1 y (List.mem_of_getElem? hy)⟩
  rw [Array.getElem?_toList] at hy
  simp [World.cell?, hn, hy]

theorem d_alloc {t0 : TypeId} {zero : List V} (hw : WRel μ lim w σ) (hb : σ.base ≤ σ.objs.length) (hf : fit3 P (.alloc t0 zero) o.op = some opers) (hx : RelVs μ lim w xs (opers.map ρ)) (ha : A.act call (.alloc t0 zero) xs σ = some (x, σ')) :
    Done P μ lim w σ o ρ x.erase σ' := by
  obtain ⟨dst, op, ty, pos, after, guard⟩ := o
  simp only [fit3] at hf
  split at hf
  case h_2 => cases hf
  rename_i t
  split at hf
  case isFalse => cases hf
  rename_i hz
  simp only [Bool.and_eq_true, decide_eq_true_eq] at hz
  obtain ⟨rfl, hz⟩ := hz
  cases hf
  obtain ⟨inf, z, z1, z2, z3, z4⟩ := zeroOK_spec hz
  simp only [A.act, actAlloc] at ha
  split at ha
  case h_2 => cases ha
  split at ha
  case isFalse => cases ha
  cases ha
  obtain ⟨r1, r2⟩ := constsOK_rel (μ := μ) (lim := lim) (w := w) z3
  obtain ⟨g1, g2⟩ := push_var hw hb t0 r1 r2
  refine ⟨_, .pointer (some ⟨w.heap.size, 0, none⟩), _, lim, _, ?_, .inl rfl, g1, ?_, freshV_erase, fun _ _ _ _ _ he => absurd he erase_ne_tail⟩
  · simp [execOp, Instr.alloc, zeroValue, typeInfo, z1, z2, newVar, newRow, alloc_addObj]
  · show RelV _ _ _ (V.ptr _ _) _
    unfold RelV
    exact ⟨_, g2, rfl⟩

theorem d_allocArr {zero : List V} (hw : WRel μ lim w σ) (hb : σ.base ≤ σ.objs.length) (hf : fit3 P (.allocArr zero) o.op = some opers) (hx : RelVs μ lim w xs (opers.map ρ)) (ha : A.act call (.allocArr zero) xs σ = some (x, σ')) :
    Done P μ lim w σ o ρ x.erase σ' := by
  obtain ⟨dst, op, ty, pos, after, guard⟩ := o
  simp only [fit3] at hf
  split at hf
  case h_2 => cases hf
  rename_i t
  split at hf
  case isFalse => cases hf
  rename_i hz
  cases hf
  obtain ⟨inf, z, z1, z2, z3, z4⟩ := zeroOK_spec hz
  simp only [A.act, actAllocArr] at ha
  split at ha
  case h_2 => cases ha
  split at ha
  case isFalse => cases ha
  cases ha
  obtain ⟨r1, r2⟩ := constsOK_rel (μ := μ) (lim := lim) (w := w) z3
  obtain ⟨g1, g2, _⟩ := push_cells hw hb t r1 r2
  refine ⟨_, .pointer (some ⟨w.heap.size, 0, none⟩), _, lim, _, ?_, .inl rfl, g1, ?_, freshV_erase, fun _ _ _ _ _ he => absurd he erase_ne_tail⟩
  · simp [execOp, Instr.alloc, zeroValue, typeInfo, z1, z2, newVar, newRow, alloc_addObj]
  · show RelV _ _ _ (V.ptr _ _) _
    unfold RelV
    exact ⟨_, g2, rfl⟩

theorem d_box {t0 : TypeId} (hw : WRel μ lim w σ) (hb : σ.base ≤ σ.objs.length) (hf : fit3 P (.box t0) o.op = some opers) (hx : RelVs μ lim w xs (opers.map ρ)) (ha : A.act call (.box t0) xs σ = some (x, σ')) :
    Done P μ lim w σ o ρ x.erase σ' := by
  obtain ⟨dst, op, ty, pos, after, guard⟩ := o
  simp only [fit3] at hf
  split at hf
  case h_2 => cases hf
  rename_i t xo
  split at hf
  case isFalse => cases hf
  rename_i ht
  subst ht
  cases hf
  obtain ⟨y, rfl, h1⟩ := rel1 hx
  simp only [A.act, actBox] at ha
  split at ha
  case isFalse => cases ha
  rename_i hl
  cases ha
  have hcr := h1.cells
  obtain ⟨g1, g2⟩ := push_var hw hb t0 hcr (by
    intro v hv
    obtain ⟨j, hj⟩ := List.getElem?_of_mem hv
    have hjl : j < y.cells.length := by rw [hcr.length]; exact (List.getElem?_eq_some_iff.1 hj).1
    exact (hcr.get' (List.getElem?_eq_getElem hjl) hj).leaf (List.all_eq_true.1 hl _ (List.getElem_mem hjl)))
  refine ⟨_, .pointer (some ⟨w.heap.size, 0, none⟩), _, lim, _, ?_, .inl rfl, g1, ?_, freshV_erase, fun _ _ _ _ _ he => absurd he erase_ne_tail⟩
  · simp [execOp, Instr.box, newVar, newRow, alloc_addObj]
  · show RelV _ _ _ (V.ptr _ _) _
    unfold RelV
    exact ⟨_, g2, rfl⟩

theorem d_mkMap (hw : WRel μ lim w σ) (hb : σ.base ≤ σ.objs.length) (hρ : ∀ c, ρ (.const c) = c) (hf : fit3 P .mkMap o.op = some opers) (hx : RelVs μ lim w xs (opers.map ρ)) (ha : A.act call .mkMap xs σ = some (x, σ')) :
    Done P μ lim w σ o ρ x.erase σ' := by
  obtain ⟨dst, op, ty, pos, after, guard⟩ := o
  have hn := addObj_new w (.map #[] 0)
  have hrun : (execOp ρ ⟨dst, op, ty, pos, after, guard⟩).run P w = .ok (.value (.map (some w.heap.size))) (addObj w (.map #[] 0)) ∧ opers = [] := by
    simp only [fit3] at hf
    split at hf
    · cases hf
      exact ⟨by simp [execOp, Instr.makeMap, alloc_addObj], rfl⟩
    · rename_i t k n
      split at hf
      · rename_i hu
        cases hf
        exact ⟨by simp [execOp, Instr.makeMap, run_underlying hu, hρ, asInt, asIntOf, alloc_addObj], rfl⟩
      · cases hf
    · cases hf
  obtain ⟨hrun, rfl⟩ := hrun
  simp only [A.act, actMkMap] at ha
  split at ha
  case h_2 => cases ha
  cases ha
  refine ⟨_, _, _, lim, _, hrun, .inl rfl, (chg_push hw hb _ _ ?_).1, ?_, freshV_erase, fun _ _ _ _ _ he => absurd he erase_ne_tail⟩
  · exact ⟨hw.fresh _ (Nat.le_refl _), #[], hn, rfl, fun i k v h => by simp at h⟩
  · show RelV _ _ _ (V.map _) _
    unfold RelV
    exact ⟨w.heap.size, by rw [← hw.len]; simp, rfl⟩
end
end Go.Ab

/- Rows of bytes whose type is known: append to them, their text. No premise but those named. -/
import Derived.Test.YthjniafhfboggaaGreatDoorC6
import Derived.Lib.AppendZerosOnto
import Derived.Lib.UnsafeStr
namespace Go.Ab
open Go

section
variable {P : Program} {μ : List Nat} {lim : Nat → Nat} {w : World} {σ σ' : St} {o : Oper} {ρ : Operand → Value} {xs : List V} {x : V} {call : CallT} {opers : List Operand}

theorem getRow_spec {id : Nat} {e : TypeId} {cs : List V} (h : σ.getRow id = some (e, cs)) : σ.objs[id]? = some (.row e cs) := by
  unfold St.getRow at h
  split at h
  · rename_i ho; cases h; exact ho
  · cases h

theorem row_cells {b : Nat} {e : TypeId} {cs : List V} (h : ObjRel μ lim w b (.row e cs)) : ObjRel μ lim w b (.cells cs) := by
  obtain ⟨h1, c, h2, h3, h4⟩ := h
  exact ⟨h1, by unfold bsize; rw [h2]; exact h3, fun k => frozen_row h2, h4⟩

theorem appendB_opers {e0 : TypeId} (hf : fit4 P (.appendB e0) o.op = some opers) : ∃ t u xo yo, sliceElem P t = some e0 ∧ elemOK P e0 1 = true ∧ rowType P u = true ∧ opers = [xo, yo] ∧
    ∀ (ρ : Operand → Value) Z w', (Builtin.append_ #[t, u] o.type #[ρ xo, ρ yo]).run P w = .ok Z w' → (execOp ρ o).run P w = .ok (.value Z) w' := by
  obtain ⟨dst, op, ty, pos, after, guard⟩ := o
  simp only [fit4] at hf
  split at hf
  case h_2 => cases hf
  rename_i c
  obtain ⟨callee, args, argTypes⟩ := c
  split at hf
  case h_2 => cases hf
  rename_i x y t u hcal hargs htys
  simp only at hcal hargs htys
  subst hcal
  obtain rfl : args = #[x, y] := by rw [← Array.toList_inj]; simpa using hargs
  obtain rfl : argTypes = #[t, u] := by rw [← Array.toList_inj]; simpa using htys
  split at hf
  case h_2 => cases hf
  split at hf
  case isFalse => cases hf
  rename_i hc
  simp only [Bool.and_eq_true, decide_eq_true_eq] at hc
  obtain ⟨⟨rfl, h1⟩, h2⟩ := hc
  cases hf
  refine ⟨t, u, x, y, by assumption, h1, h2, rfl, fun ρ Z w' h => ?_⟩
  simp [execOp, resolve, invoke, builtin, h]

theorem push_row (hw : WRel μ lim w σ) (hb : σ.base ≤ σ.objs.length) {cs : List V} {xs : List Value} (ty : TypeId) (hr : RelVs μ lim w cs xs) (h1 : ∀ v ∈ xs, v.oneCell = true) (rest : Array Value) :
    Chg μ lim w σ (μ ++ [w.heap.size]) lim (addObj w (.cells (xs.toArray ++ rest) ty (0, 0))) (σ.push (.row ty cs)) ∧ (μ ++ [w.heap.size])[σ.objs.length]? = some w.heap.size ∧
      bsize (addObj w (.cells (xs.toArray ++ rest) ty (0, 0))) w.heap.size = xs.length + rest.size := by
  have hn := addObj_new w (.cells (xs.toArray ++ rest) ty (0, 0))
  have hbs : bsize (addObj w (.cells (xs.toArray ++ rest) ty (0, 0))) w.heap.size = xs.length + rest.size := by unfold bsize; rw [hn]; simp
  refine ⟨(chg_push hw hb _ _ ?_).1, by rw [← hw.len]; simp, hbs⟩
  refine ⟨hw.fresh _ (Nat.le_refl _), _, hn, by rw [hr.length]; simp, fun k v hv => ?_⟩
  obtain ⟨y, hy, hry⟩ := hr.get hv
  refine ⟨y, ?_, hry.ext (ext_push hw _), h1 y (List.mem_of_getElem? hy)⟩
  have hkl := (List.getElem?_eq_some_iff.1 hy).1
  simp only [World.cell?, hn]
  rw [Array.getElem?_append_left (by simpa using hkl)]
  simpa using hy

/-- Append to a row of bytes, or to nothing. -/
theorem d_appendB {e : TypeId} {y : V} (hw : WRel μ lim w σ) (hb : σ.base ≤ σ.objs.length) (hf : fit4 P (.appendB e) o.op = some opers) (hx : RelVs μ lim w [x, y] (opers.map ρ)) {z : V} (ha : A.act call (.appendB e) [x, y] σ = some (z, σ')) :
    Done P μ lim w σ o ρ z σ' := by
  obtain ⟨t, u, xo, yo, hT, he, h2, rfl, hexec⟩ := appendB_opers (w := w) hf
  obtain ⟨_, _, heq, hx1, hx2⟩ := rel2 hx
  simp only [List.cons.injEq, and_true] at heq
  obtain ⟨rfl, rfl⟩ := heq
  have hdr : Chg μ lim w σ μ lim w.drew σ := chg_heap hw rfl rfl rfl rfl
  simp only [A.act, actAppendB] at ha
  split at ha
  · -- nothing
    rename_i ow sz' l y' heq
    simp only [List.cons.injEq, and_true] at heq
    obtain ⟨rfl, rfl⟩ := heq
    split at ha
    case h_2 => cases ha
    rename_i l' hel
    split at ha
    case isFalse => cases ha
    rename_i hc
    obtain ⟨rfl, rfl, hl0, hroom⟩ := hc
    obtain ⟨new, n1, n2, n3, n4, n5, n6⟩ := elems_rel (P := P) hw hel hx2
    have hx1' := hx1
    unfold RelV at hx1
    obtain ⟨base, cap, hX, ⟨_, hsh⟩, hcap, hbase⟩ := hx1
    have hc0 := hsh rfl
    have hl : l = [] := List.eq_nil_of_length_eq_zero hl0
    subst hl
    simp only [List.length_nil] at hc0 hX
    subst hc0
    split at ha
    · rename_i hm
      cases ha
      refine ⟨_, ρ xo, μ, lim, w, hexec ρ _ _ ?_, .inl rfl, Chg.refl hw, hx1', freshV_shut, fun _ _ _ _ _ he => by cases he⟩
      rw [hX]
      have hnew0 : new = [] := List.eq_nil_of_length_eq_zero (by rw [← n1.length, n4, hm, Nat.zero_mul])
      cases base with
      | none => exact run_append_none o.type hT he h2 n5 n6 hm
      | some ad =>
        simp only at hbase
        have had : ad = ⟨ad.block, ad.off, none⟩ := by cases ad; simp at hbase; simp [hbase.1]
        have := run_append_in (P := P) (w := w) (n := 0) (cap := 0) (b := ad.block) (off := ad.off) (new := new) o.type hT he h2 n5 n6 (by omega) (by rw [hnew0]; simp) (by rw [hnew0]; simp) (by rw [hnew0]; simp)
        rw [← had] at this
        rw [this, hnew0, hm]
        rfl
    · rename_i hm
      cases ha
      have hold : ∀ w', w'.heap = w.heap → (Builtin.firstCells 1 0 (.slice base 0 0)).run P w' = .ok ([] : List Value).toArray w' := by
        intro w' _
        cases base with
        | none => simp [Builtin.firstCells]
        | some ad => simp [Builtin.firstCells, loadCells, loadCellsFrom]
      obtain ⟨nc, rest, m1, m2, m3, m4⟩ := run_append_new (P := P) (w := w) o.type hT he h2 n5 hold n6 (by omega) (by omega)
      obtain ⟨g1, g2, g3⟩ := push_row (w := w.drew) hdr.wrel hb e (RelVs.ext (ext_heap (w := w) (w' := w.drew) rfl) _ _ n1) n2 rest
      rw [List.nil_append] at m4
      simp only [Nat.zero_add] at m1 m3 m4
      refine ⟨_, _, _, lim, _, hexec ρ _ _ (by rw [hX]; exact m4), .inl rfl, hdr.trans g1, ?_, freshV_of_ne (by intro _ _ _ h; cases h) (by intro _ h; cases h), fun _ _ _ _ _ he => by cases he⟩
      unfold RelV
      refine ⟨w.heap.size, nc, g2, m1, m2, rfl, ?_⟩
      rw [show w.heap.size = w.drew.heap.size from rfl, g3, m3, ← n1.length, n4, ← Nat.add_mul]
      exact Nat.le_of_eq (by rw [Nat.zero_add]; congr 1; omega)
  · -- an object's row
    rename_i id off n sz' y' heq
    simp only [List.cons.injEq, and_true] at heq
    obtain ⟨rfl, rfl⟩ := heq
    split at ha
    case isFalse => cases ha
    rename_i hbase
    split at ha
    case h_2 => cases ha
    rename_i l' e' cs hel hcs
    split at ha
    case isFalse => cases ha
    rename_i hc
    obtain ⟨he', rfl, rfl, hcl, hroom⟩ := hc
    rw [he'] at hcs
    cases ha
    have hget := getRow_spec hcs
    have hal : alive σ id := ⟨_, hget, by simp⟩
    have hidl : id < σ.objs.length := (List.getElem?_eq_some_iff.1 hget).1
    obtain ⟨new, n1, n2, n3, n4, n5, n6⟩ := elems_rel (P := P) hw hel hx2
    have hm0 : ∃ b, μ[id]? = some b := by unfold RelV at hx1; obtain ⟨b, _, hm, _⟩ := hx1; exact ⟨b, hm⟩
    obtain ⟨b0, hm0⟩ := hm0
    have hcg := (chg_set hw hbase hal hm0 (w' := w) rfl rfl rfl rfl (fun _ _ => rfl) (Nat.le_refl _) (.cells cs) (fun _ => row_cells (hw.obj id b0 _ hget hm0))).1
    have hcs2 : (σ.set id (.cells cs)).get id = some cs := by simp [St.set, St.get, hidl]
    obtain ⟨old, k1, k2, k3, k4, _, k6⟩ := elems_rel (P := P) (σ := σ.set id (.cells cs)) (y := .arr id 0 n 1) (sz := 1) (l := chunks 1 n (cs.drop 0)) hcg.wrel (by simp [elems, hcs2]; omega) hx1
    obtain ⟨f1, f2, f3⟩ := chunks_flatten 1 n (cs.drop 0) (by simp; omega)
    have hcsf : (chunks 1 n (cs.drop 0)).flatten = cs := by rw [f1, List.drop_zero, Nat.mul_one, ← hcl, List.take_length]
    rw [hcsf] at k1
    rw [f2] at k6
    unfold RelV at hx1
    obtain ⟨b, cap, hm, hle, hcap, hX, hbs⟩ := hx1
    obtain ⟨o1, cc, hh, o2, o4⟩ := hw.obj id b _ hget hm
    have o3 : ∀ k, w.frozen? ⟨b, k, none⟩ = false := fun k => frozen_row hh
    have hbc : bsize w b = cc.size := by unfold bsize; rw [hh]
    have hnl : new.length = l'.length * 1 := by rw [← n1.length, n4]
    by_cases hfit : n + l'.length ≤ cap
    · have hbs2 : n * 1 + new.length ≤ bsize w b := by
        rw [hnl, ← Nat.add_mul]
        have := Nat.mul_le_mul_right 1 hfit
        omega
      have hrun := run_append_in (P := P) (w := w) (n := n) (cap := cap) (b := b) (off := 0) (new := new) o.type hT he h2 n5 n6 hfit
        (by intro k hk; obtain ⟨cc, hcc⟩ := cell_of_lt (w := w) (b := b) (o := 0 + n * 1 + k) (by omega); rw [hcc]; rfl)
        (by intro k hk; exact o3 _) (oneCells' n2)
      simp only [Nat.zero_add] at hrun
      -- the world that the write leaves
      have hworld : ∃ (kk : bsize w b ≤ bsize (w.setCells b (n * 1) new) b), (w.setCells b (n * 1) new).os = w.os ∧ (w.setCells b (n * 1) new).tape = w.tape ∧ (w.setCells b (n * 1) new).output = w.output ∧
          (w.setCells b (n * 1) new).heap.size = w.heap.size ∧ (∀ c, c ≠ b → (w.setCells b (n * 1) new).heap[c]? = w.heap[c]?) ∧ (∀ k, (w.setCells b (n * 1) new).frozen? ⟨b, k, none⟩ = false) ∧
          (∃ c2, (w.setCells b (n * 1) new).heap[b]? = some (.cells c2 e (0, 0)) ∧ c2.size = cc.size) ∧
          ∀ k, (w.setCells b (n * 1) new).cell? ⟨b, k, none⟩ = if n * 1 ≤ k ∧ k < n * 1 + new.length then new[k - n * 1]? else w.cell? ⟨b, k, none⟩ := by
        by_cases hz : new.length = 0
        · have : new = [] := List.eq_nil_of_length_eq_zero hz
          subst this
          exact ⟨Nat.le_refl _, rfl, rfl, rfl, rfl, fun _ _ => rfl, o3, ⟨cc, hh, rfl⟩, fun k => by rw [if_neg (by simp only [List.length_nil]; omega)]; rfl⟩
        · obtain ⟨⟨c2, q1, q2, q3⟩, q4, q5, q6, q7, q8⟩ := setCells_heap b new (n * 1) w cc e (0, 0) hh (by omega)
          refine ⟨by unfold bsize; rw [q1, hh]; simp [q2], q6, q7, q8, q5, q4, fun k => ?_, ⟨c2, q1, q2⟩, fun k => ?_⟩
          · unfold World.frozen?
            simp only [q1]
            simp
          · simp only [World.cell?, q1, hh]
            exact q3 k
      obtain ⟨q0, q1, q2, q3, q4, q5, q6, ⟨c2, q8, q9⟩, q7⟩ := hworld
      obtain ⟨g1, g2⟩ := chg_renew hw hb hbase hal hm q1 q2 q3 q4 q5 q0 (.row e (cs ++ l'.flatten)) (fun hext => by
        refine ⟨o1, c2, q8, ?_, ?_⟩
        · rw [q9]; rw [List.length_append, n4, hcl]; omega
        · intro k v hv
          rcases Nat.lt_or_ge k cs.length with hk | hk
          · rw [List.getElem?_append_left hk] at hv
            obtain ⟨y, hy, hry, hyo⟩ := o4 k v hv
            exact ⟨y, by rw [q7, if_neg (by omega)]; exact hy, hry.ext hext, hyo⟩
          · rw [List.getElem?_append_right hk] at hv
            obtain ⟨y, hy, hry⟩ := n1.get hv
            have hkl := (List.getElem?_eq_some_iff.1 hy).1
            refine ⟨y, by rw [q7, if_pos (by omega), ← hcl, Nat.mul_one]; exact hy, hry.ext hext, n2 y (List.mem_of_getElem? hy)⟩)
      refine ⟨_, _, _, lim, _, hexec ρ _ _ (by rw [hX]; exact hrun), .inl rfl, g1, ?_, freshV_of_ne (by intro _ _ _ h; cases h) (by intro _ h; cases h), fun _ _ _ _ _ he => by cases he⟩
      unfold RelV
      refine ⟨b, cap, by rw [← hw.len]; simp, hfit, hcap, rfl, ?_⟩
      exact Nat.le_trans hbs q0
    · rw [hX] at k6
      obtain ⟨nc, rest, m1, m2, m3, m4⟩ := run_append_new (P := P) (w := w) o.type hT he h2 n5 k6 n6 (by omega) hroom
      obtain ⟨d1, d2⟩ := chg_set hw hbase hal hm (w' := w) rfl rfl rfl rfl (fun _ _ => rfl) (Nat.le_refl _) .dead (fun _ => trivial)
      have hdr' : Chg μ lim w (σ.set id .dead) μ lim w.drew (σ.set id .dead) := chg_heap d1.wrel rfl rfl rfl rfl
      obtain ⟨g1, g2, g3⟩ := push_row (w := w.drew) hdr'.wrel (by simpa [St.set] using hb) e (RelVs.ext (ext_heap (w := w) (w' := w.drew) rfl) _ _ (RelVs.append k1 n1)) (by intro v hv; rcases List.mem_append.1 hv with hv | hv; exact k2 v hv; exact n2 v hv) rest
      refine ⟨_, _, _, lim, _, hexec ρ _ _ (by rw [hX]; exact m4), .inl rfl, (d1.trans hdr').trans g1, ?_, freshV_of_ne (by intro _ _ _ h; cases h) (by intro _ h; cases h), fun _ _ _ _ _ he => by cases he⟩
      unfold RelV
      refine ⟨w.heap.size, nc, by simpa [St.set] using g2, m1, m2, rfl, ?_⟩
      rw [show w.heap.size = w.drew.heap.size from rfl, g3, m3, List.length_append, ← k1.length, ← n1.length, n4, hcl]
      omega
  · cases ha

theorem q_sliceData (hf : fit4 P .sliceData o.op = some opers) (hx : RelVs μ lim w xs (opers.map ρ)) (ha : A.act call .sliceData xs σ = some (x, σ')) :
    σ' = σ ∧ Quiet P μ lim w o ρ x := by
  obtain ⟨dst, op, ty, pos, after, guard⟩ := o
  simp only [fit4] at hf
  split at hf
  case h_2 => cases hf
  rename_i c
  obtain ⟨callee, args, argTypes⟩ := c
  split at hf
  case h_2 => cases hf
  rename_i xo hcal hargs
  simp only at hcal hargs
  subst hcal
  obtain rfl : args = #[xo] := by rw [← Array.toList_inj]; simpa using hargs
  cases hf
  obtain ⟨y, rfl, h1⟩ := rel1 hx
  simp only [A.act, actSliceData] at ha
  split at ha
  case h_2 => cases ha
  rename_i id off n sz heq
  simp only [List.cons.injEq, and_true] at heq
  subst heq
  split at ha
  case isFalse => cases ha
  rename_i hn
  cases ha
  unfold RelV at h1
  obtain ⟨b, cap, h2, h3, h4, h5, h6⟩ := h1
  refine ⟨rfl, .pointer (some ⟨b, off, none⟩), ?_, by unfold RelV; exact ⟨b, h2, rfl⟩⟩
  have := Lib.run_unsafeSliceData_row (P := P) w argTypes ty ⟨b, off, none⟩ n cap (by omega)
  simp [execOp, resolve, invoke, builtin, h5, this]

theorem d_appendZ {sz : Nat} {zero : List V} (hw : WRel μ lim w σ) (hb : σ.base ≤ σ.objs.length) (hf : fit4 P (.appendZ sz zero) o.op = some opers) (hx : RelVs μ lim w xs (opers.map ρ)) (ha : A.act call (.appendZ sz zero) xs σ = some (x, σ')) :
    Done P μ lim w σ o ρ x.erase σ' := by
  obtain ⟨dst, op, ty, pos, after, guard⟩ := o
  simp only [fit4] at hf
  split at hf
  case h_2 => cases hf
  rename_i c
  obtain ⟨callee, args, argTypes⟩ := c
  split at hf
  case h_2 => cases hf
  rename_i xo yo t u hcal hargs htys
  simp only at hcal hargs htys
  subst hcal
  obtain rfl : args = #[xo, yo] := by rw [← Array.toList_inj]; simpa using hargs
  obtain rfl : argTypes = #[t, u] := by rw [← Array.toList_inj]; simpa using htys
  split at hf
  case h_2 => cases hf
  rename_i e kk he hun
  split at hf
  case isFalse => cases hf
  rename_i hc
  simp only [Bool.and_eq_true] at hc
  cases hf
  have hu := sliceElem_spec he
  obtain ⟨inf, z, z1, z2, z3, z4⟩ := zeroOK_spec hc.1
  obtain ⟨inf', z', e0, e1, e2, e3, e4, e5, e6, e7⟩ := elemOK_spec hc.2
  rw [z1] at e1; cases e1
  rw [z2] at e5; cases e5
  obtain ⟨y, y2, rfl, h1, h2⟩ := rel2 hx
  simp only [A.act, actAppendZ] at ha
  split at ha
  case h_2 => cases ha
  rename_i sz' n heq
  simp only [List.cons.injEq, and_true] at heq
  obtain ⟨rfl, rfl⟩ := heq
  split at ha
  case isFalse => cases ha
  rename_i hcond
  obtain ⟨rfl, hzl, hn0, hnc⟩ := hcond
  cases ha
  unfold RelV at h1
  obtain ⟨base, cap, hX, ⟨_, hsh⟩, _, hbase⟩ := h1
  have hc0 := hsh rfl
  simp only [List.length_nil] at hc0 hX
  subst hc0
  obtain ⟨k, rfl⟩ : ∃ k : Nat, n = (k : Int) := ⟨n.toNat, by omega⟩
  have hold : (Builtin.firstCells inf.size 0 (.slice base 0 0)).run P w.drew = .ok ([] : List Value).toArray w.drew := by
    cases base with
    | none => simp [Builtin.firstCells]
    | some ad => simp [Builtin.firstCells, loadCells, loadCellsFrom]
  have hg : (0 : Nat) < 0 + k := by omega
  have hk48 : k * inf.bytes ≤ 281474976710656 := by
    have : k * inf.bytes ≤ 1048576 * 4096 := Nat.mul_le_mul (by omega) e4
    omega
  have hfit : Builtin.nextslicecap (0 + k) 0 * inf.bytes ≤ 281474976710656 := by
    have h3 := Go.nextslicecap_le (need := 0 + k) (old := 0) hg
    have : Builtin.nextslicecap (0 + k) 0 * inf.bytes ≤ (2 * (0 + k)) * 4096 := Nat.mul_le_mul h3 e4
    omega
  have hrun := Lib.run_append_grow_zeros w t u ty e inf z .i64 kk hu hun z1 z2 base 0 0 [] hold k (by omega) (by omega) (by omega) (by omega) hk48 hfit
  simp only [Nat.zero_add] at hrun
  have hG : k ≤ grownCap w k 0 e := grownCap_ge w _ _ _
  have hG63 : grownCap w k 0 e < 2 ^ 63 := by
    have := grownCap_le_maxLen w k 0 e (by unfold maxLen; omega)
    unfold maxLen at this
    omega
  generalize grownCap w k 0 e = G at hG hG63 hrun
  have hzc : (Builtin.zeroCells z.cells k).toList = (List.replicate k z.cells.toList).flatten := zeroCells_list _ _
  obtain ⟨r1, r2⟩ := constsOK_rel (μ := μ) (lim := lim) (w := w) (constsOK_flat z3 k)
  rw [← hzc] at r1 r2
  have hdr : Chg μ lim w σ μ lim w.drew σ := chg_heap hw rfl rfl rfl rfl
  obtain ⟨g1, g2, g3⟩ := push_prefix (w := w.drew) hdr.wrel hb e (RelVs.ext (ext_heap (w := w) (w' := w.drew) rfl) _ _ r1) r2 (Builtin.zeroCells z.cells (G - k))
  have hexec : (execOp ρ ⟨dst, .call { callee := .builtin .append, args := #[xo, yo], argTypes := #[t, u] }, ty, pos, after, guard⟩).run P w = .ok (.value (.slice (some ⟨w.heap.size, 0, none⟩) k G)) (addObj w.drew (.cells ((Builtin.zeroCells z.cells k).toList.toArray ++ Builtin.zeroCells z.cells (G - k)) e (0, 0))) := by
    simp only [execOp, resolve, invoke, builtin, List.map_toArray, List.map_cons, List.map_nil, hX, relSc h2, Sem.run_bind, Sem.run_pure, Result.andThen_ok, hrun]
    simp [alloc_addObj]
  refine ⟨_, _, _, lim, _, hexec, .inl rfl, hdr.trans g1, ?_, freshV_of_ne (by intro _ _ _ h; cases h) (by intro _ h; cases h), fun _ _ _ _ _ he => by cases he⟩
  show RelV _ _ _ (V.arr _ _ _ _) _
  unfold RelV
  refine ⟨w.heap.size, G, g2, by omega, hG63, by simp, ?_⟩
  have hl1 : (Builtin.zeroCells z.cells k).toList.length = k * sz' := by rw [Array.length_toList, zeroCells_size, e6]
  rw [show w.heap.size = w.drew.heap.size from rfl, g3, hl1, zeroCells_size, e6, ← Nat.add_mul]
  exact Nat.le_of_eq (by rw [Nat.zero_add]; congr 1; omega)

theorem q_capS (hf : fit4 P .capS o.op = some opers) (hx : RelVs μ lim w xs (opers.map ρ)) (ha : A.act call .capS xs σ = some (x, σ')) :
    σ' = σ ∧ Quiet P μ lim w o ρ x := by
  obtain ⟨dst, op, ty, pos, after, guard⟩ := o
  simp only [fit4] at hf
  split at hf
  case h_2 => cases hf
  rename_i c
  obtain ⟨callee, args, argTypes⟩ := c
  split at hf
  case h_2 => cases hf
  rename_i xo t hcal hargs htys
  simp only at hcal hargs htys
  subst hcal
  obtain rfl : args = #[xo] := by rw [← Array.toList_inj]; simpa using hargs
  obtain rfl : argTypes = #[t] := by rw [← Array.toList_inj]; simpa using htys
  split at hf
  case h_2 => cases hf
  rename_i e he
  cases hf
  have hu := sliceElem_spec he
  obtain ⟨y, rfl, h1⟩ := rel1 hx
  simp only [A.act, actCapS] at ha
  split at ha
  case h_2 => cases ha
  rename_i sz l heq
  simp only [List.cons.injEq, and_true] at heq
  subst heq
  cases ha
  unfold RelV at h1
  obtain ⟨base, cap, h2, ⟨_, h3⟩, _⟩ := h1
  have hc := h3 rfl
  subst hc
  exact ⟨rfl, .int .i64 l.length, by simp [execOp, resolve, invoke, builtin, Builtin.cap_, h2, run_underlying hu, goInt], scRel rfl⟩

theorem freeze_heap (w : World) (a : Addr) (n : Nat) (hn : n ≠ 0) : (w.freeze a n).heap.size = w.heap.size ∧ (∀ k, k ≠ a.block → (w.freeze a n).heap[k]? = w.heap[k]?) ∧
    ∀ c e fr, w.heap[a.block]? = some (.cells c e fr) → ∃ fr', (w.freeze a n).heap[a.block]? = some (.cells c e fr') := by
  unfold World.freeze
  rw [if_neg hn]
  refine ⟨by simp, fun k hk => by simp [Array.getElem?_modify, Ne.symm hk], fun c e fr h => ?_⟩
  simp [Array.getElem?_modify, h]

theorem map_singleton_flatten (l : List V) : (l.map fun c => [c]).flatten = l := by
  induction l with
  | nil => rfl
  | cons a l ih => simp [ih]

theorem d_unsafeStr {e : TypeId} (hw : WRel μ lim w σ) (hf : fit4 P (.unsafeStr e) o.op = some opers) (hx : RelVs μ lim w xs (opers.map ρ)) (ha : A.act call (.unsafeStr e) xs σ = some (x, σ')) :
    Done P μ lim w σ o ρ x.erase σ' := by
  obtain ⟨dst, op, ty, pos, after, guard⟩ := o
  simp only [fit4] at hf
  split at hf
  case h_2 => cases hf
  rename_i c
  obtain ⟨callee, args, argTypes⟩ := c
  split at hf
  case h_2 => cases hf
  rename_i xo yo t it hcal hargs htys
  simp only at hcal hargs htys
  subst hcal
  obtain rfl : args = #[xo, yo] := by rw [← Array.toList_inj]; simpa using hargs
  obtain rfl : argTypes = #[t, it] := by rw [← Array.toList_inj]; simpa using htys
  split at hf
  case h_2 => cases hf
  rename_i e' hu
  split at hf
  case isFalse => cases hf
  rename_i hc
  simp only [Bool.and_eq_true, decide_eq_true_eq, beq_iff_eq] at hc
  obtain ⟨rfl, hc1⟩ := hc
  cases hf
  obtain ⟨y, z, rfl, h1, h2⟩ := rel2 hx
  simp only [A.act, actUnsafeStr] at ha
  split at ha
  case h_2 => cases ha
  rename_i id off n heq
  simp only [List.cons.injEq, and_true] at heq
  obtain ⟨rfl, rfl⟩ := heq
  split at ha
  case isFalse => cases ha
  rename_i hcond
  obtain ⟨hbase, rfl, hn0, hnr⟩ := hcond
  split at ha
  case h_2 => cases ha
  rename_i e2 cs hcs
  split at ha
  case isFalse => cases ha
  rename_i hcl
  obtain ⟨rfl, hcl, hby⟩ := hcl
  split at ha
  case h_2 => cases ha
  rename_i bs hbs
  cases ha
  have hget := getRow_spec hcs
  have hal : alive σ id := ⟨_, hget, by simp⟩
  unfold RelV at h1
  obtain ⟨b, hb, h1⟩ := h1
  obtain ⟨o1, c, hh, o2, o4⟩ := hw.obj id b _ hget hb
  have hblt : b < w.heap.size := (Array.getElem?_eq_some_iff.1 hh).1
  -- the bytes that lie there
  have hrel : RelVs μ lim w (cs.map fun c => [c]).flatten (c.toList.take cs.length) := by
    rw [map_singleton_flatten]
    refine RelVs.of_get (by simp; omega) fun k v x hv hx => ?_
    obtain ⟨x', q1, q2, _⟩ := o4 k v hv
    have hkl := (List.getElem?_eq_some_iff.1 hv).1
    rw [List.getElem?_take_of_lt hkl, Array.getElem?_toList] at hx
    simp only [World.cell?, hh] at q1
    rw [hx] at q1
    cases q1
    exact q2
  obtain ⟨ns, hns, hbs2⟩ := bytes_rel hbs hrel
  have hnl : ns.length = cs.length := by
    have := congrArg List.length hns
    simp at this
    omega
  have hcell : ∀ j y, bs[j]? = some y → w.cell? ((⟨b, 0, none⟩ : Addr).add j) = some (.int .u8 y.toNat) := by
    intro j y hy
    rw [hbs2, List.getElem?_map, Option.map_eq_some_iff] at hy
    obtain ⟨m, hm, rfl⟩ := hy
    have hjl : j < cs.length := by rw [← hnl]; exact (List.getElem?_eq_some_iff.1 hm).1
    have hcj : c[j]? = some (.int .u8 m) := by
      have := congrArg (fun l => l[j]?) hns
      simp only [List.getElem?_take_of_lt hjl, Array.getElem?_toList, List.getElem?_map, hm, Option.map_some] at this
      exact this
    -- each is a byte
    obtain ⟨x', q1, q2, _⟩ := o4 j _ (List.getElem?_eq_getElem hjl)
    have hbj := List.all_eq_true.1 hby _ (List.getElem_mem hjl)
    unfold byteV at hbj
    split at hbj
    case h_2 => cases hbj
    rename_i m' hm'
    rw [hm'] at q2
    have := relSc q2
    simp only [World.cell?, hh, hcj] at q1
    have hmm : m = m' := by rw [this] at q1; simpa using q1
    subst hmm
    have hr := of_decide_eq_true hbj
    rw [add_at, Nat.zero_add]
    simp only [World.cell?, hh, hcj]
    have : (m.toNat : Int) = m := by omega
    have h2 : (UInt8.ofNat m.toNat).toNat = m.toNat := by simp [UInt8.toNat_ofNat']; omega
    rw [h2, this]
    rfl
  have hbl : bs.length = cs.length := by rw [hbs2]; simpa using hnl
  have hn : n = (bs.length : Int) := by rw [hbl]; exact hcl.symm
  have hroom : roomy = 4294967296 := by decide
  have hrun := Lib.run_unsafeString_row (P := P) w t it ty e2 hu hc1 b c.size (by simp [World.shape?, hh]) bs (by intro h; rw [h] at hn; simp only [List.length_nil] at hn; omega) (by omega) (by rw [hroom] at hnr; omega) hcell
  obtain ⟨f1, f2, f3⟩ := freeze_heap w ⟨b, 0, none⟩ bs.length (by omega)
  have hnw : (w.freeze ⟨b, 0, none⟩ bs.length).os = w.os ∧ (w.freeze ⟨b, 0, none⟩ bs.length).tape = w.tape ∧ (w.freeze ⟨b, 0, none⟩ bs.length).output = w.output := by
    unfold World.freeze
    split <;> exact ⟨rfl, rfl, rfl⟩
  obtain ⟨fr, hb2⟩ := f3 _ _ _ hh
  obtain ⟨g1, _⟩ := chg_set hw hbase hal hb hnw.1 hnw.2.1 hnw.2.2 f1 f2
    (by unfold bsize; rw [hh, hb2]; exact Nat.le_refl _) .dead (fun _ => trivial)
  refine ⟨_, .string ⟨bs.toArray⟩, μ, lim, _, ?_, .inl rfl, g1, ?_, freshV_erase, fun _ _ _ _ _ he => absurd he erase_ne_tail⟩
  · rw [← hn] at hrun
    simp [execOp, resolve, invoke, builtin, h1, relSc h2, hrun]
  · exact relV_erase.2 (scRel rfl)
end
end Go.Ab

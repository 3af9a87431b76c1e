/- One step of a region: boxes, what takes. No premise but those named. -/
import Derived.Test.YthjniafhfboggaaGreatDoorD4
namespace Go.Ab
open Go
section
variable {P : Program} {C : Ctx} {μ : List Nat} {lim : Nat → Nat} {ow : Nat → Owner} {s s' : FS} {a : Act} {w : World} {call : CallT} {ops : Array Oper} {ad : Addrs} {done : Nat → Prop} {deps : List Nat} {i : Nat} {m : MOper} {o : Oper}
  {K : Act → World → Prop} {Q : Exit → Act → World → Prop}

theorem step_nop (hC : C.OK) (h : FRel C μ lim ow s a w) (had : AddrOK C ops ad done s.R a) (hdone : ∀ d ∈ deps, done d) (hi : ops[i]? = some o) {k0 : Nat} (hk : m.k = .nop k0) (hd : dstOK C m.dst i o.dst) (hf : kOK P C.slots C.dsts ops ad deps i m o = true) (hwant : wanted s.R m.guard = some true) (hs : step call i m s = some s')
    (hK : ∀ X, FRel C μ lim ow s' (a.put o.dst X) w → (∀ k off, ad[i]? = some (some (k, off)) → AddrIs C k off o (a.put o.dst X)) → K (a.put o.dst X) w) : o.wp P a w K Q := by
  simp only [kOK, hk] at hf
  split at hf
  case h_2 => cases hf
  rename_i t x f k off hdst hop hadi
  split at hf
  case h_2 => cases hf
  rename_i fo hfo
  simp only [Bool.and_eq_true, decide_eq_true_eq, beq_iff_eq] at hf
  obtain ⟨⟨⟨⟨hle, hb⟩, hsm⟩, hkl⟩, _⟩ := hf
  subst hkl
  obtain ⟨tt, hot⟩ := Option.isSome_iff_exists.1 hsm
  simp only [step, hwant, hk] at hs
  split at hs
  case h_2 => cases hs
  rename_i cs hRi hcs
  cases hs
  obtain ⟨u, b, c, ty, h1, h2, h3, h4, h5, h6, h7⟩ := boxAddr_spec h had hdone hwant hb hcs
  have hd' : C.dsts[i]? = some o.dst := by rw [hdst] at hd; exact hd
  refine run_ops ⟨.pointer (some ⟨b, off, none⟩), w, ?_, ?_⟩
  · unfold execOp; rw [hop]
    have := run_fieldOff (P := P) (w := w) hfo b (off - fo)
    rw [show off - fo + fo = off by omega] at this
    simp [h3, this]
  · refine hK _ (h.skip hC hd' (by rw [hRi]; simp) _) ?_
    intro k' off' hadj
    rw [hadi] at hadj; cases hadj
    refine ⟨tt, u, b, hot, h1, ?_, ?_⟩
    · rw [hot]
      exact put_get_eq (by rw [h.tmps]; rw [hot] at hd'; exact (hC.dlt i tt hd').1)
    · rw [put_get_ne (by rw [hot] at hd' ⊢; exact fun e => (hC.dlt i tt hd').2 (by cases e; exact List.mem_of_getElem? h1))]
      exact h2

theorem step_loadBox (hC : C.OK) (h : FRel C μ lim ow s a w) (had : AddrOK C ops ad done s.R a) (hdone : ∀ d ∈ deps, done d) {sl off n : Nat} {agg : Bool} (hk : m.k = .loadBox sl off n agg) (hd : dstOK C m.dst i o.dst) (hf : kOK P C.slots C.dsts ops ad deps i m o = true) (hwant : wanted s.R m.guard = some true) (hs : step call i m s = some s') (hK : Goes C s' a o K) : o.wp P a w K Q := by
  simp only [kOK, hk, Bool.and_eq_true] at hf
  obtain ⟨_, hf⟩ := hf
  split at hf
  case h_2 => cases hf
  rename_i t y hop
  simp only [Bool.and_eq_true] at hf
  simp only [step, hwant, hk] at hs
  split at hs
  case h_2 => cases hs
  rename_i cs hcs
  split at hs
  case h_2 => cases hs
  rename_i x hp
  cases hs
  obtain ⟨u, b, c, ty, h1, h2, h3, h4, h5, h6, h7⟩ := boxAddr_spec h had hdone hwant hf.2 hcs
  obtain ⟨X, hX, hr, _⟩ := run_loadBox (P := P) hp h4 h7 hf.1.1 hf.1.2
  obtain ⟨ow', hf'⟩ := h.put_fresh hC (Chg.refl h.chg.wrel) hd (relV_erase.2 hr) freshV_erase (fun _ _ _ _ _ he => absurd he erase_ne_tail)
  refine run_ops ⟨X, w, ?_, hK _ _ _ _ _ hf'⟩
  unfold execOp; rw [hop]
  simp [h3, hX]

theorem step_takeBox (hC : C.OK) (h : FRel C μ lim ow s a w) (had : AddrOK C ops ad done s.R a) (hdone : ∀ d ∈ deps, done d) {sl off : Nat} (hk : m.k = .takeBox sl off) (hd : dstOK C m.dst i o.dst) (hf : kOK P C.slots C.dsts ops ad deps i m o = true) (hwant : wanted s.R m.guard = some true) (hs : step call i m s = some s') (hK : Goes C s' a o K) : o.wp P a w K Q := by
  simp only [kOK, hk, Bool.and_eq_true, bne_iff_ne] at hf
  obtain ⟨⟨_, hne⟩, hf⟩ := hf
  split at hf
  case h_2 => cases hf
  rename_i t y hop
  simp only [Bool.and_eq_true] at hf
  simp only [step, hwant, hk] at hs
  split at hs
  case h_2 => cases hs
  rename_i cs hcs
  split at hs
  case h_2 => cases hs
  rename_i x hp
  split at hs
  case isFalse => cases hs
  rename_i hleaf
  cases hs
  obtain ⟨u, b, c, ty, h1, h2, h3, h4, h5, h6, h7⟩ := boxAddr_spec h had hdone hwant hf.2 hcs
  have hpart : Go.Ab.part cs off 1 false = some x := by
    unfold Go.Ab.part
    have := (List.getElem?_eq_some_iff.1 hp).1
    rw [if_pos (by omega)]
    simp [hp]
  obtain ⟨X, hX, hr, hcX⟩ := run_loadBox (P := P) hpart h4 h7 hf.1.1 hf.1.2
  obtain ⟨ow', hf'⟩ := h.takeBox hC hcs hp h1 h2 h4 (hcX rfl) hd hne (by intro cs hc; subst hc; simp [V.leaf] at hleaf)
  refine run_ops ⟨X, w, ?_, hK _ _ _ _ _ hf'⟩
  unfold execOp; rw [hop]
  simp [h3, hX]

theorem step_storeBox (h : FRel C μ lim ow s a w) (had : AddrOK C ops ad done s.R a) (hdone : ∀ d ∈ deps, done d) {sl off n : Nat} (hk : m.k = .storeBox sl off n) (hf : kOK P C.slots C.dsts ops ad deps i m o = true) (hwant : wanted s.R m.guard = some true) (hs : step call i m s = some s') (hK : Goes C s' a o K) : o.wp P a w K Q := by
  simp only [kOK, hk, Bool.and_eq_true, Option.isNone_iff_eq_none] at hf
  obtain ⟨⟨⟨_, hod⟩, _⟩, hf⟩ := hf
  split at hf
  case h_2 => cases hf
  rename_i t y z hop
  simp only [Bool.and_eq_true] at hf
  simp only [step, hwant, hk] at hs
  split at hs
  case h_2 => cases hs
  rename_i cs x hcs hxs
  split at hs
  case isFalse => cases hs
  rename_i hc
  cases hs
  obtain ⟨u, b, c, ty, h1, h2, h3, h4, h5, h6, h7⟩ := boxAddr_spec h had hdone hwant hf.1.2 hcs
  obtain ⟨hx, he⟩ := rds_rel h hxs hf.2
  have hr : RelV μ lim w x (a.eval z) := by simp only [List.map_cons, List.map_nil] at hx; unfold RelVs at hx; exact hx.1
  obtain ⟨u', hxe⟩ := he x (.head _)
  have hsz : (a.eval z).cells.size = n := by rw [hr.cells_size]; exact hc.1
  have hlen : cs.length = c.size := by rw [h7.length]; simp
  obtain ⟨ow', hf'⟩ := h.storeBox hcs h1 h2 h4 hr.cells hc.1 hc.2.1 none (R' := s.R) rfl (fun k v hv => .inl ⟨hv, by simp⟩) (fun k v y hv hy => .inr (by
    rw [hxe] at hv
    obtain ⟨u2, rfl⟩ := erase_cells_leaf (List.mem_of_getElem? hv); exact nilLeaf_eraseLeaf))
  refine run_skip ⟨w.setCells b off (a.eval z).cells.toList, ?_, ?_⟩
  · unfold execOp; rw [hop]
    have hst := run_storeVar (P := P) (o := off) (by rw [hsz]; exact hf.1.1) h4 (by rw [hsz]; omega) (fun k => frozen_row h4) (oneCells' (cells_leaf hr hc.2.2))
    simp [h3, hst]
  · have := hK undef _ _ _ _ (by rw [hod]; exact hf')
    exact this

theorem step_keepBox (h : FRel C μ lim ow s a w) (had : AddrOK C ops ad done s.R a) (hdone : ∀ d ∈ deps, done d) {sl off n r : Nat} (hk : m.k = .keepBox sl off n r) (hf : kOK P C.slots C.dsts ops ad deps i m o = true) (hwant : wanted s.R m.guard = some true) (hs : step call i m s = some s') (hK : Goes C s' a o K) : o.wp P a w K Q := by
  simp only [kOK, hk, Bool.and_eq_true, Option.isNone_iff_eq_none] at hf
  obtain ⟨⟨⟨_, hod⟩, _⟩, hf⟩ := hf
  split at hf
  case h_2 => cases hf
  rename_i t y z hop
  simp only [Bool.and_eq_true] at hf
  simp only [step, hwant, hk] at hs
  split at hs
  case h_2 => cases hs
  rename_i cs x hcs hrx
  split at hs
  case isFalse => cases hs
  rename_i hc
  cases hs
  obtain ⟨u, b, c, ty, h1, h2, h3, h4, h5, h6, h7⟩ := boxAddr_spec h had hdone hwant hf.1.2 hcs
  obtain ⟨tt, k1, k2, hr, hown⟩ := opd_res h hf.2 hrx
  have hsz : (a.eval z).cells.size = n := by rw [hr.cells_size]; exact hc.1
  have hlen : cs.length = c.size := by rw [h7.length]; simp
  obtain ⟨ow', hf'⟩ := h.storeBox hcs h1 h2 h4 hr.cells hc.1 hc.2.1 (some r) (R' := s.R.set r (some x.erase)) (by simp) (fun k v hv => by
      by_cases hkr : k = r
      · subst hkr
        rw [List.getElem?_set_self (List.getElem?_eq_some_iff.1 hrx).1] at hv
        cases hv
        exact .inr ⟨x, hrx, rfl⟩
      · rw [List.getElem?_set_ne (fun e => hkr e.symm)] at hv
        exact .inl ⟨hv, by simpa using fun e => hkr e.symm⟩) (fun k v y hv hy => by
      cases x with
      | agg cs' =>
        unfold RelV at hr
        obtain ⟨zs, hz, _⟩ := hr
        rw [hz] at hown hy
        exact .inr (hown k v y hv hy)
      | _ =>
        simp only [V.cells] at hv hc
        cases k with
        | succ k => simp at hv
        | zero =>
          simp at hv
          subst hv
          rw [cells_of_noAgg (hr.noAgg (by intro cs hc; cases hc))] at hy
          simp at hy
          subst hy
          exact .inl ⟨r, rfl, by simpa using hc.1.symm, hown⟩)
  refine run_skip ⟨w.setCells b off (a.eval z).cells.toList, ?_, ?_⟩
  · unfold execOp; rw [hop]
    have hst := run_storeVar (P := P) (o := off) (by rw [hsz]; exact hf.1.1) h4 (by rw [hsz]; omega) (fun k => frozen_row h4) (oneCells' (cells_leaf hr hc.2.2))
    simp [h3, hst]
  · have := hK undef _ _ _ _ (by rw [hod]; exact hf')
    exact this

theorem step_ownAppend (hC : C.OK) (h : FRel C μ lim ow s a w) {sz : Nat} {arr : Bool} {j : Nat} (hk : m.k = .own (.append sz arr) j) (hd : dstOK C m.dst i o.dst) (hf : kOK P C.slots C.dsts ops ad deps i m o = true) (hwant : wanted s.R m.guard = some true) (hs : step call i m s = some s') (hK : Goes C s' a o K) : o.wp P a w K Q := by
  simp only [kOK, hk, Bool.and_eq_true] at hf
  obtain ⟨_, hf⟩ := hf
  split at hf
  case h_2 => cases hf
  rename_i x0 opers hfit
  simp only [Bool.and_eq_true] at hf
  have hfit2 : fit4 P (.append sz true) o.op = some (x0 :: opers) := hfit
  obtain ⟨t, u, e, xo, yo, hT, he, h2, hopers, hexec⟩ := append_opers (w := w) hfit
  simp only [List.cons.injEq] at hopers
  obtain ⟨rfl, rfl⟩ := hopers
  simp only [step, hwant, hk] at hs
  split at hs
  case h_2 => cases hs
  rename_i x xs hj hxs
  split at hs
  case h_1 => cases hs
  rename_i z σ' hact
  cases hs
  obtain ⟨hx, _⟩ := rds_rel h hxs hf.2
  obtain ⟨y, rfl⟩ := rds_one hf.2 hxs
  obtain ⟨tt, k1, k2, hr, hown⟩ := opd_res h hf.1 hj
  have hy : RelV μ lim w y (a.eval yo) := by simp only [List.map_cons, List.map_nil] at hx; unfold RelVs at hx; exact hx.1
  have harr : A.act call (.append sz true) [x, y] s.σ = some (z, σ') → o.wp P a w K Q := by
    intro hact
    have hxy : RelVs μ lim w [x, y] ([x0, yo].map a.eval) := by
      simp only [List.map_cons, List.map_nil]; unfold RelVs; refine ⟨hr, ?_⟩; unfold RelVs; refine ⟨hy, ?_⟩; unfold RelVs; trivial
    refine (d_appendArr h.chg.wrel h.based hfit2 hxy hact).outcome K Q ?_
    rintro X w' ⟨μ', lim', g1, g2, g3, g4⟩
    obtain ⟨ow', hf'⟩ := (h.eraseR hj).put_fresh hC g1 hd g2 g3 g4
    exact hK X μ' lim' ow' w' hf'
  cases arr with
  | true => exact harr hact
  | false =>
    cases x with
    | arr id off n sz' => exact harr hact
    | slice oo sz' l =>
      simp only [A.act, actAppend] at hact
      split at hact
      case h_2 => cases hact
      rename_i l' hel
      simp only [Bool.false_eq_true, if_false] at hact
      split at hact
      case isFalse => cases hact
      rename_i hc
      obtain ⟨hno, rfl, hroom⟩ := hc
      cases hact
      obtain ⟨Z, lim', w', ow', hrun, hf'⟩ := h.append (P := P) hC hj k1 k2 hy hel hno hroom o.type hT he h2 hd
      exact run_ops ⟨Z, w', hexec a.eval Z w' hrun, hK _ _ _ _ _ hf'⟩
    | _ => simp [A.act, actAppend] at hact

theorem step_ownAppendB (hC : C.OK) (h : FRel C μ lim ow s a w) {e : TypeId} {j : Nat} (hk : m.k = .own (.appendB e) j) (hd : dstOK C m.dst i o.dst) (hf : kOK P C.slots C.dsts ops ad deps i m o = true) (hwant : wanted s.R m.guard = some true) (hs : step call i m s = some s') (hK : Goes C s' a o K) : o.wp P a w K Q := by
  simp only [kOK, hk, Bool.and_eq_true] at hf
  obtain ⟨_, hf⟩ := hf
  split at hf
  case h_2 => cases hf
  rename_i x0 opers hfit
  simp only [Bool.and_eq_true] at hf
  obtain ⟨t, u, xo, yo, hT, he, h2, hopers, hexec⟩ := appendB_opers (w := w) hfit
  simp only [List.cons.injEq] at hopers
  obtain ⟨rfl, rfl⟩ := hopers
  simp only [step, hwant, hk] at hs
  split at hs
  case h_2 => cases hs
  rename_i x xs hj hxs
  split at hs
  case h_1 => cases hs
  rename_i z σ' hact
  cases hs
  obtain ⟨hx, _⟩ := rds_rel h hxs hf.2
  obtain ⟨y, rfl⟩ := rds_one hf.2 hxs
  obtain ⟨tt, k1, k2, hr, hown⟩ := opd_res h hf.1 hj
  have hy : RelV μ lim w y (a.eval yo) := by simp only [List.map_cons, List.map_nil] at hx; unfold RelVs at hx; exact hx.1
  have hxy : RelVs μ lim w [x, y] ([x0, yo].map a.eval) := by
    simp only [List.map_cons, List.map_nil]; unfold RelVs; refine ⟨hr, ?_⟩; unfold RelVs; refine ⟨hy, ?_⟩; unfold RelVs; trivial
  refine (d_appendB h.chg.wrel h.based hfit hxy hact).outcome K Q ?_
  rintro X w' ⟨μ', lim', g1, g2, g3, g4⟩
  obtain ⟨ow', hf'⟩ := (h.eraseR hj).put_fresh hC g1 hd g2 g3 g4
  exact hK X μ' lim' ow' w' hf'

theorem step_ownSlice (hC : C.OK) (h : FRel C μ lim ow s a w) {sz : Nat} {lo hi mx : Bool} {j : Nat} (hk : m.k = .own (.sliceS sz lo hi mx) j) (hd : dstOK C m.dst i o.dst) (hf : kOK P C.slots C.dsts ops ad deps i m o = true) (hwant : wanted s.R m.guard = some true) (hs : step call i m s = some s') (hK : Goes C s' a o K) : o.wp P a w K Q := by
  simp only [kOK, hk, Bool.and_eq_true] at hf
  obtain ⟨_, hf⟩ := hf
  split at hf
  case h_2 => cases hf
  rename_i x0 opers hfit
  simp only [Bool.and_eq_true] at hf
  obtain ⟨t, e, xo, ol, oh, om, hop, ht, hsz, hlo, hhi, hmx, hopers⟩ := slice_opers hfit
  simp only [List.cons.injEq] at hopers
  obtain ⟨rfl, rfl⟩ := hopers
  simp only [step, hwant, hk] at hs
  split at hs
  case h_2 => cases hs
  rename_i x xs hj hxs
  split at hs
  case h_1 => cases hs
  rename_i z σ' hact
  cases hs
  obtain ⟨hx, _⟩ := rds_rel h hxs hf.2
  obtain ⟨tt, k1, k2, hr, hown⟩ := opd_res h hf.1 hj
  simp only [A.act, actSliceS] at hact
  split at hact
  · rename_i ow0 sz' l ys heq
    simp only [List.cons.injEq] at heq
    obtain ⟨rfl, rfl⟩ := heq
    split at hact
    case h_2 => cases hact
    rename_i a1 b1 mm hsa
    split at hact
    case isFalse => cases hact
    rename_i hsz'
    subst hsz'
    cases hact
    obtain ⟨X', g1, g2, g3⟩ := slice_rel ht hsz hr hlo hhi hmx hx hsa
    have hmv := h.move hC hj k1 k2 hd
    have hown2 : OwnLeaf lim w (give ow m.dst i (some (.res j)) none) (ownerOf m.dst i) (.slice ow0 sz' l) (a.eval x0) := by
      have : OwnLeaf lim w ow (.res j) (.slice ow0 sz' l) (a.eval x0) := by
        unfold OwnV at hown
        split at hown
        · rename_i heq _; cases heq
        · exact hown
      exact this.mono (fun b hb _ => ⟨rfl, rfl, give_src hb⟩) (Nat.le_refl _)
    have hf' := hmv.reput hC hd g2 (by
      have := g3 _ _ hown2
      unfold OwnV
      split
      · trivial
      · exact this)
    refine run_ops ⟨X', w, ?_, hK _ _ _ _ _ hf'⟩
    unfold execOp; rw [hop]; simp [g1]
  · rename_i id off n sz' ys heq
    simp only [List.cons.injEq] at heq
    obtain ⟨rfl, rfl⟩ := heq
    split at hact
    case h_2 => cases hact
    rename_i a1 b1 mm hsa
    split at hact
    case isFalse => cases hact
    rename_i hc
    subst hc
    cases hact
    obtain ⟨X', g1, g2⟩ := arr_rel h.chg.wrel ht hsz hr hlo hhi hmx hx hsa
    obtain ⟨ow', hf'⟩ := (h.eraseR hj).put_fresh hC (Chg.refl h.chg.wrel) hd g2 (by
      split
      · split
        · cases X' <;> trivial
        · exact freshV_of_ne (by intro _ _ _ h; cases h) (by intro _ h; cases h)
      · cases X' <;> trivial) (fun _ _ _ _ _ he => by
        split at he
        · split at he <;> cases he
        · cases he)
    refine run_ops ⟨X', w, ?_, hK _ _ _ _ _ hf'⟩
    unfold execOp; rw [hop]; simp [g1]
  · cases hact
end
end Go.Ab

/- Each step of the abstract machine is one of the program. No premise but those named. -/
import Derived.Test.YthjniafhfboggaaGreatDoorD5
namespace Go.Ab
open Go
section
variable {P : Program} {C : Ctx} {μ : List Nat} {lim : Nat → Nat} {ow : Nat → Owner} {s s' : FS} {a : Act} {w : World} {call : CallT} {ops : Array Oper} {ad : Addrs} {done : Nat → Prop} {deps : List Nat} {i : Nat} {m : MOper} {o : Oper}
  {K : Act → World → Prop} {Q : Exit → Act → World → Prop}

theorem kOK_ad (hf : kOK P C.slots C.dsts ops ad deps i m o = true) (hk : ∀ k, m.k ≠ .nop k) : ad[i]? = some none := by
  unfold kOK at hf
  split at hf <;> first
    | (rename_i k hk'; exact absurd hk' (hk k))
    | (simp only [Bool.and_eq_true] at hf; first | exact eq_of_beq hf.1 | exact eq_of_beq hf.1.1 | exact eq_of_beq hf.1.1.1)

/-- A truth value that lies in a region's results lay there before; but that of the step itself. -/
theorem step_keeps (hs : step call i m s = some s') {g : Nat} (hg : g ≠ i) {b : Bool} (h : s'.R[g]? = some (some (.sc (.bool b)))) : s.R[g]? = some (some (.sc (.bool b))) := by
  have hput : ∀ (s0 : FS) (x : V), (s0.put m.dst i x).R[g]? = s0.R[g]? := by
    intro s0 x
    unfold FS.put
    cases m.dst with
    | some d => rfl
    | none => exact List.getElem?_set_ne (Ne.symm hg)
  have hset : ∀ (j : Nat) (x : V), s.R[j]? = some (some x) → (s.R.set j (some x.erase))[g]? = some (some (.sc (.bool b))) → s.R[g]? = some (some (.sc (.bool b))) := by
    intro j x hj hh
    by_cases hjg : j = g
    · subst hjg
      rw [List.getElem?_set_self (List.getElem?_eq_some_iff.1 hj).1] at hh
      rw [hj]
      cases x with
      | sc v => simpa [V.erase, V.eraseLeaf] using hh
      | slice o sz l => cases o <;> simp [V.erase, V.eraseLeaf] at hh
      | _ => simp [V.erase, V.eraseLeaf] at hh
    · rwa [List.getElem?_set_ne hjg] at hh
  unfold step at hs
  split at hs
  · cases hs
  · cases hs; rw [hput] at h; exact h
  · split at hs
    all_goals (repeat' split at hs)
    all_goals first | (cases hs; done) | skip
    all_goals cases hs
    all_goals try rw [hput] at h
    all_goals first
      | exact h
      | (exact hset _ _ (by assumption) h)

theorem wanted_keeps (hs : step call i m s = some s') {gd : Option (Nat × Bool)} (hg : ∀ g b, gd = some (g, b) → g ≠ i) (h : wanted s'.R gd = some true) : wanted s.R gd = some true := by
  cases gd with
  | none => rfl
  | some p =>
    obtain ⟨g, want⟩ := p
    simp only [wanted] at h ⊢
    split at h
    · rename_i b hb
      rw [step_keeps hs (hg g want rfl) hb]
      exact h
    · cases h
    · cases h

theorem kOK_deps (hf : kOK P C.slots C.dsts ops ad deps i m o = true) (hn : ad[i]? ≠ some none) {g : Nat} {b : Bool} (hg : m.guard = some (g, b)) : g ∈ deps := by
  cases hk : m.k with
  | nop k0 =>
    simp only [kOK, hk] at hf
    split at hf
    case h_2 => cases hf
    split at hf
    case h_2 => cases hf
    simp only [Bool.and_eq_true, hg, List.contains_eq_mem, decide_eq_true_eq] at hf
    exact hf.2
  | _ => exact absurd (kOK_ad hf (by intro k; rw [hk]; simp)) hn

theorem step_sound (hC : C.OK) (hcall : CallOK P call) (h : FRel C μ lim ow s a w) (had : AddrOK C ops ad done s.R a) (hdone : ∀ d ∈ deps, done d) (hni : ¬ done i) (hi : ops[i]? = some o) (hf : stepOK P C.slots C.dsts ops ad deps i m o = true) (hs : step call i m s = some s')
    (hK : ∀ X μ' lim' ow' w', FRel C μ' lim' ow' s' (a.put o.dst X) w' → (∀ k off, ad[i]? = some (some (k, off)) → wanted s'.R o.guard = some true → AddrIs C k off o (a.put o.dst X)) → K (a.put o.dst X) w') : wpOp P ops Q i K a w := by
  simp only [stepOK, Bool.and_eq_true] at hf
  obtain ⟨⟨hd, hg⟩, hk⟩ := hf
  have hd' := dstB_spec hd
  unfold wpOp
  simp only [hi]
  cases hw : wanted s.R m.guard with
  | none => simp [step, hw] at hs
  | some b =>
    rw [wanted_rel h hg hw]
    cases b with
    | false =>
      simp only [step, hw] at hs
      cases hs
      simp only [Bool.false_eq_true, if_false]
      obtain ⟨ow', hf'⟩ := h.putUndef hC hd'
      refine hK _ _ _ _ _ hf' fun k off hh hwt => ?_
      exfalso
      have hgo : m.guard = o.guard := by
        simp only [guardOK, Bool.and_eq_true, beq_iff_eq] at hg
        exact hg.1
      have hst : step call i m s = some (s.put m.dst i .undef) := by simp only [step, hw]
      have := wanted_keeps hst (gd := o.guard) (fun g b hgg e => hni (by rw [← e]; exact hdone g (kOK_deps hk (by rw [hh]; simp) (by rw [hgo]; exact hgg)))) hwt
      rw [← hgo, hw] at this
      cases this
    | true =>
      simp only [if_true]
      refine .inl ?_
      cases hkk : m.k with
      | nop k0 => exact step_nop hC h had hdone hi hkk hd' hk hw hs fun X h1 h2 => hK X _ _ _ _ h1 (fun k off hh _ => h2 k off hh)
      | act A0 => exact step_act hC hcall h hkk hd' hk hw hs fun X _ _ _ _ h1 => hK X _ _ _ _ h1 (fun k off hh => by rw [kOK_ad hk (by intro k; rw [hkk]; simp)] at hh; cases hh)
      | move j => exact step_move hC h hkk hd' hk hw hs fun X _ _ _ _ h1 => hK X _ _ _ _ h1 (fun k off hh => by rw [kOK_ad hk (by intro k; rw [hkk]; simp)] at hh; cases hh)
      | mvt j => exact step_mvt hC h hkk hd' hk hw hs fun X _ _ _ _ h1 => hK X _ _ _ _ h1 (fun k off hh => by rw [kOK_ad hk (by intro k; rw [hkk]; simp)] at hh; cases hh)
      | own A0 j =>
        cases A0 with
        | append sz arr => exact step_ownAppend hC h hkk hd' hk hw hs fun X _ _ _ _ h1 => hK X _ _ _ _ h1 (fun k off hh => by rw [kOK_ad hk (by intro k; rw [hkk]; simp)] at hh; cases hh)
        | appendB e => exact step_ownAppendB hC h hkk hd' hk hw hs fun X _ _ _ _ h1 => hK X _ _ _ _ h1 (fun k off hh => by rw [kOK_ad hk (by intro k; rw [hkk]; simp)] at hh; cases hh)
        | sliceS sz lo hi mx => exact step_ownSlice hC h hkk hd' hk hw hs fun X _ _ _ _ h1 => hK X _ _ _ _ h1 (fun k off hh => by rw [kOK_ad hk (by intro k; rw [hkk]; simp)] at hh; cases hh)
        | _ => simp [kOK, hkk] at hk
      | allocBox zero => exact step_allocBox hC h hkk hd' hk hw hs fun X _ _ _ _ h1 => hK X _ _ _ _ h1 (fun k off hh => by rw [kOK_ad hk (by intro k; rw [hkk]; simp)] at hh; cases hh)
      | boxBox => exact step_boxBox hC h hkk hd' hk hw hs fun X _ _ _ _ h1 => hK X _ _ _ _ h1 (fun k off hh => by rw [kOK_ad hk (by intro k; rw [hkk]; simp)] at hh; cases hh)
      | loadBox sl off n agg => exact step_loadBox hC h had hdone hkk hd' hk hw hs fun X _ _ _ _ h1 => hK X _ _ _ _ h1 (fun k off hh => by rw [kOK_ad hk (by intro k; rw [hkk]; simp)] at hh; cases hh)
      | takeBox sl off => exact step_takeBox hC h had hdone hkk hd' hk hw hs fun X _ _ _ _ h1 => hK X _ _ _ _ h1 (fun k off hh => by rw [kOK_ad hk (by intro k; rw [hkk]; simp)] at hh; cases hh)
      | storeBox sl off n => exact step_storeBox h had hdone hkk hk hw hs fun X _ _ _ _ h1 => hK X _ _ _ _ h1 (fun k off hh => by rw [kOK_ad hk (by intro k; rw [hkk]; simp)] at hh; cases hh)
      | keepBox sl off n r => exact step_keepBox h had hdone hkk hk hw hs fun X _ _ _ _ h1 => hK X _ _ _ _ h1 (fun k off hh => by rw [kOK_ad hk (by intro k; rw [hkk]; simp)] at hh; cases hh)
      | boxTake r => exact step_boxTake hC h hkk hd' hk hw hs fun X _ _ _ _ h1 => hK X _ _ _ _ h1 (fun k off hh => by rw [kOK_ad hk (by intro k; rw [hkk]; simp)] at hh; cases hh)

/-! ## a region, in the order of its text -/

/-- No operation writes where another's address into a box lies, nor that box's own place. -/
def adFree (slots : List Tmp) (ops : Array Oper) (ad : Addrs) : Bool :=
  (List.range ops.size).all fun i => (List.range ops.size).all fun j => i == j || (match ad[j]?, (ops[i]?).map (·.dst), (ops[j]?).map (·.dst) with
    | some (some (k, _)), some (some t), some u => u != some t && slots[k]? != some t
    | _, _, _ => true)

theorem addrOK_put (hfree : adFree C.slots ops ad = true) (hi : ops[i]? = some o) (hni : ¬ done i) (hdone : ∀ d ∈ deps, done d) (hf : stepOK P C.slots C.dsts ops ad deps i m o = true) (hs : step call i m s = some s') (h : AddrOK C ops ad done s.R a) {X : Value}
    (h2 : ∀ k off, ad[i]? = some (some (k, off)) → wanted s'.R o.guard = some true → AddrIs C k off o (a.put o.dst X)) : AddrOK C ops ad (fun j => done j ∨ j = i) s'.R (a.put o.dst X) := by
  simp only [stepOK, Bool.and_eq_true] at hf
  obtain ⟨⟨_, hg⟩, hk⟩ := hf
  have hgo : m.guard = o.guard := by
    simp only [guardOK, Bool.and_eq_true, beq_iff_eq] at hg
    exact hg.1
  intro j k off oj hj hadj hoj
  by_cases hji : j = i
  · subst hji
    rw [hi] at hoj; cases hoj
    exact ⟨fun g b hgg => .inl (hdone g (kOK_deps hk (by rw [hadj]; simp) (by rw [hgo]; exact hgg))), h2 k off hadj⟩
  · obtain ⟨q1, q2⟩ := h j k off oj (hj.resolve_right hji) hadj hoj
    refine ⟨fun g b hgg => .inl (q1 g b hgg), fun hwt => ?_⟩
    obtain ⟨t, u, b, h3, h4, h5, h6⟩ := q2 (wanted_keeps hs (fun g b hgg e => hni (by rw [← e]; exact q1 g b hgg)) hwt)
    have hil : i < ops.size := (Array.getElem?_eq_some_iff.1 hi).1
    have hjl : j < ops.size := (Array.getElem?_eq_some_iff.1 hoj).1
    have hq := List.all_eq_true.1 (List.all_eq_true.1 hfree i (List.mem_range.2 hil)) j (List.mem_range.2 hjl)
    have hne : (i == j) = false := by simpa using fun e => hji e.symm
    rw [hne, hadj, hi, hoj] at hq
    cases hod : o.dst with
    | none => exact ⟨t, u, b, h3, h4, h5, h6⟩
    | some tt =>
      simp [hod] at hq
      refine ⟨t, u, b, h3, h4, ?_, ?_⟩
      · rw [put_get_ne (by intro e; cases e; exact hq.1 h3)]; exact h5
      · rw [put_get_ne (by intro e; cases e; exact hq.2 h4)]; exact h6

/-- What is asked of each operation. -/
def opsOK (P : Program) (slots : List Tmp) (dsts : List (Option Tmp)) (ops : Array Oper) (ad : Addrs) (deps : Nat → List Nat) : Nat → List MOper → Bool
  | _, [] => true
  | i, m :: ms => (match ops[i]? with
    | some o => stepOK P slots dsts ops ad (deps i) i m o
    | none => false) && opsOK P slots dsts ops ad deps (i + 1) ms

theorem runOps_sound (hC : C.OK) (hcall : CallOK P call) (hfree : adFree C.slots ops ad = true) : ∀ (ms : List MOper) (i : Nat) (s s' : FS) (μ : List Nat) (lim : Nat → Nat) (ow : Nat → Owner) (a : Act) (w : World), opsOK P C.slots C.dsts ops ad List.range i ms = true →
    i + ms.length = ops.size → FRel C μ lim ow s a w → AddrOK C ops ad (· < i) s.R a → runOps call i ms s = some s' →
    (∀ μ' lim' ow' a' w', FRel C μ' lim' ow' s' a' w' → Q .normal a' w') → wpOps P ops Q (List.range' i ms.length) a w
  | [], i, s, s', μ, lim, ow, a, w, _, _, h, _, hr, hQ => by
    simp only [runOps] at hr
    cases hr
    exact hQ μ lim ow a w h
  | m :: ms, i, s, s', μ, lim, ow, a, w, hok, hlen, h, had, hr, hQ => by
    simp only [opsOK, Bool.and_eq_true] at hok
    simp only [List.length_cons] at hlen
    obtain ⟨hok1, hok2⟩ := hok
    split at hok1
    case h_2 => cases hok1
    rename_i o hi
    simp only [runOps] at hr
    split at hr
    · cases hr
    · rename_i s1 hs1
      rw [List.length_cons, List.range'_succ, wpOps_cons]
      refine step_sound (done := (· < i)) hC hcall h had (fun d hd => List.mem_range.1 hd) (Nat.lt_irrefl i) hi hok1 hs1 fun X μ' lim' ow' w' h1 h2 => ?_
      refine runOps_sound hC hcall hfree ms (i + 1) s1 s' μ' lim' ow' _ w' hok2 (by omega) h1 ?_ hr hQ
      intro j k off oj hj hadj hoj
      have := addrOK_put (done := (· < i)) hfree hi (Nat.lt_irrefl i) (fun d hd => List.mem_range.1 hd) hok1 hs1 had h2 j k off oj (by omega) hadj hoj
      exact ⟨fun g b hg => by have := this.1 g b hg; omega, this.2⟩
end
end Go.Ab

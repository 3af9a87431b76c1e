/- Panics that pass through functions. No premise but those named. -/
import Derived.Test.YthjniafhfboggaaGreatDoorEX
import Derived.Test.YthjniafhfboggaaGreatDoorS2
namespace Go.Ab
open Go

/-! ## what a call that panics comes to -/

/-- It panics with this value, and the objects are then these. -/
def PanR (μ : List Nat) (lim : Nat → Nat) (w : World) (σ : St) (v : V) (σ' : St) (e : Ending) (w' : World) : Prop :=
  ∃ X μ' lim', e = .panicked [{ v := X, recovered := false }] ∧ Chg μ lim w σ μ' lim' w' σ' ∧ RelV μ' lim' w' v X

/-- A call of these arguments panics with this value. -/
def Pans (P : Program) (f : FuncId) (xs : List V) (σ : St) (v : V) (σ' : St) : Prop :=
  enters P f = true ∧ ∀ (μ : List Nat) (lim : Nat → Nat) (w : World) (args : Array Value), WRel μ lim w σ → σ.base ≤ σ.objs.length → RelVs μ lim w xs args.toList → Calls P f args w (PanR μ lim w σ v σ')

/-- The same of a frame's code; where it is asked, the frame is then as it stands in env. -/
def PanQ (C : Ctx) (nd : Bool) (env : List EV) (v : V) (σ' : St) : Exit → Act → World → Prop
  | .panic ch, a, w' => ∃ X μ' lim', ch = [{ v := X, recovered := false }] ∧ RelV μ' lim' w' v X ∧
      ∃ dsts ow s, FRel { C with dsts := dsts } μ' lim' ow s a w' ∧ s.σ = σ' ∧ (nd = true → s.env = env)
  | _, _, _ => False

section
variable {P : Program} {C : Ctx} {call : CallT} {ops : Array Oper} {ad : Addrs} {ms : List MOper}

theorem opsOK_take {slots : List Tmp} {dsts : List (Option Tmp)} {deps : Nat → List Nat} : ∀ (ms : List MOper) (i n : Nat), opsOK P slots dsts ops ad deps i ms = true → opsOK P slots dsts ops ad deps i (ms.take n) = true
  | [], _, n, _ => by simp [opsOK]
  | m :: ms, i, 0, _ => by simp [opsOK]
  | m :: ms, i, n + 1, h => by
    simp only [List.take_succ_cons, opsOK, Bool.and_eq_true] at h ⊢
    exact ⟨h.1, opsOK_take ms (i + 1) n h.2⟩

theorem runOps_runL' (call : CallT) (ms : List MOper) : ∀ (l : List MOper) (i : Nat) (s : FS), (∀ k, k < l.length → l[k]? = ms[i + k]?) → runOps call i l s = runL call ms (List.range' i l.length) s
  | [], _, _, _ => rfl
  | m :: l, i, s, h => by
    have h0 := h 0 (by simp)
    simp at h0
    simp only [runOps, List.length_cons, List.range'_succ, runL, ← h0]
    cases step call i m s with
    | none => rfl
    | some s' => exact runOps_runL' call ms l (i + 1) s' fun k hk => by have := h (k + 1) (by simpa using hk); simp at this; rw [this]; congr 1; omega

/-- A call whose writes stand. -/
def callK : K → Option FuncId
  | .act (.call f false) => some f
  | .act (.callF f _) => some f
  | _ => none
theorem callK_spec {k : K} {f : FuncId} (h : callK k = some f) : ∃ A0, k = .act A0 ∧ ∀ (P : Program) (op : Op), fitA P A0 op = fitA P (.call f false) op := by
  unfold callK at h
  split at h
  · cases h; exact ⟨_, rfl, fun _ _ => rfl⟩
  · cases h; exact ⟨_, rfl, fun _ _ => rfl⟩
  · cases h

/-- The operation that calls what panics. -/
theorem wpOp_pan {i : Nat} {m : MOper} {o : Oper} {f : FuncId} {deps : List Nat} {xs : List V} {v : V} {K : Act → World → Prop} {μ : List Nat} {lim : Nat → Nat} {ow : Nat → Owner} {s : FS} {a : Act} {w : World} (h : FRel C μ lim ow s a w) (hi : ops[i]? = some o)
    (hf : stepOK P C.slots C.dsts ops ad deps i m o = true) (hk : callK m.k = some f) (hg : m.guard = none) (hr : rds s.env s.R m.args = some xs) {σ' : St} (hp : Pans P f xs s.σ v σ') {nd : Bool} {env : List EV} (hE : nd = true → s.env = env) {C0 : Ctx} (hC0 : C = { C0 with dsts := C.dsts }) : wpOp P ops (PanQ C0 nd env v σ') i K a w := by
  simp only [stepOK, Bool.and_eq_true] at hf
  obtain ⟨⟨_, hgd⟩, hkk⟩ := hf
  unfold wpOp
  simp only [hi]
  rw [wanted_rel h hgd (b := true) (by rw [hg]; rfl)]
  simp only [if_true]
  refine .inl ?_
  obtain ⟨A0, hkA, hfitA⟩ := callK_spec hk
  simp only [kOK, hkA, Bool.and_eq_true] at hkk
  have hk2 := hkk.2
  split at hk2
  case h_2 => cases hk2
  rename_i opers hfit
  simp only [Bool.and_eq_true] at hk2
  obtain ⟨h1, _⟩ := rds_rel h hr hk2.1
  rw [hfitA] at hfit
  simp only [fitA] at hfit
  split at hfit
  case h_2 => cases hfit
  rename_i c hop
  split at hfit
  case isFalse => cases hfit
  rename_i hc
  cases hfit
  have hcc := calleeIs_spec hc
  unfold Oper.wp
  rw [run_call hop rfl hcc rfl hp.1, Oper.upon_enter]
  refine Calls.mono (hp.2 μ lim w _ h.chg.wrel h.based (by simpa using h1)) fun e w' he => ?_
  obtain ⟨X, μ', lim', rfl, h2, h3⟩ := he
  rw [hC0] at h
  exact ⟨X, μ', lim', rfl, h3, _, ow, { s with σ := σ' }, h.lift h2, rfl, hE⟩

/-! ## in any order -/

/-- Steps that are apart leave what the call is given. -/
theorem light_run {i : Nat} {m : MOper} {A0 : A} (hk : m.k = .act A0) : ∀ (l : List Nat) (s fin : FS), runL call ms l s = some fin → (∀ k ∈ l, ∃ n, ms[k]? = some n ∧ ((foot i m).off (foot k n) && (foot k n).sg != 2) = true) →
    rds fin.env fin.R m.args = rds s.env s.R m.args ∧ fin.σ = s.σ
  | [], s, fin, h, _ => by simp only [runL] at h; cases h; exact ⟨rfl, rfl⟩
  | k :: l, s, fin, h, ha => by
    obtain ⟨n, hn, hap⟩ := ha k (by simp)
    simp only [runL, hn, step_plan] at h
    cases hp : plan call k n s with
    | none => rw [hp] at h; cases h
    | some u =>
      rw [hp] at h
      simp only [Option.map_some] at h
      obtain ⟨h1, h2⟩ := light_run hk l (u.on s) fin h fun k hk => ha k (by simp [hk])
      simp only [Bool.and_eq_true, bne_iff_ne] at hap
      refine ⟨h1.trans (rds_args hk hap.1 hp), h2.trans ?_⟩
      cases hσ : u.σ with
      | none => simp [Upd.on, hσ]
      | some x => exact absurd ((plan_foot hp).2.2 (by rw [hσ]; simp)) hap.2

/-- All that comes behind an operation waits for it; what comes ahead of it is waited for, or is apart. -/
def panOK (ops : Array Oper) (ms : List MOper) (i : Nat) : Bool :=
  let anc := ancOf ops ops.size []
  ((List.range ops.size).all fun j => decide (j ≤ i) || (anc.getD j []).contains i) &&
  (List.range i).all fun k => (anc.getD i []).contains k || (match ms[i]?, ms[k]? with
    | some m, some n => (foot i m).off (foot k n) && (foot k n).sg != 2
    | _, _ => false)

theorem any_pan (hC : C.OK) (hcall : CallOK P call) (hfree : adFree C.slots ops ad = true) (hlen : ms.length = ops.size)
    (hok : ∀ i m o, ms[i]? = some m → ops[i]? = some o → stepOK P C.slots C.dsts ops ad (waits ops i) i m o = true) (hany : anyOK ops ms = true) {i0 : Nat} (hi0 : i0 < ops.size) (hpan : panOK ops ms i0 = true) {m0 : MOper} (hm0 : ms[i0]? = some m0) {f : FuncId} (hk0 : callK m0.k = some f) (hg0 : m0.guard = none)
    {fin : FS} {xs : List V} (hxs : rds fin.env fin.R m0.args = some xs) {v : V} {σ' : St} (hp : Pans P f xs fin.σ v σ') {env : List EV} {C0 : Ctx} (hC0 : C = { C0 with dsts := C.dsts }) :
    ∀ (fuel : Nat) (listed : Array Bool) (s : FS) (μ : List Nat) (lim : Nat → Nat) (ow : Nat → Owner) (a : Act) (w : World), listed.size = ops.size → (rest ops.size listed).length = fuel → listed.getD i0 true = false →
      (∀ j k, listed.getD j false = true → k ∈ (ancOf ops ops.size []).getD j [] → listed.getD k false = true) →
      FRel C μ lim ow s a w → AddrOK C ops ad (fun j => listed.getD j false = true) s.R a → runL call ms (rest i0 listed) s = some fin → wpAny P .any ops (PanQ C0 false env v σ') fuel listed a w := by
  have hst : ∀ i, i < ops.size → (∀ d ∈ waits ops i, d < i) ∧ (∀ k ∈ (ancOf ops ops.size []).getD i [], k ∈ waits ops i ∨ ∃ d ∈ waits ops i, k ∈ (ancOf ops ops.size []).getD d []) ∧
      ∀ k, k < i → k ∈ (ancOf ops ops.size []).getD i [] ∨ ∃ m n, ms[i]? = some m ∧ ms[k]? = some n ∧ Swaps call i m k n := by
    intro i hi
    have := List.all_eq_true.1 hany i (List.mem_range.2 hi)
    simp only [Bool.and_eq_true, List.all_eq_true, decide_eq_true_eq, Bool.or_eq_true, List.contains_eq_mem, List.any_eq_true, List.mem_range] at this
    refine ⟨this.1.1, this.1.2, fun k hk => ?_⟩
    rcases this.2 k hk with h | h
    · exact .inl h
    · split at h
      · rename_i m n h1 h2
        simp only [Bool.or_eq_true] at h
        refine .inr ⟨m, n, h1, h2, ?_⟩
        rcases h with (((((h | h) | h) | h) | h) | h) | h
        · exact apart_swaps h
        · exact entry_swaps h
        · exact keep_swaps h
        · exact take_swaps h
        · exact nop_swaps h
        · exact take_swaps2 h
        · exact leave_swaps h
      · cases h
  have hpn : (∀ j, i0 < j → j < ops.size → i0 ∈ (ancOf ops ops.size []).getD j []) ∧ ∀ k, k < i0 → k ∈ (ancOf ops ops.size []).getD i0 [] ∨ ∃ n, ms[k]? = some n ∧ ((foot i0 m0).off (foot k n) && (foot k n).sg != 2) = true := by
    simp only [panOK, Bool.and_eq_true, List.all_eq_true, decide_eq_true_eq, Bool.or_eq_true, List.contains_eq_mem, List.mem_range, hm0] at hpan
    refine ⟨fun j hj hjn => (hpan.1 j hjn).resolve_left (by omega), fun k hk => ?_⟩
    rcases hpan.2 k hk with h | h
    · exact .inl h
    · split at h
      · rename_i m n h1 h2
        cases h1
        exact .inr ⟨n, h2, h⟩
      · cases h
  have hready : ∀ (listed : Array Bool) i, i ∈ Region.ready .any ops listed ↔ listed.getD i true = false ∧ i < ops.size ∧ ∀ d ∈ waits ops i, listed.getD d false = true := by
    intro listed i
    rw [mem_ready]
    constructor
    · rintro ⟨h1, o, h2, h3⟩
      refine ⟨h1, (Array.getElem?_eq_some_iff.1 h2).1, fun d hd => ?_⟩
      simp only [waits, h2, List.mem_map, List.mem_filter] at hd
      obtain ⟨e, ⟨he, hb⟩, rfl⟩ := hd
      exact h3 e (by simpa using he) hb
    · rintro ⟨h1, h2, h3⟩
      refine ⟨h1, ops[i], Array.getElem?_eq_getElem h2, fun e he hb => h3 _ ?_⟩
      simp only [waits, Array.getElem?_eq_getElem h2, List.mem_map, List.mem_filter]
      exact ⟨e, ⟨by simpa using he, hb⟩, rfl⟩
  have hnone : ∀ (listed : Array Bool), listed.size = ops.size → Region.ready .any ops listed = [] → rest ops.size listed = [] := by
    intro listed hls h
    cases hr : rest ops.size listed with
    | nil => rfl
    | cons i l =>
      exfalso
      have hi : i ∈ rest ops.size listed := by rw [hr]; simp
      obtain ⟨hin, hil⟩ := rest_mem.1 hi
      have : i ∈ Region.ready .any ops listed := (hready listed i).2 ⟨hil, hin, fun d hd => by
        have hdi := (hst i hin).1 d hd
        rcases Bool.eq_false_or_eq_true (listed.getD d false) with hq | hq
        · exact hq
        · exfalso
          have hdl : d < listed.size := by omega
          have hdm : d ∈ rest ops.size listed := rest_mem.2 ⟨by omega, by simpa [hdl] using hq⟩
          have hp : (rest ops.size listed).Pairwise (· < ·) := List.Pairwise.filter _ List.pairwise_lt_range
          rw [hr] at hp hdm
          rcases List.mem_cons.1 hdm with rfl | hm
          · omega
          · have := (List.pairwise_cons.1 hp).1 d hm; omega⟩
      rw [h] at this
      cases this
  intro fuel
  induction fuel with
  | zero =>
    intro listed s μ lim ow a w hls hfl hl0 hdown h had hrun
    exfalso
    have hr : rest ops.size listed = [] := List.eq_nil_of_length_eq_zero hfl
    have : i0 ∈ rest ops.size listed := rest_mem.2 ⟨hi0, hl0⟩
    rw [hr] at this
    cases this
  | succ fuel ih =>
    intro listed s μ lim ow a w hls hfl hl0 hdown h had hrun
    refine ⟨fun hq => ?_, fun i hi => ?_⟩
    · have := hnone listed hls hq
      rw [this] at hfl
      simp at hfl
    · obtain ⟨h1, h2, h3⟩ := (hready listed i).1 hi
      obtain ⟨_, s2, s3⟩ := hst i h2
      have hanc : ∀ k ∈ (ancOf ops ops.size []).getD i [], listed.getD k false = true := by
        intro k hk
        rcases s2 k hk with hk | ⟨d, hd, hk⟩
        · exact h3 k hk
        · exact hdown d k (h3 d hd) hk
      have hml : i < ms.length := by rw [hlen]; exact h2
      have hmi := List.getElem?_eq_getElem hml
      have hoi := Array.getElem?_eq_getElem h2
      rcases Nat.lt_trichotomy i i0 with hlt | heq | hgt
      · have him : i ∈ rest i0 listed := rest_mem.2 ⟨hlt, h1⟩
        obtain ⟨pre, post, r1, r2, r3⟩ := rest_split him
        rw [r1] at hrun
        obtain ⟨s', hs', hrun'⟩ := bring hmi pre post s fin (fun k hk n hn => by
          obtain ⟨hki, hkl⟩ := r3 k hk
          rcases s3 k hki with hq | ⟨m', n', hm', hn', hq⟩
          · have := hanc k hq
            have hkl2 : k < listed.size := by omega
            simp [hkl2] at this hkl
            rw [this] at hkl; cases hkl
          · rw [hmi] at hm'; cases hm'
            rw [hn] at hn'; cases hn'
            exact hq) (held_of h (hok i _ _ hmi hoi)) hrun
        have hnl : ¬ (listed.getD i false = true) := by
          have : i < listed.size := by omega
          simp [this] at h1 ⊢
          exact h1
        refine step_sound hC hcall h had h3 hnl hoi (hok i _ _ hmi hoi) hs' fun X μ' lim' ow' w' g1 g2 => ?_
        have hset : ∀ j, (listed.setIfInBounds i true).getD j false = true ↔ listed.getD j false = true ∨ j = i := by
          intro j
          by_cases hj : j = i
          · subst hj; simp [hls, h2]
          · rw [getD_set_ne false (Ne.symm hj)]; simp [hj]
        refine ih (listed.setIfInBounds i true) s' μ' lim' ow' _ w' (by simpa using hls) ?_ ?_ ?_ g1 ?_ ?_
        · obtain ⟨pre', post', q1, q2, _⟩ := rest_split (rest_mem.2 ⟨h2, h1⟩ : i ∈ rest ops.size listed)
          rw [q2]; rw [q1] at hfl; simp at hfl ⊢; omega
        · rw [getD_set_ne true (by omega)]; exact hl0
        · intro j k hj hk
          rcases (hset j).1 hj with hj | rfl
          · exact (hset k).2 (.inl (hdown j k hj hk))
          · exact (hset k).2 (.inl (hanc k hk))
        · intro j k off oj hj hadj hoj
          have := addrOK_put hfree hoi hnl h3 (hok i _ _ hmi hoi) hs' had g2 j k off oj ((hset j).1 hj) hadj hoj
          exact ⟨fun g b hg => (hset g).2 (this.1 g b hg), this.2⟩
        · rw [r2]; exact hrun'
      · subst heq
        obtain ⟨A0, hkA, _⟩ := callK_spec hk0
        obtain ⟨l1, l2⟩ := light_run (i := i) (m := m0) hkA (rest i listed) s fin hrun fun k hk => by
          obtain ⟨hki, hkl⟩ := rest_mem.1 hk
          rcases hpn.2 k hki with hq | hq
          · have := hanc k hq
            have hkl2 : k < listed.size := by omega
            simp [hkl2] at this hkl
            rw [this] at hkl; cases hkl
          · exact hq
        exact wpOp_pan h hoi (hok i _ _ hm0 hoi) hk0 hg0 (l1 ▸ hxs) (l2 ▸ hp) (by simp) hC0
      · exfalso
        have := hanc i0 (hpn.1 i hgt h2)
        have hkl2 : i0 < listed.size := by omega
        simp [hkl2] at this hl0
        rw [this] at hl0; cases hl0

/-- A region in which a call panics. -/
theorem region_pan (hC : C.OK) (hd : C.dsts = []) (hcall : CallOK P call) {id : Nat} {drawn : Bool} (hok : regOK P C.slots C.n ms ops drawn = true) {i : Nat} {m : MOper} (hm : ms[i]? = some m) {nd : Bool} (hpan : (!drawn || (!nd && panOK ops ms i)) = true) {f : FuncId} (hk : callK m.k = some f) (hg : m.guard = none)
    {env : List EV} {σ : St} {μ : List Nat} {lim : Nat → Nat} {ow : Nat → Owner} {a : Act} {w : World} (h : FRel C μ lim ow ⟨env, [], σ⟩ a w) {s' : FS} (hr : runOps call 0 (ms.take i) ⟨env, List.replicate ms.length none, σ⟩ = some s') {xs : List V} (hxs : rds s'.env s'.R m.args = some xs) {v : V} {σ' : St} (hp : Pans P f xs s'.σ v σ') :
    (Code.region id ops drawn).wp P (PanQ C nd s'.env v σ') a w := by
  simp only [regOK, Bool.and_eq_true, beq_iff_eq] at hok
  obtain ⟨⟨⟨⟨hl, hfr⟩, hfree⟩, hdl⟩, hops⟩ := hok
  have hC2 := ctx_ok hC hfr
  have hreg := h.region (dstsOf ms ops.toList)
  rw [hdl, ← hl] at hreg
  have hil : i < ms.length := (List.getElem?_eq_some_iff.1 hm).1
  have hio : i < ops.size := by omega
  cases drawn with
  | false =>
    simp only [Bool.false_eq_true, if_false] at hops
    refine wp_region ?_
    have hsp : List.range ops.size = List.range' 0 (ms.take i).length ++ i :: List.range' (i + 1) (ops.size - (i + 1)) := by
      rw [List.length_take, Nat.min_eq_left (by omega), List.range_eq_range']
      have : ops.size = i + (1 + (ops.size - (i + 1))) := by omega
      conv => lhs; rw [this, ← List.range'_append_1]
      rw [Nat.zero_add, Nat.add_comm 1, List.range'_succ]
    rw [hsp]
    refine runOps_part (Q := PanQ C nd s'.env v σ') hC2 hcall hfree _ (ms.take i) 0 _ s' μ lim ow a w (opsOK_take ms 0 i hops) hreg (by intro j _ _ _ hj; exact absurd hj (Nat.not_lt_zero _)) hr fun μ2 lim2 ow2 a2 w2 h2 => ?_
    rw [wpOps_cons]
    have hoi := Array.getElem?_eq_getElem hio
    have hst := opsOK_get hops i m _ hm (by rw [Nat.zero_add]; exact hoi)
    exact wpOp_pan (C := { C with dsts := dstsOf ms ops.toList }) h2 hoi (by simpa using hst) hk hg hxs hp (fun _ => rfl) rfl
  | true =>
    simp only [if_true, Bool.and_eq_true] at hops
    obtain ⟨⟨hmx, hops⟩, hany⟩ := hops
    simp only [Bool.not_true, Bool.false_or, Bool.and_eq_true, Bool.not_eq_true'] at hpan
    obtain ⟨rfl, hpan⟩ := hpan
    refine wp_region_any hmx ?_
    have hdr : FRel { C with dsts := dstsOf ms ops.toList } μ lim ow ⟨env, List.replicate ms.length none, σ⟩ a { w with drawn := w.drawn + 1 } :=
      hreg.lift (chg_heap hreg.chg.wrel (w' := { w with drawn := w.drawn + 1 }) rfl rfl rfl rfl)
    have hrest : ∀ n, n ≤ ops.size → rest n (Array.replicate ops.size false) = List.range n := by
      intro n hn
      unfold rest
      apply List.filter_eq_self.2
      intro i hi
      have := List.mem_range.1 hi
      simp [show i < ops.size by omega]
    refine any_pan (ms := ms) (C := { C with dsts := dstsOf ms ops.toList }) hC2 hcall hfree hl (fun i m o hmi hoi => by have := opsOK_get hops i m o hmi (by simpa using hoi); simpa using this) hany hio hpan hm hk hg hxs hp rfl ops.size _ _ μ lim ow a _ (by simp) (by rw [hrest _ (Nat.le_refl _)]; simp) (by simp [hio]) ?_ hdr ?_ ?_
    · intro j k hj _
      exfalso
      simp only [Array.getD_eq_getD_getElem?, Array.getElem?_replicate] at hj
      split at hj <;> simp at hj
    · intro j k off o hj
      exfalso
      have hj' : (Array.replicate ops.size false).getD j false = true := hj
      simp only [Array.getD_eq_getD_getElem?, Array.getElem?_replicate] at hj'
      split at hj' <;> simp at hj'
    · rw [hrest i (by omega)]
      have hlt : (ms.take i).length = i := by rw [List.length_take]; omega
      have := runOps_runL' call ms (ms.take i) 0 ⟨env, List.replicate ms.length none, σ⟩ (fun k hk => by
        rw [Nat.zero_add, List.getElem?_take, if_pos (by rw [hlt] at hk; exact hk)])
      rw [hlt] at this
      rw [List.range_eq_range', ← this]
      exact hr
end
end Go.Ab

namespace Go.Ab
open Go

/-- Where in a code the panic is met. -/
inductive Way where
  | left (p : Way)
  | right (p : Way)
  | brT (p : Way)
  | brF (p : Way)
  | block (p : Way)
  | loop (n : Nat) (p : Way)
  | call (i : Nat) (p : Way)
  | last (i : Nat)

def rounds (call : CallT) (fuel : Nat) (b : MCode) : Nat → List EV → St → Option (List EV × St)
  | 0, env, σ => some (env, σ)
  | n + 1, env, σ => match exec call fuel b env σ with
    | some (.norm, env', σ') => rounds call fuel b n env' σ'
    | _ => none

/-- A region up to its i-th operation, a call: of what, with what. -/
def atCall (call : CallT) (ms : List MOper) (i : Nat) (env : List EV) (σ : St) : Option (List EV × FuncId × List V × St) := match ms[i]? with
  | some m => match callK m.k, m.guard with
    | some f, none => match runOps call 0 (ms.take i) ⟨env, List.replicate ms.length none, σ⟩ with
      | some s => match rds s.env s.R m.args with
        | some xs => some (s.env, f, xs, s.σ)
        | none => none
      | none => none
    | _, _ => none
  | none => none

abbrev PanK := FuncId → List V → St → Option (V × St)

/-- What a code panics with along a way: the frame at that time, the value, the objects. -/
def wayE (F : Funcs) (call : CallT) (fuel : Nat) (pk : PanK) : Way → MCode → List EV → St → Option (List EV × V × St)
  | .left p, .seq a _, env, σ => wayE F call fuel pk p a env σ
  | .right p, .seq a b, env, σ => match exec call fuel a env σ with
    | some (.norm, env', σ') => wayE F call fuel pk p b env' σ'
    | _ => none
  | .brT p, .cond c a _, env, σ => match rd env [] c with
    | some (.sc (.bool true)) => wayE F call fuel pk p a env σ
    | _ => none
  | .brF p, .cond c _ b, env, σ => match rd env [] c with
    | some (.sc (.bool false)) => wayE F call fuel pk p b env σ
    | _ => none
  | .block p, .block _ b, env, σ => wayE F call fuel pk p b env σ
  | .loop n p, .loop b, env, σ => match rounds call fuel b n env σ with
    | some (env', σ') => wayE F call fuel pk p b env' σ'
    | none => none
  | .call i p, .reg ms, env, σ => match atCall call ms i env σ with
    | some (env', f, xs, σ') => match F f with
      | some m => if xs.length = m.nargs then (wayE F call fuel pk p m.body (m.start xs) σ').map fun r => (env', r.2) else none
      | none => none
    | none => none
  | .last i, .reg ms, env, σ => match atCall call ms i env σ with
    | some (env', f, xs, σ') => (pk f xs σ').map fun r => (env', r)
    | none => none
  | _, _, _, _ => none

/-- Does the way lead through calls that come in order? -/
def wayD (F : Funcs) (W : FuncId → Option Func) : Bool → Way → MCode → Code → Bool
  | nd, .left p, .seq a _, .seq x _ => wayD F W nd p a x
  | nd, .right p, .seq _ b, .seq _ y => wayD F W nd p b y
  | nd, .brT p, .cond _ a _, .cond _ x _ => wayD F W nd p a x
  | nd, .brF p, .cond _ _ b, .cond _ _ y => wayD F W nd p b y
  | nd, .block p, .block _ b, .block _ y => wayD F W nd p b y
  | nd, .loop _ p, .loop b, .loop y => wayD F W nd p b y
  | nd, .call i p, .reg ms, .region _ ops drawn => (!drawn || (!nd && panOK ops ms i)) && (match (ms[i]?).bind fun m => callK m.k with
    | some f => match F f, W f with
      | some m, some fn => match fn.body with
        | some c => wayD F W false p m.body c
        | none => false
      | _, _ => false
    | none => false)
  | nd, .last i, .reg ms, .region _ ops drawn => !drawn || (!nd && panOK ops ms i)
  | _, _, _, _ => false

section
variable {P : Program} {call : CallT} {F : Funcs} {W : FuncId → Option Func} {fuel : Nat} {pk : PanK}

theorem atCall_spec {ms : List MOper} {i : Nat} {env env' : List EV} {σ σ' : St} {f : FuncId} {xs : List V} (h : atCall call ms i env σ = some (env', f, xs, σ')) :
    ∃ m s, ms[i]? = some m ∧ callK m.k = some f ∧ m.guard = none ∧ runOps call 0 (ms.take i) ⟨env, List.replicate ms.length none, σ⟩ = some s ∧ rds s.env s.R m.args = some xs ∧ s.env = env' ∧ s.σ = σ' := by
  unfold atCall at h
  split at h
  case h_2 => cases h
  rename_i m hm
  split at h
  case h_2 => cases h
  rename_i f' hk hg
  split at h
  case h_2 => cases h
  rename_i s hs
  split at h
  case h_2 => cases h
  rename_i xs' hxs
  cases h
  exact ⟨m, s, hm, hk, hg, hs, hxs, rfl, rfl⟩

/-- A function whose body panics. -/
theorem pans_of_body {m : MFunc} {f : FuncId} {fn : Func} {c : Code} (hf : P.funcs[f]? = some fn) (hok : funcOK P m fn = true) (hc : fn.body = some c) {xs : List V} {σ σ' : St} {v : V} {env : List EV} (hargs : xs.length = m.nargs)
    (h : ∀ (C : Ctx), C.OK → C.dsts = [] → C.slots = m.slots → C.n = fn.ntmps → ∀ μ lim ow a w, FRel C μ lim ow ⟨m.start xs, [], σ⟩ a w → c.wp P (PanQ C false env v σ') a w) : Pans P f xs σ v σ' := by
  unfold funcOK at hok
  rw [hc] at hok
  simp only [Bool.and_eq_true, decide_eq_true_eq, bne_iff_ne] at hok
  obtain ⟨⟨⟨⟨⟨hcode, hnd⟩, hlt⟩, hna⟩, hres⟩, hname⟩ := hok
  refine ⟨by simp [enters, hf, hc, hname], fun μ lim w args hw hb hx => ?_⟩
  have hasz : args.size = m.nargs := by rw [← hargs, hx.length]; simp
  let C : Ctx := ⟨m.slots, [], fn.ntmps, μ, lim, w, σ, []⟩
  have hltn : ∀ t ∈ m.slots, t < fn.ntmps := fun t ht => by simpa using List.all_eq_true.1 hlt t ht
  have hC : C.OK := ⟨nodupB_spec hnd, hltn, fun j t h => by simp [C] at h, fun i j t h => by simp [C] at h⟩
  let a : Act := { tmps := args ++ Array.replicate (fn.ntmps - args.size) undef, defers := [] }
  have hstart : FRel C μ lim (fun _ => .free) ⟨m.start xs, [], σ⟩ a w := by
    refine ⟨Chg.refl hw, hb, by simp [a, C]; omega, by simp [MFunc.start, C], ?_, rfl, fun j v t hv _ => by simp at hv, fun _ _ _ _ => rfl, fun _ _ => rfl, fun _ _ => rfl, rfl⟩
    intro i e t he ht
    simp only [MFunc.start, List.getElem?_map, Option.map_eq_some_iff] at he
    obtain ⟨t', ht', rfl⟩ := he
    have : C.slots[i]? = some t' := ht'
    rw [ht] at this
    cases this
    have htn := hltn t (List.mem_of_getElem? ht')
    rcases Nat.lt_or_ge t args.size with hlt2 | hge
    · have hxt : xs[t]? = some xs[t] := List.getElem?_eq_getElem (by rw [hargs, ← hasz]; exact hlt2)
      refine ⟨args[t], by simp [a, Array.getElem?_append_left hlt2, hlt2], ?_, ownV_erase⟩
      rw [List.getD_eq_getElem?_getD, hxt]
      exact relV_erase.2 (hx.get' hxt (by rw [Array.getElem?_toList]; exact Array.getElem?_eq_getElem hlt2))
    · have hxt : xs[t]? = none := List.getElem?_eq_none (by rw [hargs, ← hasz]; exact hge)
      refine ⟨undef, ?_, ?_, ownV_erase⟩
      · show (args ++ Array.replicate (fn.ntmps - args.size) undef)[t]? = some undef
        rw [Array.getElem?_append_right hge, Array.getElem?_replicate, if_pos (Nat.sub_lt_sub_right hge htn)]
      · rw [List.getD_eq_getElem?_getD, hxt]
        exact relV_erase.2 rel_undef
  refine calls_of_wp hf hc (wp_mono (h C hC rfl rfl rfl μ lim _ a w hstart) fun e a' w' he => ?_)
  cases e with
  | panic ch =>
    obtain ⟨X, μ', lim', rfl, h2, _, _, s, h3, rfl, _⟩ := he
    exact ⟨h3.defers, X, μ', lim', rfl, h3.chg, h2⟩
  | _ => exact he.elim

theorem panQ_then {C : Ctx} {nd : Bool} {env : List EV} {v : V} {σ' : St} {next : Act → World → Prop} (e : Exit) (a : Act) (w : World) (h : PanQ C nd env v σ' e a w) : Exit.then next (PanQ C nd env v σ') e a w := by
  cases e with
  | panic ch => exact h
  | _ => exact h.elim
theorem panQ_block {C : Ctx} {nd : Bool} {env : List EV} {v : V} {σ' : St} {id : Nat} (e : Exit) (a : Act) (w : World) (h : PanQ C nd env v σ' e a w) : Exit.inBlock id (PanQ C nd env v σ') e a w := by
  cases e with
  | panic ch => exact h
  | _ => exact h.elim

theorem way_sound (hcall : CallOK P call) (hF : ∀ f fn, W f = some fn → P.funcs[f]? = some fn ∧ ∀ m, F f = some m → funcOK P m fn = true) (hpk : ∀ f xs σ v σ', pk f xs σ = some (v, σ') → Pans P f xs σ v σ') :
    ∀ (p : Way) (C : Ctx) (nd : Bool) (c : MCode) (code : Code) (env env' : List EV) (σ σ' : St) (v : V) (μ : List Nat) (lim : Nat → Nat) (ow : Nat → Owner) (a : Act) (w : World), C.OK → C.dsts = [] →
      wayE F call fuel pk p c env σ = some (env', v, σ') → codeOK P C.slots C.n c code = true → wayD F W nd p c code = true → FRel C μ lim ow ⟨env, [], σ⟩ a w → code.wp P (PanQ C nd env' v σ') a w := by
  intro p
  induction p with
  | left p ih =>
    intro C nd c code env env' σ σ' v μ lim ow a w hC hd he hok hw h
    cases c <;> simp only [wayE] at he <;> first | (cases he; done) | skip
    cases code <;> simp only [codeOK] at hok <;> first | (cases hok; done) | skip
    simp only [Bool.and_eq_true] at hok
    simp only [wayD] at hw
    exact wp_seq (wp_mono (ih C nd _ _ env env' σ σ' v μ lim ow a w hC hd he hok.1 hw h) panQ_then)
  | right p ih =>
    intro C nd c code env env' σ σ' v μ lim ow a w hC hd he hok hw h
    cases c <;> simp only [wayE] at he <;> first | (cases he; done) | skip
    cases code <;> simp only [codeOK] at hok <;> first | (cases hok; done) | skip
    simp only [Bool.and_eq_true] at hok
    simp only [wayD] at hw
    split at he
    case h_2 => cases he
    rename_i env1 σ1 h1
    refine wp_seq (exec_sound hC hd hcall fuel _ _ env σ .norm env1 σ1 μ lim ow a w _ h1 hok.1 h fun μ' lim' ow' a' w' h' => ?_)
    exact ih C nd _ _ env1 env' σ1 σ' v μ' lim' ow' a' w' hC hd he hok.2 hw h'
  | brT p ih =>
    intro C nd c code env env' σ σ' v μ lim ow a w hC hd he hok hw h
    cases c <;> simp only [wayE] at he <;> first | (cases he; done) | skip
    cases code <;> simp only [codeOK] at hok <;> first | (cases hok; done) | skip
    simp only [Bool.and_eq_true] at hok
    simp only [wayD] at hw
    split at he
    case h_2 => cases he
    rename_i hr
    exact wp_cond_true (h.cond_eval hd hok.1.1 hr) (ih C nd _ _ env env' σ σ' v μ lim ow a w hC hd he hok.1.2 hw h)
  | brF p ih =>
    intro C nd c code env env' σ σ' v μ lim ow a w hC hd he hok hw h
    cases c <;> simp only [wayE] at he <;> first | (cases he; done) | skip
    cases code <;> simp only [codeOK] at hok <;> first | (cases hok; done) | skip
    simp only [Bool.and_eq_true] at hok
    simp only [wayD] at hw
    split at he
    case h_2 => cases he
    rename_i hr
    exact wp_cond_false (h.cond_eval hd hok.1.1 hr) (ih C nd _ _ env env' σ σ' v μ lim ow a w hC hd he hok.2 hw h)
  | block p ih =>
    intro C nd c code env env' σ σ' v μ lim ow a w hC hd he hok hw h
    cases c <;> simp only [wayE] at he <;> first | (cases he; done) | skip
    cases code <;> simp only [codeOK] at hok <;> first | (cases hok; done) | skip
    simp only [Bool.and_eq_true] at hok
    simp only [wayD] at hw
    exact wp_block (wp_mono (ih C nd _ _ env env' σ σ' v μ lim ow a w hC hd he hok.2 hw h) panQ_block)
  | loop n p ih =>
    intro C nd c code env env' σ σ' v μ lim ow a w hC hd he hok hw h
    cases c <;> simp only [wayE] at he <;> first | (cases he; done) | skip
    cases code <;> simp only [codeOK] at hok <;> first | (cases hok; done) | skip
    rename_i b y
    simp only [wayD] at hw
    split at he
    case h_2 => cases he
    rename_i env1 σ1 h1
    refine loop_of ?_
    have key : ∀ (n : Nat) (env : List EV) (σ : St) (μ : List Nat) (lim : Nat → Nat) (ow : Nat → Owner) (a : Act) (w : World), rounds call fuel b n env σ = some (env1, σ1) → FRel C μ lim ow ⟨env, [], σ⟩ a w → inLoopWp P y (PanQ C nd env' v σ') a w := by
      intro n
      induction n with
      | zero =>
        intro env σ μ lim ow a w hr h
        simp only [rounds] at hr
        cases hr
        exact inLoop_step (wp_mono (ih C nd _ _ env1 env' σ1 σ' v μ lim ow a w hC hd he hok hw h) panQ_then)
      | succ n ihn =>
        intro env σ μ lim ow a w hr h
        simp only [rounds] at hr
        split at hr
        case h_2 => cases hr
        rename_i env2 σ2 h2
        refine inLoop_step (exec_sound hC hd hcall fuel _ _ env σ .norm env2 σ2 μ lim ow a w _ h2 hok h fun μ' lim' ow' a' w' h' => ?_)
        exact ihn env2 σ2 μ' lim' ow' a' w' hr h'
    exact key n env σ μ lim ow a w h1 h
  | call i p ih =>
    intro C nd c code env env' σ σ' v μ lim ow a w hC hd he hok hw h
    cases c <;> simp only [wayE] at he <;> first | (cases he; done) | skip
    cases code <;> simp only [codeOK] at hok <;> first | (cases hok; done) | skip
    rename_i ms id ops drawn
    split at he
    case h_2 => cases he
    rename_i env1 f xs σ1 hat
    split at he
    case h_2 => cases he
    rename_i m hm
    split at he
    case isFalse => cases he
    rename_i hargs
    obtain ⟨⟨env2, v2, σ2⟩, he2, heq⟩ := Option.map_eq_some_iff.1 he
    simp only [Prod.mk.injEq] at heq
    obtain ⟨rfl, rfl, rfl⟩ := heq
    obtain ⟨mo, s, q1, q2, q3, q4, q5, q6, q7⟩ := atCall_spec hat
    simp only [wayD, Bool.and_eq_true] at hw
    obtain ⟨hw1, hw2⟩ := hw
    rw [q1] at hw2
    simp only [Option.bind_some, q2] at hw2
    split at hw2
    case h_2 => cases hw2
    rename_i m' fn hm' hfn
    rw [hm] at hm'
    cases hm'
    split at hw2
    case h_2 => cases hw2
    rename_i cb hcb
    obtain ⟨hf, hfo⟩ := hF _ fn hfn
    have hfo := hfo m hm
    have hbok : codeOK P m.slots fn.ntmps m.body cb = true := by
      unfold funcOK at hfo
      rw [hcb] at hfo
      simp only [Bool.and_eq_true] at hfo
      exact hfo.1.1.1.1.1
    have hp : Pans P f xs s.σ v2 σ2 := by
      rw [q7]
      refine pans_of_body hf hfo hcb (env := env2) hargs fun C' hC' hd' hs' hn' μ lim ow a w h' => ?_
      exact ih C' false m.body cb _ env2 σ1 σ2 v2 μ lim ow a w hC' hd' he2 (by rw [hs', hn']; exact hbok) hw2 h'
    rw [← q6]
    exact region_pan hC hd hcall hok q1 hw1 q2 q3 h q4 q5 hp
  | last i =>
    intro C nd c code env env' σ σ' v μ lim ow a w hC hd he hok hw h
    cases c <;> simp only [wayE] at he <;> first | (cases he; done) | skip
    cases code <;> simp only [codeOK] at hok <;> first | (cases hok; done) | skip
    rename_i ms id ops drawn
    split at he
    case h_2 => cases he
    rename_i env1 f xs σ1 hat
    obtain ⟨⟨v2, σ2⟩, he2, heq⟩ := Option.map_eq_some_iff.1 he
    simp only [Prod.mk.injEq] at heq
    obtain ⟨rfl, rfl, rfl⟩ := heq
    obtain ⟨mo, s, q1, q2, q3, q4, q5, q6, q7⟩ := atCall_spec hat
    simp only [wayD] at hw
    rw [← q6]
    exact region_pan hC hd hcall hok q1 hw q2 q3 h q4 q5 (hpk f xs s.σ v2 σ2 (q7 ▸ he2))
end

/-! ## the same, compiled -/

section
variable {ρ : Type} (bot : ρ)

noncomputable def roundsC (b : Cod ρ) (call : CallS ρ) (fuel : Nat) : Nat → List EV → SS → (List EV → SS → ρ) → ρ
  | 0, env, s, k => k env s
  | n + 1, env, s, k => b.run call fuel env s fun o env s => match o with
    | .norm => roundsC b call fuel n env s k
    | _ => bot

noncomputable def atCallC (call : CallS ρ) (ms : List MOper) (i : Nat) (env : List EV) (s : SS) (k : List EV → FuncId → List V → SS → ρ) : ρ := match ms[i]? with
  | some m => match callK m.k, m.guard with
    | some f, none => (cOps bot (ms.take i) 0).run call (fun env R s => match rds env (unS R (ms.length - i)) m.args with
        | some xs => k env f xs s
        | none => bot) env [] s
    | _, _ => bot
  | none => bot

noncomputable def wayC (F : Funcs) (call : CallS ρ) (fuel : Nat) (pk : PanK) : Way → MCode → List EV → SS → (List EV → V → SS → ρ) → ρ
  | .left p, .seq a _, env, s, k => wayC F call fuel pk p a env s k
  | .right p, .seq a b, env, s, k => (cCode bot a).run call fuel env s fun o env s => match o with
    | .norm => wayC F call fuel pk p b env s k
    | _ => bot
  | .brT p, .cond c a _, env, s, k => match rd env [] c with
    | some (.sc (.bool true)) => wayC F call fuel pk p a env s k
    | _ => bot
  | .brF p, .cond c _ b, env, s, k => match rd env [] c with
    | some (.sc (.bool false)) => wayC F call fuel pk p b env s k
    | _ => bot
  | .block p, .block _ b, env, s, k => wayC F call fuel pk p b env s k
  | .loop n p, .loop b, env, s, k => roundsC bot (cCode bot b) call fuel n env s fun env s => wayC F call fuel pk p b env s k
  | .call i p, .reg ms, env, s, k => atCallC bot call ms i env s fun env f xs s => match F f with
    | some m => if xs.length = m.nargs then wayC F call fuel pk p m.body (m.start xs) s (fun _ v s => k env v s) else bot
    | none => bot
  | .last i, .reg ms, env, s, k => atCallC bot call ms i env s fun env f xs s => match pk f xs s.dec with
    | some r => k env r.1 (enc r.2)
    | none => bot
  | _, _, _, _, _ => bot

variable {bot} {call : CallS ρ} {call' : CallT} {F : Funcs} {fuel : Nat} {pk : PanK}

theorem cOps_eqK (hc : CallEq bot call call') {r : Nat} {k : KF ρ} {K : KA ρ} (ms : List MOper) : ∀ (i : Nat) (env : List EV) (st : List (Option V)) (σ : St), st.length = i → (∀ env st σ, st.length = i + ms.length → k env st (enc σ) = K env (unS st r) σ) →
    (cOps bot ms i).run call k env st (enc σ) = finF bot (runOps call' i ms ⟨env, unS st (ms.length + r), σ⟩) K := by
  induction ms with
  | nil =>
    intro i env st σ hi hk
    show k env st (enc σ) = _
    rw [hk env st σ (by simpa using hi)]
    simp [runOps]
  | cons m ms ih =>
    intro i env st σ hi hk
    show (cGuard bot i m).run call (fun env R σ => (cOps bot ms (i + 1)).run call k env R σ) env st (enc σ) = _
    rw [cGuard_eq hc (r := ms.length + r) m (K := fun env R σ => finF bot (runOps call' (i + 1) ms ⟨env, R, σ⟩) K) (fun env st σ hst => ih (i + 1) env st σ hst fun env st σ h => hk env st σ (by rw [h]; simp; omega)) hi]
    have h2 : runOps call' i (m :: ms) ⟨env, unS st ((m :: ms).length + r), σ⟩ = match step call' i m ⟨env, unS st (ms.length + r + 1), σ⟩ with
      | none => none
      | some s' => runOps call' (i + 1) ms s' := by rw [runOps, List.length_cons, show ms.length + 1 + r = ms.length + r + 1 by omega]; rfl
    rw [h2]
    cases step call' i m ⟨env, unS st (ms.length + r + 1), σ⟩ <;> rfl

theorem roundsC_eq (hc : CallEq bot call call') (b : MCode) : ∀ (n : Nat) (env : List EV) (σ : St) (k : List EV → SS → ρ), roundsC bot (cCode bot b) call fuel n env (enc σ) k = fin bot (rounds call' fuel b n env σ) fun p => k p.1 (enc p.2)
  | 0, env, σ, k => rfl
  | n + 1, env, σ, k => by
    simp only [roundsC, rounds]
    rw [cCode_eq hc]
    cases exec call' fuel b env σ with
    | none => rfl
    | some r =>
      obtain ⟨o, e, s⟩ := r
      cases o
      · simp only [finX, fin_some]; exact roundsC_eq hc b n e s k
      · rfl
      · rfl

theorem atCallC_eq (hc : CallEq bot call call') (ms : List MOper) (i : Nat) (env : List EV) (σ : St) (k : List EV → FuncId → List V → SS → ρ) : atCallC bot call ms i env (enc σ) k = fin bot (atCall call' ms i env σ) fun p => k p.1 p.2.1 p.2.2.1 (enc p.2.2.2) := by
  unfold atCallC atCall
  cases hm : ms[i]? with
  | none => rfl
  | some m =>
  simp only
  split
  · rename_i f _ _
    have hi := (List.getElem?_eq_some_iff.1 hm).1
    rw [cOps_eqK hc (r := ms.length - i) (K := fun env R σ => fin bot (rds env R m.args) fun xs => k env f xs (enc σ)) (ms.take i) 0 env [] σ rfl (fun env st σ _ => by cases rds env (unS st (ms.length - i)) m.args <;> rfl)]
    have : unS [] ((ms.take i).length + (ms.length - i)) = List.replicate ms.length (none : Option V) := by
      unfold unS
      rw [List.length_take]
      simp only [List.reverse_nil, List.nil_append]
      congr 1
      omega
    rw [this]
    cases runOps call' 0 (ms.take i) ⟨env, List.replicate ms.length none, σ⟩ with
    | none => rfl
    | some s =>
      simp only [finF, fin_some]
      cases rds s.env s.R m.args <;> rfl
  · rfl

theorem wayC_eq (hc : CallEq bot call call') : ∀ (p : Way) (c : MCode) (env : List EV) (σ : St) (k : List EV → V → SS → ρ), wayC bot F call fuel pk p c env (enc σ) k = fin bot (wayE F call' fuel pk p c env σ) fun r => k r.1 r.2.1 (enc r.2.2) := by
  intro p
  induction p with
  | left p ih => intro c env σ k; cases c <;> simp only [wayC, wayE] <;> first | rfl | exact ih _ _ _ _
  | right p ih =>
    intro c env σ k
    cases c <;> simp only [wayC, wayE] <;> first | rfl | skip
    rw [cCode_eq hc]
    rename_i a b
    cases exec call' fuel a env σ with
    | none => rfl
    | some r =>
      obtain ⟨o, e, s⟩ := r
      cases o
      · simp only [finX, fin_some]; exact ih _ _ _ _
      · rfl
      · rfl
  | brT p ih =>
    intro c env σ k
    cases c <;> simp only [wayC, wayE] <;> first | rfl | skip
    split
    · exact ih _ _ _ _
    · rfl
  | brF p ih =>
    intro c env σ k
    cases c <;> simp only [wayC, wayE] <;> first | rfl | skip
    split
    · exact ih _ _ _ _
    · rfl
  | block p ih => intro c env σ k; cases c <;> simp only [wayC, wayE] <;> first | rfl | exact ih _ _ _ _
  | loop n p ih =>
    intro c env σ k
    cases c <;> simp only [wayC, wayE] <;> first | rfl | skip
    rw [roundsC_eq hc]
    rename_i b
    cases rounds call' fuel b n env σ with
    | none => rfl
    | some r => simp only [fin_some]; exact ih _ _ _ _
  | call i p ih =>
    intro c env σ k
    cases c <;> simp only [wayC, wayE] <;> first | rfl | skip
    rename_i ms
    rw [atCallC_eq hc]
    cases atCall call' ms i env σ with
    | none => rfl
    | some r =>
      obtain ⟨e, f, xs, s⟩ := r
      simp only [fin_some]
      cases F f with
      | none => rfl
      | some m =>
        simp only
        split
        · rw [ih]
          cases wayE F call' fuel pk p m.body (m.start xs) s <;> rfl
        · rfl
  | last i =>
    intro c env σ k
    cases c <;> simp only [wayC, wayE] <;> first | rfl | skip
    rename_i ms
    rw [atCallC_eq hc]
    cases atCall call' ms i env σ with
    | none => rfl
    | some r =>
      obtain ⟨e, f, xs, s⟩ := r
      simp only [fin_some]
      rw [dec_enc]
      cases pk f xs s <;> rfl
end
end Go.Ab

namespace Go.Ab
open Go

/-- The deferred closure of two captured variables: it recovers, sets the one to nil and the other to what was panicked with, an interface value of the type T. -/
def Catch (P : Program) (g : FuncId) (T : TypeId) : Prop :=
  ∀ (bc be : Nat) (x y pv : Value) (w : World), bc ≠ be → w.cell? ⟨bc, 0, none⟩ = some x → w.cell? ⟨be, 0, none⟩ = some y → w.frozen? ⟨bc, 0, none⟩ = false → w.frozen? ⟨be, 0, none⟩ = false →
    CallsD P g #[.pointer (some ⟨bc, 0, none⟩), .pointer (some ⟨be, 0, none⟩)] (.panicking [{ v := .iface T pv, recovered := false }]) w fun e u' w' =>
      e = .returned (.tuple #[]) ∧ u' = .panicking [{ v := .iface T pv, recovered := true }] ∧ w' = (w.setCell ⟨bc, 0, none⟩ (.pointer none)).setCell ⟨be, 0, none⟩ (.iface T pv)

/-- It has no leave to append. -/
def calm : V → Bool
  | .slice .tail _ _ => false
  | .agg cs => cs.all fun | .slice .tail _ _ => false | _ => true
  | .tup _ => false
  | _ => true
theorem eraseLeaf_calm {v : V} (h : (match v with | .slice .tail _ _ => false | _ => true) = true) : v.eraseLeaf = v := by
  cases v <;> try rfl
  rename_i o sz l
  cases o <;> first | rfl | cases h
theorem erase_calm {v : V} (h : calm v = true) : v.erase = v := by
  cases v <;> try rfl
  case slice o sz l => cases o <;> first | rfl | cases h
  case agg cs =>
    simp only [calm, List.all_eq_true] at h
    show V.agg (cs.map V.eraseLeaf) = _
    congr 1
    conv => rhs; rw [← List.map_id cs]
    exact List.map_congr_left fun v hv => eraseLeaf_calm (h v hv)
def calmE : EV → Bool
  | .v x => calm x
  | .box _ => false

/-- The last of it: the two variables are set, the results are read. -/
def caughtEnd (res : List MRes) (g : FuncId) (T : TypeId) (g' : FuncId) (ic ie : Nat) (env : List EV) (v : V) (σ : St) : Option (V × St) := match v with
  | .iface T' u => match σ.objs[ic]?, σ.objs[ie]? with
    | some oc, some oe => match oc.cs, oe.cs with
      | some [_], some [_] => if g' = g ∧ T' = T ∧ ic ≠ ie ∧ σ.base ≤ ic ∧ σ.base ≤ ie then
          (getAll env ((σ.set ic (oc.with [.sc (.pointer none)])).set ie (oe.with [.iface T' u])) res).map fun rs => (tupled rs, (σ.set ic (oc.with [.sc (.pointer none)])).set ie (oe.with [.iface T' u])) else none
      | _, _ => none
    | _, _ => none
  | _ => none

def caughtE (F : Funcs) (call : CallT) (fuel : Nat) (pk : PanK) (m : MFunc) (q0 q1 : MCode) (ms : List MOper) (od : Opd) (g : FuncId) (T : TypeId) (p : Way) (xs : List V) (σ : St) : Option (V × St) :=
  match exec call fuel q0 (m.start xs) σ with
  | some (.norm, env0, σ0) => match runOps call 0 ms ⟨env0, List.replicate ms.length none, σ0⟩ with
    | some s1 => match rd s1.env s1.R od with
      | some (.func (.func g') [] [.ptr ic 0, .ptr ie 0]) => if s1.env.all calmE = true then match wayE F call fuel pk p q1 s1.env s1.σ with
        | some (env', v, σ') => caughtEnd m.res g T g' ic ie env' v σ'
        | none => none
        else none
      | _ => none
    | none => none
  | _ => none

theorem caughtEnd_spec {res : List MRes} {g : FuncId} {T : TypeId} {g' : FuncId} {ic ie : Nat} {env : List EV} {v : V} {σ σ' : St} {r : V} (h : caughtEnd res g T g' ic ie env v σ = some (r, σ')) :
    ∃ u oc oe c e rs, v = .iface T u ∧ g' = g ∧ σ.objs[ic]? = some oc ∧ σ.objs[ie]? = some oe ∧ oc.cs = some [c] ∧ oe.cs = some [e] ∧ ic ≠ ie ∧ σ.base ≤ ic ∧ σ.base ≤ ie ∧ σ' = (σ.set ic (oc.with [.sc (.pointer none)])).set ie (oe.with [v]) ∧ getAll env σ' res = some rs ∧ r = tupled rs := by
  unfold caughtEnd at h
  split at h
  case h_2 => cases h
  rename_i T' u
  split at h
  case h_2 => cases h
  rename_i oc oe hoc hoe
  split at h
  case h_2 => cases h
  rename_i c e hc he
  split at h
  case isFalse => cases h
  rename_i hcond
  obtain ⟨h1, h2, h3, h4, h5⟩ := hcond
  subst h1; subst h2
  obtain ⟨rs, h6, h7⟩ := Option.map_eq_some_iff.1 h
  simp only [Prod.mk.injEq] at h7
  obtain ⟨rfl, rfl⟩ := h7
  exact ⟨u, oc, oe, c, e, rs, rfl, rfl, hoc, hoe, hc, he, h3, h4, h5, rfl, h6, rfl⟩

/-- One cell of an object is set. -/
theorem chg_setCell {μ : List Nat} {lim : Nat → Nat} {w : World} {σ : St} (hw : WRel μ lim w σ) {id b : Nat} {o : Obj} {c z : V} {X : Value} (hbase : σ.base ≤ id) (ho : σ.objs[id]? = some o) (hc : o.cs = some [c]) (hm : μ[id]? = some b) (hX : RelV μ lim w z X) (h1 : X.oneCell = true) :
    Chg μ lim w σ μ lim (w.setCell ⟨b, 0, none⟩ X) (σ.set id (o.with [z])) ∧ Ext μ lim w μ lim (w.setCell ⟨b, 0, none⟩ X) ∧ (∃ x, w.cell? ⟨b, 0, none⟩ = some x) ∧ w.frozen? ⟨b, 0, none⟩ = false := by
  have hal : alive σ id := ⟨_, ho, cs_alive hc⟩
  obtain ⟨o1, o2, o3, o4⟩ := (hw.obj id b _ ho hm).cellsOf hc
  have o2' : 1 ≤ bsize w b := by simpa using o2
  obtain ⟨cc, cty, fr, hh⟩ : ∃ c cty fr, w.heap[b]? = some (.cells c cty fr) := by
    have : 0 < bsize w b := by omega
    unfold bsize at this
    split at this
    · exact ⟨_, _, _, by assumption⟩
    · omega
  have hbs : bsize w b = cc.size := by unfold bsize; rw [hh]
  have k1 := setCell_heap (o := 0) X hh
  obtain ⟨g1, g2⟩ := chg_set hw (w' := w.setCell ⟨b, 0, none⟩ X) hbase hal hm rfl rfl rfl (by simp [World.setCell]) (fun d hd => setCell_other X hd) (by unfold bsize; rw [k1, hh]; simp) (o.with [z]) (fun hext => by
    have hcell : (w.setCell ⟨b, 0, none⟩ X).cell? ⟨b, 0, none⟩ = some X := by
      simp [World.cell?, k1, show 0 < cc.size by omega]
    have hcells : ObjRel μ lim (w.setCell ⟨b, 0, none⟩ X) b (.cells [z]) := by
      refine ⟨o1, ?_, ?_, ?_⟩
      · unfold bsize; rw [k1]; simp; omega
      · intro k
        have := o3 k
        simp [World.frozen?, hh] at this
        simp [World.frozen?, k1]
        exact this
      · intro k v hv
        cases k with
        | succ k => simp at hv
        | zero => simp at hv; subst hv; exact ⟨X, hcell, hX.ext hext, h1⟩
    cases o with
    | cells cs0 => exact hcells
    | var t0 cs0 =>
      obtain ⟨_, c0, q1, q2, _⟩ := hw.obj id b _ ho hm
      rw [hh] at q1
      cases q1
      simp only [Obj.cs] at hc
      cases hc
      exact ⟨o1, _, k1, by simp at q2 ⊢; omega, hcells.2.2.2⟩
    | _ => simp [Obj.cs] at hc)
  exact ⟨g1, g2, cell_of_lt (by omega), o3 0⟩

section
variable {P : Program} {call : CallT} {F : Funcs} {W : FuncId → Option Func} {fuel : Nat} {pk : PanK}

theorem func_caught (hcall : CallOK P call) (hF : ∀ f fn, W f = some fn → P.funcs[f]? = some fn ∧ ∀ m, F f = some m → funcOK P m fn = true) (hpk : ∀ f xs σ v σ', pk f xs σ = some (v, σ') → Pans P f xs σ v σ')
    {m : MFunc} {f : FuncId} {fn : Func} {c0 c1 : Code} {id : Nat} {ops : Array Oper} {q0 q1 : MCode} {ms : List MOper} {od : Opd} {g : FuncId} {T : TypeId} (hf : P.funcs[f]? = some fn)
    (hb : fn.body = some (.seq c0 (.seq (.region id ops false) c1))) (hok : laterOK P m fn c0 c1 ops q0 q1 ms od = true) (hen : enters P g = true) (hcatch : Catch P g T)
    {p : Way} (hw : wayD F W true p q1 c1 = true) {xs : List V} {σ σ' : St} {r : V} (hargs : xs.length = m.nargs) (hr : caughtE F call fuel pk m q0 q1 ms od g T p xs σ = some (r, σ')) :
    enters P f = true ∧ ∀ (μ : List Nat) (lim : Nat → Nat) (w : World) (args : Array Value), WRel μ lim w σ → σ.base ≤ σ.objs.length → RelVs μ lim w xs args.toList →
      Calls P f args w fun e w' => ∃ y μ' lim', e = .returned y ∧ Chg μ lim w σ μ' lim' w' σ' ∧ RelV μ' lim' w' r y := by
  simp only [laterOK, Bool.and_eq_true, beq_iff_eq, decide_eq_true_eq, bne_iff_ne] at hok
  obtain ⟨⟨⟨⟨hok0, hok1⟩, ⟨⟨⟨⟨hsz, hfr⟩, hfree⟩, hdl⟩, hops⟩⟩, hlast⟩, ⟨⟨⟨⟨hnd, hlt⟩, hna⟩, hres⟩, hname⟩⟩ := hok
  refine ⟨by simp [enters, hf, hb, hname], fun μ lim w args hwr hbase hx => ?_⟩
  unfold caughtE at hr
  split at hr
  case h_2 => cases hr
  rename_i env0 σ0 hex0
  split at hr
  case h_2 => cases hr
  rename_i s1 hs1
  split at hr
  case h_2 => cases hr
  rename_i g' ic ie hrd
  split at hr
  case isFalse => cases hr
  rename_i hcalm
  split at hr
  case h_2 => cases hr
  rename_i env' v σ2 hway
  obtain ⟨u, oc, oe, cv, ev, rs, hv, rfl, hoc, hoe, hcc, hec, hne, hbc, hbe, hσ', hrs, rfl⟩ := caughtEnd_spec hr
  subst hv
  have hasz : args.size = m.nargs := by rw [← hargs, hx.length]; simp
  let C : Ctx := ⟨m.slots, [], fn.ntmps, μ, lim, w, σ, []⟩
  have hltn : ∀ t ∈ m.slots, t < fn.ntmps := fun t ht => by simpa using List.all_eq_true.1 hlt t ht
  have hC : C.OK := ⟨nodupB_spec hnd, hltn, fun j t h => by simp [C] at h, fun i j t h => by simp [C] at h⟩
  let a : Act := { tmps := args ++ Array.replicate (fn.ntmps - args.size) undef, defers := [] }
  have hstart : FRel C μ lim (fun _ => .free) ⟨m.start xs, [], σ⟩ a w := by
    refine ⟨Chg.refl hwr, hbase, by simp [a, C]; omega, by simp [MFunc.start, C], ?_, rfl, fun j v t hv _ => by simp at hv, fun _ _ _ _ => rfl, fun _ _ => rfl, fun _ _ => rfl, rfl⟩
    intro i e t he ht
    simp only [MFunc.start, List.getElem?_map, Option.map_eq_some_iff] at he
    obtain ⟨t', ht', rfl⟩ := he
    have : C.slots[i]? = some t' := ht'
    rw [ht] at this
    cases this
    have htn := hltn t (List.mem_of_getElem? ht')
    rcases Nat.lt_or_ge t args.size with hlt2 | hge
    · have hxt : xs[t]? = some xs[t] := List.getElem?_eq_getElem (by rw [hargs, ← hasz]; exact hlt2)
      refine ⟨args[t], by simp [a, Array.getElem?_append_left hlt2, hlt2], ?_, ownV_erase⟩
      rw [List.getD_eq_getElem?_getD, hxt]
      exact relV_erase.2 (hx.get' hxt (by rw [Array.getElem?_toList]; exact Array.getElem?_eq_getElem hlt2))
    · have hxt : xs[t]? = none := List.getElem?_eq_none (by rw [hargs, ← hasz]; exact hge)
      refine ⟨undef, ?_, ?_, ownV_erase⟩
      · show (args ++ Array.replicate (fn.ntmps - args.size) undef)[t]? = some undef
        rw [Array.getElem?_append_right hge, Array.getElem?_replicate, if_pos (Nat.sub_lt_sub_right hge htn)]
      · rw [List.getD_eq_getElem?_getD, hxt]
        exact relV_erase.2 rel_undef
  let R : Ending → World → Prop := fun e w' => ∃ y μ' lim', e = .returned y ∧ Chg μ lim w σ μ' lim' w' σ' ∧ RelV μ' lim' w' (tupled rs) y
  refine calls_of_wp_defers hf hb (R := R) ?_
  refine wp_seq (exec_sound hC rfl hcall fuel q0 c0 _ σ .norm env0 σ0 μ lim _ a w _ hex0 hok0 hstart fun μ0 lim0 ow0 a0 w0 h0 => ?_)
  refine wp_seq (wp_region ?_)
  have hC2 : ({ C with dsts := dstsOf ms ops.toList } : Ctx).OK := ctx_ok hC hfr
  have hreg := h0.region (dstsOf ms ops.toList)
  rw [hdl] at hreg
  rw [hsz, show List.range (ms.length + 1) = List.range' 0 ms.length ++ [ms.length] by rw [List.range_succ, List.range_eq_range']]
  refine runOps_part hC2 hcall hfree [ms.length] ms 0 _ s1 μ0 lim0 ow0 a0 w0 hops hreg (by intro j _ _ _ hj; exact absurd hj (Nat.not_lt_zero _)) hs1 fun μ2 lim2 ow2 a2 w2 h2 => ?_
  split at hlast
  case h_2 => cases hlast
  rename_i o ho
  simp only [Bool.and_eq_true, Option.isNone_iff_eq_none] at hlast
  obtain ⟨⟨hod, hog⟩, hop⟩ := hlast
  split at hop
  case h_2 => cases hop
  rename_i c hopc
  simp only [Bool.and_eq_true, beq_iff_eq] at hop
  obtain ⟨hca, hop⟩ := hop
  split at hop
  case h_2 => cases hop
  rename_i x hcx
  have hev := (eval_rel h2 hrd hop).1
  unfold RelV at hev
  obtain ⟨f', c', hev, hf', hc'⟩ := hev
  have hf0 : f' = #[] := by
    have := hf'.length
    simp at this
    exact Array.eq_empty_of_size_eq_zero this.symm
  subst hf0
  obtain ⟨bc, be, hcap, hmc, hme⟩ : ∃ bc be, c' = #[.pointer (some ⟨bc, 0, none⟩), .pointer (some ⟨be, 0, none⟩)] ∧ μ2[ic]? = some bc ∧ μ2[ie]? = some be := by
    obtain ⟨l⟩ := c'
    match l, hc' with
    | [A, B], hc' =>
      unfold RelVs RelVs RelVs at hc'
      obtain ⟨q1, q2, _⟩ := hc'
      unfold RelV at q1 q2
      obtain ⟨bc, m1, rfl⟩ := q1
      obtain ⟨be, m2, rfl⟩ := q2
      exact ⟨bc, be, rfl, m1, m2⟩
    | [], hc' => unfold RelVs at hc'; exact hc'.elim
    | [_], hc' => unfold RelVs RelVs at hc'; exact hc'.2.elim
    | _ :: _ :: _ :: _, hc' => unfold RelVs RelVs RelVs at hc'; exact hc'.2.2.elim
  rw [wpOps_cons]
  unfold wpOp
  simp only [ho]
  rw [if_pos (by simp [Region.wanted, hog])]
  refine .inl ?_
  have hrun : (execOp a2.eval o).run P w2 = .ok (.defer { target := .fn (.func g') c', args := #[] }) w2 := by
    unfold execOp
    have hargs0 : c.args = #[] := by simpa using hca
    simp [hopc, resolve, hcx, hev, Deferred.ofValue, hargs0]
  unfold Oper.wp
  rw [hrun, Oper.upon_defer]
  show Exit.then _ _ .normal _ _
  have hput : ({ a2 with defers := { target := .fn (.func g') c', args := #[] } :: a2.defers } : Act).put o.dst undef = { a2 with defers := { target := .fn (.func g') c', args := #[] } :: a2.defers } := by rw [hod]; rfl
  rw [hput]
  have h3 := h2.unregion (C := C) rfl
  -- the frame anew, from here on
  let C1 : Ctx := ⟨m.slots, [], fn.ntmps, μ2, lim2, w2, s1.σ, [{ target := .fn (.func g') c', args := #[] }]⟩
  have hC1 : C1.OK := ⟨nodupB_spec hnd, hltn, fun j t h => by simp [C1] at h, fun i j t h => by simp [C1] at h⟩
  have h4 : FRel C1 μ2 lim2 (fun _ => .free) ⟨s1.env, [], s1.σ⟩ { a2 with defers := { target := .fn (.func g') c', args := #[] } :: a2.defers } w2 := by
    refine ⟨Chg.refl h3.chg.wrel, h3.based, h3.tmps, h3.envlen, ?_, rfl, fun j v t hv _ => by simp at hv, fun _ _ _ _ => rfl, fun _ _ => rfl, fun _ _ => rfl, by rw [h3.defers]⟩
    intro i e t he ht
    have hce := List.all_eq_true.1 hcalm e (List.mem_of_getElem? he)
    cases e with
    | box cs => cases hce
    | v x =>
      obtain ⟨X, k1, k2⟩ := h3.env i _ t he ht
      refine ⟨X, k1, k2.1, ?_⟩
      rw [← erase_calm hce]
      exact ownV_erase
  refine wp_mono (way_sound hcall hF hpk p C1 true q1 c1 s1.env env' s1.σ σ2 _ μ2 lim2 _ _ w2 hC1 rfl hway hok1 hw h4) fun e a' w' he => ?_
  cases e with
  | panic ch =>
    obtain ⟨X, μ', lim', rfl, hX, dsts, ow, s, h5, rfl, henv⟩ := he
    have henv := henv rfl
    have h6 : FRel C1 μ' lim' ow ⟨s.env, [], s.σ⟩ a' w' := h5.unregion (C := C1) rfl
    have hch : Chg μ2 lim2 w2 s1.σ μ' lim' w' s.σ := h6.chg
    have hmc' := hch.pre ic bc hmc
    have hme' := hch.pre ie be hme
    unfold RelV at hX
    obtain ⟨pv, rfl, hpv⟩ := hX
    have hX : RelV μ' lim' w' (.iface T u) (.iface T pv) := by unfold RelV; exact ⟨pv, rfl, hpv⟩
    have hbne : bc ≠ be := fun e => hne (h6.chg.wrel.inj ic ie bc ⟨_, hoc, cs_alive hcc⟩ ⟨_, hoe, cs_alive hec⟩ hmc' (e ▸ hme'))
    obtain ⟨g1, g2, ⟨x0, hx0⟩, hz0⟩ := chg_setCell h6.chg.wrel (z := .sc (.pointer none)) (X := .pointer none) hbc hoc hcc hmc' (scRel rfl) rfl
    have hoe' : (s.σ.set ic (oc.with [.sc (.pointer none)])).objs[ie]? = some oe := by
      simp only [St.set]
      rw [List.getElem?_set_ne hne]
      exact hoe
    obtain ⟨k1, k2, _, _⟩ := chg_setCell g1.wrel (z := .iface T u) (X := .iface T pv) (id := ie) (b := be) hbe hoe' hec hme' (hX.ext g2) rfl
    obtain ⟨_, _, ⟨x1, hx1⟩, hz1⟩ := chg_setCell h6.chg.wrel (z := .sc (.pointer none)) (X := .pointer none) hbe hoe hec hme' (scRel rfl) rfl
    show Leaves P fn a'.tmps R a'.defers _ w'
    rw [h6.defers]
    refine leaves_cons (f := g') (args := #[] ++ #[] ++ c') (by simp) (by simp [invoke, run_callFunc hen]) ?_
    have hcd := hcatch bc be x0 x1 pv w' hbne hx0 hx1 hz0 hz1
    rw [hcap]
    refine CallsD.mono (by simpa using hcd) ?_
    rintro e u' w'' ⟨rfl, rfl, rfl⟩
    have h7 : FRel C1 μ' lim' ow ⟨env', [], σ'⟩ a' ((w'.setCell ⟨bc, 0, none⟩ (.pointer none)).setCell ⟨be, 0, none⟩ (.iface T pv)) := by
      have := (h6.lift g1).lift k1
      rw [← henv]
      rw [hσ']
      exact this
    obtain ⟨ys, j1, j2⟩ := results_rel (P := P) h7 m.res fn.results.toList rs hres hrs
    refine ⟨if hs : ys.toArray.size = 1 then ys.toArray[0] else .tuple ys.toArray, ?_, _, μ', lim', rfl, h3.chg.trans h7.chg, relVs_tupled j2⟩
    unfold results
    rw [Array.mapM_eq_mapM_toList]
    simp only [Sem.run_bind, Sem.run_map]
    generalize hg : (List.mapM (m := Sem) _ fn.results.toList) = mm
    have h1' : mm.run P ((w'.setCell ⟨bc, 0, none⟩ (.pointer none)).setCell ⟨be, 0, none⟩ (.iface T pv)) = .ok ys ((w'.setCell ⟨bc, 0, none⟩ (.pointer none)).setCell ⟨be, 0, none⟩ (.iface T pv)) := by rw [← hg]; exact j1
    rw [h1']
    rfl
  | _ => exact he.elim
end

/-! ## compiled -/

section
variable {F : Funcs} {fuel : Nat} {pk : PanK}

noncomputable def caughtC (F : Funcs) (call : CallS Bool) (fuel : Nat) (pk : PanK) (m : MFunc) (q0 q1 : MCode) (ms : List MOper) (od : Opd) (g : FuncId) (T : TypeId) (p : Way) (xs : List V) (s : SS) (k : V → SS → Bool) : Bool :=
  (cCode false q0).run call fuel (m.start xs) s fun o env s => match o with
    | .norm => (cOps false ms 0).run call (fun env R s => match rd env (unS R 0) od with
      | some (.func (.func g') [] [.ptr ic 0, .ptr ie 0]) => if env.all calmE = true then
          wayC false F call fuel pk p q1 env s fun env v s => match caughtEnd m.res g T g' ic ie env v s.dec with
            | some r => k r.1 (enc r.2)
            | none => false
        else false
      | _ => false) env [] s
    | _ => false

theorem caughtC_spec {call : CallS Bool} {call' : CallT} (hc : CallEq false call call') {m : MFunc} {q0 q1 : MCode} {ms : List MOper} {od : Opd} {g : FuncId} {T : TypeId} {p : Way} {xs : List V} {σ : St} {k : V → SS → Bool} (h : caughtC F call fuel pk m q0 q1 ms od g T p xs (enc σ) k = true) :
    ∃ r σ', caughtE F call' fuel pk m q0 q1 ms od g T p xs σ = some (r, σ') ∧ k r (enc σ') = true := by
  unfold caughtC at h
  rw [cCode_eq hc] at h
  unfold caughtE
  cases he : exec call' fuel q0 (m.start xs) σ with
  | none => rw [he] at h; cases h
  | some r =>
    obtain ⟨o, env0, σ0⟩ := r
    rw [he] at h
    cases o with
    | exit id => cases h
    | ret => cases h
    | norm =>
      simp only [finX, fin_some] at h ⊢
      rw [cOps_eqK hc (r := 0) (K := fun env R σ => match rd env R od with
        | some (.func (.func g') [] [.ptr ic 0, .ptr ie 0]) => if env.all calmE = true then
            wayC false F call fuel pk p q1 env (enc σ) fun env v s => match caughtEnd m.res g T g' ic ie env v s.dec with
              | some r => k r.1 (enc r.2)
              | none => false
          else false
        | _ => false) ms 0 env0 [] σ0 rfl (fun _ _ _ _ => rfl)] at h
      have hu : unS [] (ms.length + 0) = List.replicate ms.length (none : Option V) := by simp [unS]
      rw [hu] at h
      cases hs : runOps call' 0 ms ⟨env0, List.replicate ms.length none, σ0⟩ with
      | none => rw [hs] at h; cases h
      | some s1 =>
        rw [hs] at h
        simp only [finF, fin_some] at h ⊢
        split at h
        case h_2 => cases h
        rename_i g' ic ie hrd
        split at h
        case isFalse => cases h
        rename_i hcalm
        rw [wayC_eq hc] at h
        simp only [hcalm, if_true]
        cases hw : wayE F call' fuel pk p q1 s1.env s1.σ with
        | none => rw [hw] at h; cases h
        | some r =>
          rw [hw] at h
          obtain ⟨env', v, σ'⟩ := r
          simp only [fin_some, dec_enc] at h ⊢
          split at h
          · rename_i r hr
            exact ⟨r.1, r.2, by rw [hr], h⟩
          · cases h
end

/-! ## the same at any state, of closed values -/

/-- What is said of a call at the empty state is said at each, if what is given leads to no objects, and what is answered to a variable of plain values alone. -/
theorem memo_push {P : Program} {f : FuncId} {xs : List V} {σ1 : St} {id : Nat} {t T : TypeId} {cs : List Value} (hc : enters P f = true ∧ ∀ (μ : List Nat) (lim : Nat → Nat) (w : World) (args : Array Value), WRel μ lim w ⟨[], 0⟩ → (⟨[], 0⟩ : St).base ≤ (⟨[], 0⟩ : St).objs.length → RelVs μ lim w xs args.toList →
      Calls P f args w fun e w' => ∃ y μ' lim', e = .returned y ∧ Chg μ lim w ⟨[], 0⟩ μ' lim' w' σ1 ∧ RelV μ' lim' w' (.tup [.sc (.pointer none), .iface T (.ptr id 0)]) y) (hx0 : insideL 0 xs = true) (hob : σ1.objs[id]? = some (.var t (cs.map .sc))) (σ : St) :
    enters P f = true ∧ ∀ (μ : List Nat) (lim : Nat → Nat) (w : World) (args : Array Value), WRel μ lim w σ → σ.base ≤ σ.objs.length → RelVs μ lim w xs args.toList →
      Calls P f args w fun e w' => ∃ y μ' lim', e = .returned y ∧ Chg μ lim w σ μ' lim' w' (σ.push (.var t (cs.map .sc))) ∧ RelV μ' lim' w' (.tup [.sc (.pointer none), .iface T (.ptr σ.objs.length 0)]) y := by
  refine ⟨hc.1, fun μ lim w args hw hbase hx => ?_⟩
  have hw0 : WRel [] lim w ⟨[], 0⟩ := ⟨rfl, fun _ _ hm => by simp at hm, fun i j b _ _ hi => by simp at hi, fun id b o ho _ => by simp at ho, hw.fresh, hw.glob⟩
  have hx' : RelVs [] lim w xs args.toList := by
    have := RelVs.cut 0 xs _ hx0 hx
    simpa using this
  refine Calls.mono (hc.2 [] lim w args hw0 (Nat.le_refl _) hx') fun e w' he => ?_
  obtain ⟨y, μ', lim', rfl, hch, hr⟩ := he
  have hun : ∀ b, ¬ Unprot [] ⟨[], 0⟩ b := by
    rintro b ⟨id, _, _, hm⟩
    simp at hm
  unfold RelV at hr
  obtain ⟨ys, rfl, hr⟩ := hr
  obtain ⟨ys⟩ := ys
  match ys, hr with
  | [A, B], hr =>
    unfold RelVs RelVs RelVs at hr
    obtain ⟨hA, hB, _⟩ := hr
    unfold RelV at hB
    obtain ⟨B', rfl, hB⟩ := hB
    unfold RelV at hB
    obtain ⟨b, hb, rfl⟩ := hB
    have hA := relSc hA
    subst hA
    have hbge : w.heap.size ≤ b := (hch.objs id b ⟨_, hob, by simp⟩ (Nat.zero_le _) hb).resolve_right (hun b)
    have hblt := hch.wrel.lt id b hb
    obtain ⟨_, c, hc1, hc2, hc3⟩ := hch.wrel.obj id b _ hob hb
    have hold : ∀ b', b' < w.heap.size → w'.heap[b']? = w.heap[b']? := fun b' h => (hch.keep b' h (hun b')).1
    let limn : Nat → Nat := fun b' => if b' < w.heap.size then lim b' else 0
    have hln : ∀ b', b' < w.heap.size → limn b' = lim b' := fun b' h => if_pos h
    have hpre : ∀ (i b' : Nat), μ[i]? = some b' → (μ ++ [b])[i]? = some b' := fun i b' h => by
      rw [List.getElem?_append_left (List.getElem?_eq_some_iff.1 h).1]; exact h
    have hx2 : Ext μ lim w (μ ++ [b]) limn w' := ⟨hpre, fun b' o ho => by
        have hb' := hw.lim_lt ho
        exact ⟨by rw [hln b' hb']; exact ho, cell_congr (hold b' hb') o⟩, fun b' => by
        rcases Nat.lt_or_ge b' w.heap.size with hb' | hb'
        · rw [bsize_congr (hold b' hb')]; exact Nat.le_refl _
        · rw [bsize_ge hb']; exact Nat.zero_le _⟩
    have hlen := hw.len
    have hlast : (μ ++ [b])[σ.objs.length]? = some b := by rw [← hlen]; simp
    have hget : ∀ (i b' : Nat), (μ ++ [b])[i]? = some b' → (i < σ.objs.length ∧ μ[i]? = some b') ∨ (i = σ.objs.length ∧ b' = b) := by
      intro i b' h
      rcases Nat.lt_trichotomy i μ.length with hi | hi | hi
      · rw [List.getElem?_append_left hi] at h; exact .inl ⟨by omega, h⟩
      · subst hi; simp at h; exact .inr ⟨hlen, h.symm⟩
      · rw [List.getElem?_eq_none (by simp; omega)] at h; cases h
    have hal : ∀ i, alive (σ.push (.var t (cs.map .sc))) i → i < σ.objs.length → alive σ i := by
      rintro i ⟨o, ho, hd⟩ hi
      refine ⟨o, ?_, hd⟩
      simp only [St.push] at ho
      rwa [List.getElem?_append_left hi] at ho
    refine ⟨_, μ ++ [b], limn, rfl, ⟨hch.os, hch.tape, hch.output, hch.size, hpre, fun b' hb' _ => ⟨hold b' hb', hln b' hb'⟩, fun b' hb' => hx2.size b', fun i b' ha hbs hm => ?_, rfl, fun i hi => ?_, by simp [St.push], fun _ hp => hw.glob_lt hp, ?_⟩, ?_⟩
    · rcases hget i b' hm with ⟨hi, hm⟩ | ⟨rfl, rfl⟩
      · exact .inr ⟨i, hbs, hal i ha hi, hm⟩
      · exact .inl hbge
    · simp only [St.push]
      rw [List.getElem?_append_left (by omega)]
    · refine ⟨by simp [St.push, hlen], fun i b' hm => ?_, fun i j b' hi hj hmi hmj => ?_, fun i b' o ho hm => ?_, fun b' hb' => ?_, glob_keep hw.glob fun p _ _ hlt => ⟨hold p.1 hlt, hln p.1 hlt⟩⟩
      · rcases hget i b' hm with ⟨_, hm⟩ | ⟨_, rfl⟩
        · exact Nat.lt_of_lt_of_le (hw.lt i b' hm) hch.size
        · exact hblt
      · rcases hget i b' hmi with ⟨hi1, hmi⟩ | ⟨hi1, hbi⟩ <;> rcases hget j b' hmj with ⟨hj1, hmj⟩ | ⟨hj1, hbj⟩
        · exact hw.inj i j b' (hal i hi hi1) (hal j hj hj1) hmi hmj
        · have := hw.lt i b' hmi; omega
        · have := hw.lt j b' hmj; omega
        · omega
      · rcases hget i b' hm with ⟨hi, hm⟩ | ⟨rfl, rfl⟩
        · simp only [St.push] at ho
          rw [List.getElem?_append_left hi] at ho
          exact (hw.obj i b' o ho hm).ext hx2 (hold b' (hw.lt i b' hm)) (hln b' (hw.lt i b' hm))
        · simp [St.push] at ho
          subst ho
          refine ⟨if_neg (by omega), c, hc1, hc2, fun k v hv => ?_⟩
          obtain ⟨x, h1, h2, h3⟩ := hc3 k v hv
          refine ⟨x, h1, ?_, h3⟩
          simp only [List.getElem?_map, Option.map_eq_some_iff] at hv
          obtain ⟨u, _, rfl⟩ := hv
          unfold RelV at h2 ⊢
          exact h2
      · have := hch.size
        exact if_neg (by omega)
    · unfold RelV
      refine ⟨_, rfl, ?_⟩
      unfold RelVs RelVs RelVs
      refine ⟨scRel rfl, ?_, trivial⟩
      unfold RelV
      refine ⟨_, rfl, ?_⟩
      unfold RelV
      exact ⟨b, hlast, rfl⟩
  | [], hr => unfold RelVs at hr; exact hr.elim
  | [_], hr => unfold RelVs RelVs at hr; exact hr.2.elim
  | _ :: _ :: _ :: _, hr => unfold RelVs RelVs RelVs at hr; exact hr.2.2.elim
end Go.Ab

namespace Go.Ab
open Go

def eqSc : Value → Value → Bool
  | .int k a, .int k' b => decide (k = k') && a == b
  | .string a, .string b => decide (a = b)
  | .bool a, .bool b => a == b
  | .pointer none, .pointer none => true
  | .nilIface, .nilIface => true
  | .nilFunc, .nilFunc => true
  | .map none, .map none => true
  | _, _ => false
theorem eqSc_spec {a b : Value} (h : eqSc a b = true) : a = b := by
  unfold eqSc at h
  split at h <;> simp_all

mutual
/-- Are two values of plain parts the same? -/
def eqV : V → V → Bool
  | .sc a, .sc b => eqSc a b
  | .slice o n l, .slice o' n' l' => decide (o = o') && n == n' && eqVLL l l'
  | .agg l, .agg l' => eqVL l l'
  | .imm l, .imm l' => eqVL l l'
  | .iface t v, .iface t' v' => t == t' && eqV v v'
  | _, _ => false
def eqVL : List V → List V → Bool
  | [], [] => true
  | a :: l, b :: l' => eqV a b && eqVL l l'
  | _, _ => false
def eqVLL : List (List V) → List (List V) → Bool
  | [], [] => true
  | a :: l, b :: l' => eqVL a b && eqVLL l l'
  | _, _ => false
end

mutual
theorem eqV_spec : ∀ (a b : V), eqV a b = true → a = b
  | .sc a, b, h => by
    cases b <;> simp only [eqV] at h <;> first | (cases h; done) | skip
    rw [eqSc_spec h]
  | .slice o n l, b, h => by
    cases b <;> simp only [eqV] at h <;> first | (cases h; done) | skip
    simp only [Bool.and_eq_true, decide_eq_true_eq, beq_iff_eq] at h
    obtain ⟨⟨rfl, rfl⟩, h⟩ := h
    rw [eqVLL_spec _ _ h]
  | .agg l, b, h => by
    cases b <;> simp only [eqV] at h <;> first | (cases h; done) | skip
    rw [eqVL_spec _ _ h]
  | .imm l, b, h => by
    cases b <;> simp only [eqV] at h <;> first | (cases h; done) | skip
    rw [eqVL_spec _ _ h]
  | .iface t v, b, h => by
    cases b <;> simp only [eqV] at h <;> first | (cases h; done) | skip
    simp only [Bool.and_eq_true, beq_iff_eq] at h
    obtain ⟨rfl, h⟩ := h
    rw [eqV_spec _ _ h]
  | .ptr _ _, b, h => by cases b <;> simp [eqV] at h
  | .arr _ _ _ _, b, h => by cases b <;> simp [eqV] at h
  | .map _, b, h => by cases b <;> simp [eqV] at h
  | .func _ _ _, b, h => by cases b <;> simp [eqV] at h
  | .tup _, b, h => by cases b <;> simp [eqV] at h
theorem eqVL_spec : ∀ (a b : List V), eqVL a b = true → a = b
  | [], [], _ => rfl
  | a :: l, b :: l', h => by
    simp only [eqVL, Bool.and_eq_true] at h
    rw [eqV_spec _ _ h.1, eqVL_spec _ _ h.2]
  | [], _ :: _, h => by simp [eqVL] at h
  | _ :: _, [], h => by simp [eqVL] at h
theorem eqVLL_spec : ∀ (a b : List (List V)), eqVLL a b = true → a = b
  | [], [], _ => rfl
  | a :: l, b :: l', h => by
    simp only [eqVLL, Bool.and_eq_true] at h
    rw [eqVL_spec _ _ h.1, eqVLL_spec _ _ h.2]
  | [], _ :: _, h => by simp [eqVLL] at h
  | _ :: _, [], h => by simp [eqVLL] at h
end

/-- What is answered at single arguments. -/
def findV {α : Type} : List (List V × α) → List V → Option α
  | [], _ => none
  | (p, v) :: l, xs => match eqVL p xs with
    | true => some v
    | false => findV l xs
theorem findV_spec {α : Type} : ∀ {l : List (List V × α)} {xs : List V} {v : α}, findV l xs = some v → (xs, v) ∈ l
  | [], _, _, h => by simp [findV] at h
  | (p, u) :: l, xs, v, h => by
    simp only [findV] at h
    split at h
    · rename_i he
      cases h
      rw [eqVL_spec _ _ he]
      simp
    · exact List.mem_cons_of_mem _ (findV_spec h)
end Go.Ab

namespace Go.Ab
open Go

def stopOK (P : Program) (m : MFunc) (fn : Func) (c0 : Code) (ops : Array Oper) (q0 : MCode) (ms : List MOper) (od : Opd) : Bool :=
  let dsts := dstsOf ms ops.toList
  let ad := adsOf P m.slots ops.toList ms ops.toList []
  codeOK P m.slots fn.ntmps q0 c0 && (ops.size == ms.length + 1 && frameOK m.slots fn.ntmps dsts && adFree m.slots ops ad && dsts.length == ms.length && opsOK P m.slots dsts ops ad List.range 0 ms) &&
    (match ops[ms.length]? with
      | some o => o.guard.isNone && (match o.op with
        | .panic x => opdOK m.slots dsts od x
        | _ => false)
      | none => false) &&
    (nodupB m.slots && m.slots.all (· < fn.ntmps) && decide (m.nargs ≤ fn.ntmps) && fn.name != "runtime.NumGoroutine")

theorem stop_sound {P : Program} {m : MFunc} {f : FuncId} {fn : Func} {c0 : Code} {id : Nat} {ops : Array Oper} {q0 : MCode} {ms : List MOper} {od : Opd} (hf : P.funcs[f]? = some fn)
    (hb : fn.body = some (.seq c0 (.region id ops false))) (hok : stopOK P m fn c0 ops q0 ms od = true) {xs : List V} {σ : St} {env0 : List EV} {σ0 : St} {s1 : FS} {T : TypeId} {u : V} (hargs : xs.length = m.nargs)
    (h0 : exec (fun _ _ _ => none) 0 q0 (m.start xs) σ = some (.norm, env0, σ0)) (h1 : runOps (fun _ _ _ => none) 0 ms ⟨env0, List.replicate ms.length none, σ0⟩ = some s1) (h2 : rd s1.env s1.R od = some (.iface T u)) : Pans P f xs σ (.iface T u) s1.σ := by
  have hcall : CallOK P fun _ _ _ => none := fun f xs σ v σ' h => by cases h
  simp only [stopOK, Bool.and_eq_true, beq_iff_eq, decide_eq_true_eq, bne_iff_ne] at hok
  obtain ⟨⟨⟨hok0, ⟨⟨⟨⟨hsz, hfr⟩, hfree⟩, hdl⟩, hops⟩⟩, hlast⟩, ⟨⟨⟨hnd, hlt⟩, hna⟩, hname⟩⟩ := hok
  refine ⟨by simp [enters, hf, hb, hname], fun μ lim w args hwr hbase hx => ?_⟩
  have hasz : args.size = m.nargs := by rw [← hargs, hx.length]; simp
  let C : Ctx := ⟨m.slots, [], fn.ntmps, μ, lim, w, σ, []⟩
  have hltn : ∀ t ∈ m.slots, t < fn.ntmps := fun t ht => by simpa using List.all_eq_true.1 hlt t ht
  have hC : C.OK := ⟨nodupB_spec hnd, hltn, fun j t h => by simp [C] at h, fun i j t h => by simp [C] at h⟩
  let a : Act := { tmps := args ++ Array.replicate (fn.ntmps - args.size) undef, defers := [] }
  have hstart : FRel C μ lim (fun _ => .free) ⟨m.start xs, [], σ⟩ a w := by
    refine ⟨Chg.refl hwr, hbase, by simp [a, C]; omega, by simp [MFunc.start, C], ?_, rfl, fun j v t hv _ => by simp at hv, fun _ _ _ _ => rfl, fun _ _ => rfl, fun _ _ => rfl, rfl⟩
    intro i e t he ht
    simp only [MFunc.start, List.getElem?_map, Option.map_eq_some_iff] at he
    obtain ⟨t', ht', rfl⟩ := he
    have : C.slots[i]? = some t' := ht'
    rw [ht] at this
    cases this
    have htn := hltn t (List.mem_of_getElem? ht')
    rcases Nat.lt_or_ge t args.size with hlt2 | hge
    · have hxt : xs[t]? = some xs[t] := List.getElem?_eq_getElem (by rw [hargs, ← hasz]; exact hlt2)
      refine ⟨args[t], by simp [a, Array.getElem?_append_left hlt2, hlt2], ?_, ownV_erase⟩
      rw [List.getD_eq_getElem?_getD, hxt]
      exact relV_erase.2 (hx.get' hxt (by rw [Array.getElem?_toList]; exact Array.getElem?_eq_getElem hlt2))
    · have hxt : xs[t]? = none := List.getElem?_eq_none (by rw [hargs, ← hasz]; exact hge)
      refine ⟨undef, ?_, ?_, ownV_erase⟩
      · show (args ++ Array.replicate (fn.ntmps - args.size) undef)[t]? = some undef
        rw [Array.getElem?_append_right hge, Array.getElem?_replicate, if_pos (Nat.sub_lt_sub_right hge htn)]
      · rw [List.getD_eq_getElem?_getD, hxt]
        exact relV_erase.2 rel_undef
  refine calls_of_wp hf hb ?_
  refine wp_seq (exec_sound hC rfl hcall 0 q0 c0 _ σ .norm env0 σ0 μ lim _ a w _ h0 hok0 hstart fun μ0 lim0 ow0 a0 w0 g0 => ?_)
  refine wp_region ?_
  have hC2 : ({ C with dsts := dstsOf ms ops.toList } : Ctx).OK := ctx_ok hC hfr
  have hreg := g0.region (dstsOf ms ops.toList)
  rw [hdl] at hreg
  rw [hsz, show List.range (ms.length + 1) = List.range' 0 ms.length ++ [ms.length] by rw [List.range_succ, List.range_eq_range']]
  refine runOps_part hC2 hcall hfree [ms.length] ms 0 _ s1 μ0 lim0 ow0 a0 w0 hops hreg (by intro j _ _ _ hj; exact absurd hj (Nat.not_lt_zero _)) h1 fun μ2 lim2 ow2 a2 w2 g2 => ?_
  split at hlast
  case h_2 => cases hlast
  rename_i o ho
  simp only [Bool.and_eq_true, Option.isNone_iff_eq_none] at hlast
  obtain ⟨hog, hop⟩ := hlast
  split at hop
  case h_2 => cases hop
  rename_i x hopc
  have hev := (eval_rel g2 h2 hop).1
  have hev0 := hev
  unfold RelV at hev
  obtain ⟨y, hy, hry⟩ := hev
  rw [wpOps_cons]
  unfold wpOp
  simp only [ho]
  rw [if_pos (by simp [Region.wanted, hog])]
  refine .inl ?_
  have hrun : (execOp a2.eval o).run P w2 = .halt (.panic (.iface T y)) w2 := by
    unfold execOp
    simp only [hopc, hy]
    rfl
  unfold Oper.wp
  rw [hrun]
  rw [hy] at hev0
  exact ⟨g2.defers, .iface T y, μ2, lim2, rfl, g2.chg, hev0⟩
end Go.Ab

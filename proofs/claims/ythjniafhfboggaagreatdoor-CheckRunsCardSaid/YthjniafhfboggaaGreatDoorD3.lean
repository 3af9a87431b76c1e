/- What an operation of the abstract machine comes to, in the program. No premise but those named. -/
import Derived.Test.YthjniafhfboggaaGreatDoorD2
namespace Go.Ab
open Go

def calleeIs (c : Call) (f : FuncId) : Bool := match c.callee with
  | .value (.func g) => f == g
  | _ => false

/-- Which operands an operation of the program takes, where it is one that the abstract machine's stands for. -/
def fitA (P : Program) (a : A) (op : Op) : Option (List Operand) :=
  match a with
  | .lookup .. | .aggEq .. | .chr | .str | .sliceStr .. => fit2 P a op
  | .build .. | .buildSlice .. | .makeSlice .. | .alloc .. | .box _ | .store _ | .mkMap | .mapSet _ | .mapEntry .. | .entryStore | .allocArr _ => fit3 P a op
  | .sliceS .. | .sliceData | .unsafeStr _ | .indexPtr .. | .slicePtr .. | .clearA .. | .mapDel _ | .capS | .appendZ .. => fit4 P a op
  | .bad => some []
  | .call f _ | .callOwn f | .callNew f | .callF f _ => match op with
    | .call c => if calleeIs c f then some c.args.toList else none
    | _ => none
  | .callv _ => match op with
    | .call c => match c.callee with
      | .value x => some (x :: c.args.toList)
      | _ => none
    | _ => none
  | .append .. | .appendNil .. | .appendB _ | .ptrEq _ | .ptrMov | .bytes | .assertT .. | .assertI .. | .invoke .. => none
  | _ => fit1 P a op

/-- It has no result. -/
def A.bare : A → Bool
  | .store _ | .mapSet _ | .entryStore | .clearA .. | .mapDel _ => true
  | _ => false

/-- The operation's result is X, and what is asked of it is so. -/
def Outcome (P : Program) (o : Oper) (a : Act) (w : World) (R : Value → World → Prop) : Prop :=
  ∀ (K : Act → World → Prop) (Q : Exit → Act → World → Prop), (∀ X w', R X w' → K (a.put o.dst X) w') → o.wp P a w K Q

/-- A result, and what it is made of. -/
def Good (μ : List Nat) (lim : Nat → Nat) (w : World) (σ : St) (x : V) (σ' : St) (X : Value) (w' : World) : Prop :=
  ∃ μ' lim', Chg μ lim w σ μ' lim' w' σ' ∧ RelV μ' lim' w' x X ∧ FreshV w lim' w' x X ∧
    ∀ sz l a n cap, x = .slice .tail sz l → X = .slice (some a) n cap → ∀ id, alive σ' id → μ'[id]? ≠ some a.block

section
variable {P : Program} {μ : List Nat} {lim : Nat → Nat} {w : World} {σ σ' : St} {o : Oper} {a : Act} {xs : List V} {x : V} {call : CallT} {opers : List Operand}

theorem Done.outcome (h : Done P μ lim w σ o a.eval x σ') : Outcome P o a w (Good μ lim w σ x σ') := by
  obtain ⟨nx, X, μ', lim', w', h1, h2, h3, h4, h5, h6⟩ := h
  intro K Q hK
  unfold Oper.wp
  rw [h1]
  rcases h2 with rfl | ⟨rfl, _, rfl⟩
  · exact hK X w' ⟨μ', lim', h3, h4, h5, h6⟩
  · exact hK undef w' ⟨μ', lim', h3, h4, h5, h6⟩

theorem quiet_case (hw : WRel μ lim w σ) (h : σ' = σ ∧ Quiet P μ lim w o a.eval x) : Done P μ lim w σ o a.eval x.erase σ' := by
  obtain ⟨rfl, h⟩ := h
  exact h.done hw

theorem calleeIs_spec {c : Call} {f : FuncId} (h : calleeIs c f = true) : c.callee = .value (.func f) := by
  unfold calleeIs at h
  split at h
  · rename_i hc; rw [hc, eq_of_beq h]
  · cases h

theorem run_call {c : Call} {f : FuncId} {op : Op} (ho : o.op = op) (hop : op = .call c) {y : Operand} {first cap : Array Value} (hc : c.callee = .value y) (hy : a.eval y = .func (.func f) first cap) (he : enters P f = true) :
    (execOp a.eval o).run P w = .ok (.enter f (first ++ c.args.map a.eval ++ cap)) w := by
  subst hop
  unfold execOp
  simp only [ho, resolve, hc, hy, Deferred.ofValue, Sem.run_bind, Sem.run_pure, Result.andThen_ok, invoke, run_callFunc he]

theorem good_call {v : V} {y : Value} {μ' : List Nat} {lim' : Nat → Nat} {w' : World} (h1 : Chg μ lim w σ μ' lim' w' σ') (h2 : RelV μ' lim' w' v y) : Good μ lim w σ v.erase σ' y w' :=
  ⟨μ', lim', h1, relV_erase.2 h2, freshV_erase, fun _ _ _ _ _ he => absurd he erase_ne_tail⟩

theorem call_outcome (hcall : CallOK P call) (ro : Bool) {f : FuncId} {args : List V} (hw : WRel μ lim w σ) (hb : σ.base ≤ σ.objs.length) (ha : callBy call ro f args σ = some (x, σ')) {as : Array Value} (hx : RelVs μ lim w args as.toList)
    (hrun : enters P f = true → (execOp a.eval o).run P w = .ok (.enter f as) w) : Outcome P o a w (Good μ lim w σ x.erase σ') := by
  intro K Q hK
  obtain ⟨he, hc⟩ := (hcall.by ro) f args σ x σ' ha
  unfold Oper.wp
  rw [hrun he]
  refine Calls.mono (hc μ lim w as hw hb hx) fun e w' hr => ?_
  obtain ⟨y, μ', lim', rfl, h1, h2⟩ := hr
  exact hK y w' (good_call h1 h2)

/-- Each operation comes to what the abstract machine says. -/
theorem act_outcome (hcall : CallOK P call) {A0 : A} (hw : WRel μ lim w σ) (hb : σ.base ≤ σ.objs.length) (hf : fitA P A0 o.op = some opers) (hd : A0.bare = true → o.dst = none)
    (hx : RelVs μ lim w xs (opers.map a.eval)) (he : ∀ y ∈ xs, ∃ u : V, y = u.erase) (ha : A.act call A0 xs σ = some (x, σ')) : Outcome P o a w (Good μ lim w σ (if A0.fresh then x else x.erase) σ') := by
  have hρ : ∀ c, a.eval (.const c) = c := fun _ => rfl
  cases A0 with
  | mov => exact (quiet_case hw (q_mov hf hx ha)).outcome
  | lit v =>
    obtain ⟨h1, h2, c, hc, hr⟩ := q_lit (P := P) hf hx hρ ha
    subst h1
    subst h2
    have hfr : (if (A.lit x).fresh = true then x else x.erase) = x := rfl
    rw [hfr]
    refine Done.outcome ⟨_, c, μ, lim, w, hr, .inl rfl, Chg.refl hw, constOK_rel hc, ?_, ?_⟩
    · have := nilLeaf_const hc
      obtain ⟨_, _, _, hna⟩ := constOK_spec hc
      unfold FreshV
      split
      · exact absurd rfl (hna _)
      · unfold FreshLeaf
        unfold NilLeaf at this
        split
        · simp at this
        · trivial
    · intro sz l a n cap hv hcc
      subst hv; subst hcc
      simp [constOK] at hc
  | pick => exact (quiet_case hw (q_pick hf hx ha)).outcome
  | ibin op => exact (quiet_case hw (q_ibin hf hx ha)).outcome
  | shift op => exact (quiet_case hw (q_shift hf hx ha)).outcome
  | sbin op => exact (quiet_case hw (q_sbin hf hx ha)).outcome
  | bbin c => exact (quiet_case hw (q_bbin hf hx ha)).outcome
  | nilp c => exact (quiet_case hw (q_nilp hf hx ha)).outcome
  | nilif c => exact (quiet_case hw (q_nilif hρ hf hx ha)).outcome
  | not => exact (quiet_case hw (q_not hf hx ha)).outcome
  | neg => exact (quiet_case hw (q_neg hf hx ha)).outcome
  | ptrEq c => simp [fitA] at hf
  | ptrMov => simp [fitA] at hf
  | aggEq kd c => exact (quiet_case hw (q_aggEq hf hx ha)).outcome
  | chr => exact (quiet_case hw (q_chr hf hx ha)).outcome
  | sliceData => exact (quiet_case hw (q_sliceData hf hx ha)).outcome
  | capS => exact (quiet_case hw (q_capS hf hx ha)).outcome
  | appendZ sz zero => exact (d_appendZ hw hb hf hx ha).outcome
  | unsafeStr e => exact (d_unsafeStr hw hf hx ha).outcome
  | appendB e => simp [fitA] at hf
  | conv k => exact (quiet_case hw (q_conv hf hx ha)).outcome
  | mkIface t => exact (quiet_case hw (q_mkIface hf hx ha)).outcome
  | mkFunc fn n => exact (quiet_case hw (q_mkFunc hf hx ha)).outcome
  | mkMap => exact (d_mkMap hw hb hρ hf hx ha).outcome
  | lookup kd zero ok => exact (quiet_case hw (q_lookup hw hf hx ha)).outcome
  | mapSet kd => exact (d_mapSet hw (hd rfl) hf hx ha).outcome
  | mapDel kd => exact (d_mapDel hw (hd rfl) hf hx ha).outcome
  | mapEntry kd zero => exact (d_mapEntry hw hf hx ha).outcome
  | entryStore => exact (d_entryStore hw (hd rfl) hf hx ha).outcome
  | build zero ps => exact (d_build hw hf hx ha).outcome
  | buildSlice sz n zero is => exact (d_buildSlice hw hf hx ha).outcome
  | makeSlice zero arr => exact (d_makeSlice hw hb hf hx ha).outcome
  | alloc t0 zero => exact (d_alloc hw hb hf hx ha).outcome
  | box t0 => exact (d_box hw hb hf hx ha).outcome
  | load n agg => exact (quiet_case hw (q_load hw hf hx ha)).outcome
  | loadT t off => exact (quiet_case hw (q_loadT hw hf hx ha)).outcome
  | store n => exact (d_store hw (hd rfl) hf hx ha).outcome
  | nilCheck => exact (quiet_case hw (q_nilCheck hf hx ha)).outcome
  | fieldAddr off => exact (quiet_case hw (q_fieldAddr hf hx ha)).outcome
  | field off n agg => exact (quiet_case hw (q_field hf hx ha)).outcome
  | indexAddr sz => exact (quiet_case hw (q_indexAddr hf hx ha)).outcome
  | indexAgg sz n agg => exact (quiet_case hw (q_indexAgg hf hx ha)).outcome
  | indexStr => exact (quiet_case hw (q_indexStr hf hx ha)).outcome
  | sliceS sz lo hi mx => exact (d_sliceS hw hf hx he ha).outcome
  | sliceStr lo hi => exact (quiet_case hw (q_sliceStr hf hx ha)).outcome
  | len k => exact (quiet_case hw (q_len hw hf hx ha)).outcome
  | append sz arr => simp [fitA] at hf
  | appendNil sz arr => simp [fitA] at hf
  | extract i => exact (quiet_case hw (q_extract hf hx ha)).outcome
  | str => exact (quiet_case hw (q_str hw hf hx ha)).outcome
  | bytes => simp [fitA] at hf
  | assertT t zero ok => simp [fitA] at hf
  | assertI y n z ok => simp [fitA] at hf
  | invoke t ro => simp [fitA] at hf
  | nilsl c => exact (quiet_case hw (q_nilsl hρ hf hx ha)).outcome
  | bad => simp only [A.act] at ha; cases ha
  | imin => exact (quiet_case hw (q_imin hf hx ha)).outcome
  | clearA sz zero => exact (d_clearA hw (hd rfl) hf hx ha).outcome
  | allocArr zero => exact (d_allocArr hw hb hf hx ha).outcome
  | indexPtr sz n => exact (quiet_case hw (q_indexPtr hf hx ha)).outcome
  | slicePtr sz n lo hi => exact (quiet_case hw (q_slicePtr hw hf hx ha)).outcome
  | call f ro =>
    simp only [fitA] at hf
    split at hf
    case h_2 => cases hf
    rename_i c hop
    split at hf
    case isFalse => cases hf
    rename_i hc
    cases hf
    have hcc := calleeIs_spec hc
    simp only [A.act] at ha
    refine call_outcome hcall ro hw hb ha (as := #[] ++ c.args.map a.eval ++ #[]) (by simpa using hx) fun hen => ?_
    exact run_call hop rfl hcc rfl hen
  | callNew f =>
    simp only [fitA] at hf
    split at hf
    case h_2 => cases hf
    rename_i c hop
    split at hf
    case isFalse => cases hf
    rename_i hc
    cases hf
    have hcc := calleeIs_spec hc
    simp only [A.act] at ha
    refine call_outcome hcall.new false hw hb ha (as := #[] ++ c.args.map a.eval ++ #[]) (by simpa using hx) fun hen => ?_
    exact run_call hop rfl hcc rfl hen
  | callF f ks =>
    simp only [fitA] at hf
    split at hf
    case h_2 => cases hf
    rename_i c hop
    split at hf
    case isFalse => cases hf
    rename_i hc
    cases hf
    have hcc := calleeIs_spec hc
    simp only [A.act, actCallF] at ha
    split at ha
    case h_2 => cases ha
    rename_i r s' hcl
    split at ha
    case isFalse => cases ha
    cases ha
    refine call_outcome hcall false hw hb (x := x) (σ' := σ') (by simpa [callBy] using hcl) (as := #[] ++ c.args.map a.eval ++ #[]) (by simpa using hx) fun hen => ?_
    exact run_call hop rfl hcc rfl hen
  | callOwn f =>
    simp only [fitA] at hf
    split at hf
    case h_2 => cases hf
    rename_i c hop
    split at hf
    case isFalse => cases hf
    rename_i hc
    cases hf
    have hcc := calleeIs_spec hc
    simp only [A.act] at ha
    intro K Q hK
    obtain ⟨hen, hcl⟩ := hcall.own ha (args := #[] ++ c.args.map a.eval ++ #[]) hw (by simpa using hx)
    unfold Oper.wp
    rw [run_call hop rfl hcc rfl hen]
    refine Calls.mono hcl fun e w' hr => ?_
    obtain ⟨y, lim', rfl, h1, h2, h3⟩ := hr
    refine hK y w' ⟨μ, lim', h1, h2, h3, ?_⟩
    intro sz l ad n cap hv hy id hal hm
    simp only [A.fresh, if_true] at hv
    subst hv; subst hy
    have hfr : FreshLeaf w lim' w' (.slice .tail sz l) (.slice (some ad) n cap) := h3
    have hσ : σ' = σ := by
      unfold Go.Ab.callOwn at ha
      split at ha
      · split at ha
        · split at ha
          · split at ha
            · cases ha; rfl
            · cases ha
          · cases ha
        · cases ha
      · cases ha
      · cases ha
    rw [hσ] at hal
    have := hw.lt id _ hm
    have := hfr.1
    omega
  | callv ro =>
    simp only [fitA] at hf
    split at hf
    case h_2 => cases hf
    rename_i c hop
    split at hf
    case h_2 => cases hf
    rename_i y hcal
    cases hf
    cases xs with
    | nil => simp only [List.map_cons] at hx; unfold RelVs at hx; exact hx.elim
    | cons v ys =>
      simp only [List.map_cons] at hx
      unfold RelVs at hx
      simp only [A.act, actCallv] at ha
      split at ha
      case h_2 => cases ha
      rename_i f first cap ys' heq
      simp only [List.cons.injEq] at heq
      obtain ⟨rfl, rfl⟩ := heq
      have h1 := hx.1
      unfold RelV at h1
      obtain ⟨f', c', h1, h2, h3⟩ := h1
      refine call_outcome hcall ro hw hb ha (as := f' ++ c.args.map a.eval ++ c') ?_ fun hen => ?_
      · simp only [Array.toList_append, Array.toList_map]
        exact RelVs.append (RelVs.append h2 hx.2) h3
      · exact run_call hop rfl hcal h1 hen
end
end Go.Ab

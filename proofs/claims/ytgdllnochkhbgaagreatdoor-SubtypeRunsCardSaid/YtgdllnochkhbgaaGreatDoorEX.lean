/- The abstract machine's runs are runs of the program. No premise but those named. -/
import Derived.Test.YtgdllnochkhbgaaGreatDoorE4
namespace Go.Ab
open Go

theorem FRel.cond_eval {C : Ctx} (hd : C.dsts = []) {μ : List Nat} {lim : Nat → Nat} {ow : Nat → Owner} {env : List EV} {σ : St} {a : Act} {w : World} (h : FRel C μ lim ow ⟨env, [], σ⟩ a w) {c : Opd} {o : Operand} {b : Bool}
    (hc : opdOK C.slots [] c o = true) (hr : rd env [] c = some (.sc (.bool b))) : a.eval o = .bool b := by
  have := (eval_rel (s := ⟨env, [], σ⟩) h hr (by rw [hd]; exact hc)).1
  exact relSc this

section
variable {P : Program} {C : Ctx} {call : CallT}

theorem exec_sound (hC : C.OK) (hd : C.dsts = []) (hcall : CallOK P call) (fuel : Nat) : ∀ (c : MCode) (code : Code) (env : List EV) (σ : St) (out : Out) (env' : List EV) (σ' : St) (μ : List Nat) (lim : Nat → Nat) (ow : Nat → Owner) (a : Act) (w : World) (Q : Exit → Act → World → Prop),
    exec call fuel c env σ = some (out, env', σ') → codeOK P C.slots C.n c code = true → FRel C μ lim ow ⟨env, [], σ⟩ a w →
    (∀ μ' lim' ow' a' w', FRel C μ' lim' ow' ⟨env', [], σ'⟩ a' w' → Q out.exit' a' w') → code.wp P Q a w := by
  intro c
  induction c with
  | skip =>
    intro code env σ out env' σ' μ lim ow a w Q he hok h hQ
    cases code <;> simp only [codeOK] at hok <;> first | (cases hok; done) | skip
    simp only [exec] at he
    cases he
    exact wp_skip (hQ _ _ _ _ _ h)
  | reg ms =>
    intro code env σ out env' σ' μ lim ow a w Q he hok h hQ
    cases code <;> simp only [codeOK] at hok <;> first | (cases hok; done) | skip
    simp only [exec] at he
    split at he
    · rename_i s hs
      cases he
      exact region_sound hC hd hcall hok h hs hQ
    · cases he
  | seq x y ihx ihy =>
    intro code env σ out env' σ' μ lim ow a w Q he hok h hQ
    cases code <;> simp only [codeOK] at hok <;> first | (cases hok; done) | skip
    simp only [Bool.and_eq_true] at hok
    simp only [exec] at he
    split at he
    · rename_i env1 σ1 h1
      refine wp_seq (ihx _ env σ .norm env1 σ1 μ lim ow a w _ h1 hok.1 h fun μ' lim' ow' a' w' h' => ?_)
      exact ihy _ env1 σ1 out env' σ' μ' lim' ow' a' w' Q he hok.2 h' hQ
    · rename_i hne
      refine wp_seq (ihx _ env σ out env' σ' μ lim ow a w _ he hok.1 h fun μ' lim' ow' a' w' h' => ?_)
      cases out with
      | norm => exact absurd he (hne _ _)
      | exit id => exact hQ _ _ _ _ _ h'
      | ret => exact hQ _ _ _ _ _ h'
  | cond c x y ihx ihy =>
    intro code env σ out env' σ' μ lim ow a w Q he hok h hQ
    cases code <;> simp only [codeOK] at hok <;> first | (cases hok; done) | skip
    simp only [Bool.and_eq_true] at hok
    simp only [exec] at he
    split at he
    · rename_i hr
      exact wp_cond_true (h.cond_eval hd hok.1.1 hr) (ihx _ env σ out env' σ' μ lim ow a w Q he hok.1.2 h hQ)
    · rename_i hr
      exact wp_cond_false (h.cond_eval hd hok.1.1 hr) (ihy _ env σ out env' σ' μ lim ow a w Q he hok.2 h hQ)
    · cases he
  | block id b ih =>
    intro code env σ out env' σ' μ lim ow a w Q he hok h hQ
    cases code <;> simp only [codeOK] at hok <;> first | (cases hok; done) | skip
    simp only [Bool.and_eq_true, beq_iff_eq] at hok
    obtain ⟨rfl, hok⟩ := hok
    simp only [exec] at he
    split at he
    · rename_i id' env1 σ1 h1
      cases he
      refine wp_block (ih _ env σ (.exit id') _ _ μ lim ow a w _ h1 hok h fun μ' lim' ow' a' w' h' => ?_)
      have := hQ _ _ _ _ _ h'
      simp only [Out.exit', Exit.inBlock]
      split
      · rename_i hid; rw [if_pos hid] at this; exact this
      · rename_i hid; rw [if_neg hid] at this; exact this
    · rename_i hne
      refine wp_block (ih _ env σ out env' σ' μ lim ow a w _ he hok h fun μ' lim' ow' a' w' h' => ?_)
      cases out with
      | norm => exact hQ _ _ _ _ _ h'
      | exit id' => exact absurd he (hne _ _ _)
      | ret => exact hQ _ _ _ _ _ h'
  | loop b ih =>
    intro code env σ out env' σ' μ lim ow a w Q he hok h hQ
    cases code <;> simp only [codeOK] at hok <;> first | (cases hok; done) | skip
    rename_i y
    simp only [exec] at he
    refine loop_of ?_
    have key : ∀ (n : Nat) (env : List EV) (σ : St) (μ : List Nat) (lim : Nat → Nat) (ow : Nat → Owner) (a : Act) (w : World), iter n (fun e s => exec call fuel b e s) env σ = some (out, env', σ') → FRel C μ lim ow ⟨env, [], σ⟩ a w → inLoopWp P y Q a w := by
      intro n
      induction n with
      | zero => intro env σ μ lim ow a w he; simp [iter] at he
      | succ n ihn =>
        intro env σ μ lim ow a w he h
        simp only [iter] at he
        split at he
        · rename_i env1 σ1 h1
          refine inLoop_step (ih _ env σ .norm env1 σ1 μ lim ow a w _ h1 hok h fun μ' lim' ow' a' w' h' => ?_)
          exact ihn env1 σ1 μ' lim' ow' a' w' he h'
        · rename_i hne
          refine inLoop_step (ih _ env σ out env' σ' μ lim ow a w _ he hok h fun μ' lim' ow' a' w' h' => ?_)
          cases out with
          | norm => exact absurd he (hne _ _)
          | exit id => exact hQ _ _ _ _ _ h'
          | ret => exact hQ _ _ _ _ _ h'
    exact key fuel env σ μ lim ow a w he h
  | exit id =>
    intro code env σ out env' σ' μ lim ow a w Q he hok h hQ
    cases code <;> simp only [codeOK] at hok <;> first | (cases hok; done) | skip
    have := eq_of_beq hok
    subst this
    simp only [exec] at he
    cases he
    exact wp_exit (hQ _ _ _ _ _ h)
  | ret =>
    intro code env σ out env' σ' μ lim ow a w Q he hok h hQ
    cases code <;> simp only [codeOK] at hok <;> first | (cases hok; done) | skip
    simp only [exec] at he
    cases he
    exact wp_ret (hQ _ _ _ _ _ h)

/-! ## functions -/

def resOK (P : Program) (slots : List Tmp) : MRes → ResultVar → Bool
  | .slot i, .tmp t => slots[i]? == some t
  | .box i n agg, .cell u t => slots[i]? == some u && isSize P t n && isAggB P t agg
  | _, _ => false
def ressOK (P : Program) (slots : List Tmp) : List MRes → List ResultVar → Bool
  | [], [] => true
  | x :: xs, y :: ys => resOK P slots x y && ressOK P slots xs ys
  | _, _ => false

def nodupB : List Tmp → Bool
  | [] => true
  | t :: l => !l.contains t && nodupB l
theorem nodupB_spec : ∀ {l : List Tmp}, nodupB l = true → l.Nodup
  | [], _ => List.nodup_nil
  | t :: l, h => by
    simp only [nodupB, Bool.and_eq_true, Bool.not_eq_true', List.contains_eq_mem, decide_eq_false_iff_not] at h
    exact List.nodup_cons.2 ⟨h.1, nodupB_spec h.2⟩

/-- Does the abstract machine's function stand for the program's? -/
def funcOK (P : Program) (m : MFunc) (fn : Func) : Bool := match fn.body with
  | some c => codeOK P m.slots fn.ntmps m.body c && nodupB m.slots && m.slots.all (· < fn.ntmps) && decide (m.nargs ≤ fn.ntmps) && ressOK P m.slots m.res fn.results.toList && fn.name != "runtime.NumGoroutine"
  | none => false

theorem results_rel {μ : List Nat} {lim : Nat → Nat} {ow : Nat → Owner} {env : List EV} {σ : St} {a : Act} {w : World} (h : FRel C μ lim ow ⟨env, [], σ⟩ a w) : ∀ (ms : List MRes) (rs : List ResultVar) (vs : List V), ressOK P C.slots ms rs = true → getAll env ms = some vs →
    ∃ ys : List Value, (rs.mapM fun r => (match r with
      | .tmp t => pure (a.tmps.getD t undef)
      | .cell u t => (do loadVar t (← asAddr (a.tmps.getD u undef))) : Sem Value)).run P w = .ok ys w ∧ RelVs μ lim w vs ys
  | [], [], vs, _, hg => by simp only [getAll] at hg; cases hg; exact ⟨[], by simp, by unfold RelVs; trivial⟩
  | [], _ :: _, _, hok, _ => by simp [ressOK] at hok
  | _ :: _, [], _, hok, _ => by simp [ressOK] at hok
  | m :: ms, r :: rs, vs, hok, hg => by
    simp only [ressOK, Bool.and_eq_true] at hok
    simp only [getAll] at hg
    split at hg
    · cases hg
    · rename_i x hx
      split at hg
      · cases hg
      · rename_i xs hxs
        cases hg
        obtain ⟨ys, h1, h2⟩ := results_rel h ms rs xs hok.2 hxs
        have hone : ∃ y, (match r with
            | .tmp t => pure (a.tmps.getD t undef)
            | .cell u t => (do loadVar t (← asAddr (a.tmps.getD u undef))) : Sem Value).run P w = .ok y w ∧ RelV μ lim w x y := by
          cases m with
          | slot i =>
            cases r with
            | cell u t => simp [resOK] at hok
            | tmp t =>
              have hs : C.slots[i]? = some t := eq_of_beq hok.1
              simp only [MRes.get] at hx
              split at hx
              · rename_i v hv
                cases hx
                obtain ⟨X, k1, k2⟩ := h.env i _ t hv hs
                exact ⟨X, by simp [getD_some k1], relV_erase.2 k2.1⟩
              · cases hx
          | box i n agg =>
            cases r with
            | tmp t => simp [resOK] at hok
            | cell u t =>
              have hok1 := hok.1
              simp only [resOK, Bool.and_eq_true, beq_iff_eq] at hok1
              simp only [MRes.get] at hx
              split at hx
              · rename_i cs hcs
                cases hp : Go.Ab.part cs 0 n agg with
                | none => simp [hp] at hx
                | some v =>
                  simp [hp] at hx
                  obtain ⟨u', b, c, ty, k1, k2, k3, k4, k5, k6, _⟩ := h.box hcs
                  rw [hok1.1.1] at k1; cases k1
                  obtain ⟨X, hX, hr, _⟩ := run_loadBox (P := P) hp k3 k6 hok1.1.2 hok1.2
                  refine ⟨X, ?_, by rw [← hx]; exact relV_erase.2 hr⟩
                  simp only [Instr.loadAt, Instr.sureAddr, Sem.run_bind, Sem.run_pure, Result.andThen_ok] at hX
                  simp only [getD_some k2, asAddr, Sem.run_bind, Sem.run_pure, Result.andThen_ok, hX]
              · cases hx
        obtain ⟨y, h3, h4⟩ := hone
        refine ⟨y :: ys, ?_, by unfold RelVs; exact ⟨h4, h2⟩⟩
        rw [List.mapM_cons]
        simp only [Sem.run_bind, h3, Result.andThen_ok, h1, Sem.run_pure]
end
end Go.Ab

namespace Go.Ab
open Go

theorem relVs_tupled {μ : List Nat} {lim : Nat → Nat} {w : World} {vs : List V} {ys : List Value} (h : RelVs μ lim w vs ys) : RelV μ lim w (tupled vs) (if hs : ys.toArray.size = 1 then ys.toArray[0] else .tuple ys.toArray) := by
  match vs, ys, h with
  | [v], [y], h => unfold RelVs at h; simpa [tupled] using h.1
  | [], [], h => simp [tupled]; unfold RelV; exact ⟨_, rfl, h⟩
  | v :: u :: vs, y :: z :: ys, h => simp [tupled]; unfold RelV; exact ⟨_, rfl, by simpa using h⟩
  | [], _ :: _, h => unfold RelVs at h; exact h.elim
  | _ :: _, [], h => unfold RelVs at h; exact h.elim
  | [_], _ :: _ :: _, h => unfold RelVs at h; have := h.2; unfold RelVs at this; exact this.elim
  | _ :: _ :: _, [_], h => unfold RelVs at h; have := h.2; unfold RelVs at this; exact this.elim

theorem func_sound {P : Program} {call : CallT} (hcall : CallOK P call) {m : MFunc} {f : FuncId} {fn : Func} (hf : P.funcs[f]? = some fn) (hok : funcOK P m fn = true) {fuel : Nat} {xs : List V} {σ : St} {v : V} {σ' : St} (hr : m.run call fuel xs σ = some (v, σ')) :
    enters P f = true ∧ ∀ (μ : List Nat) (lim : Nat → Nat) (w : World) (args : Array Value), WRel μ lim w σ → σ.base ≤ σ.objs.length → RelVs μ lim w xs args.toList →
      Calls P f args w fun e w' => ∃ y μ' lim', e = .returned y ∧ Chg μ lim w σ μ' lim' w' σ' ∧ RelV μ' lim' w' v y := by
  unfold funcOK at hok
  split at hok
  case h_2 => cases hok
  rename_i c hc
  simp only [Bool.and_eq_true, decide_eq_true_eq, bne_iff_ne] at hok
  obtain ⟨⟨⟨⟨⟨hcode, hnd⟩, hlt⟩, hna⟩, hres⟩, hname⟩ := hok
  refine ⟨by simp [enters, hf, hc, hname], fun μ lim w args hw hb hx => ?_⟩
  unfold MFunc.run at hr
  split at hr
  case isFalse => cases hr
  rename_i hargs
  have hasz : args.size = m.nargs := by rw [← hargs, hx.length]; simp
  let C : Ctx := ⟨m.slots, [], fn.ntmps, μ, lim, w, σ⟩
  have hltn : ∀ t ∈ m.slots, t < fn.ntmps := fun t ht => by simpa using List.all_eq_true.1 hlt t ht
  have hC : C.OK := ⟨nodupB_spec hnd, hltn, fun j t h => by simp [C] at h, fun i j t h => by simp [C] at h⟩
  let a : Act := { tmps := args ++ Array.replicate (fn.ntmps - args.size) undef, defers := [] }
  have hstart : FRel C μ lim (fun _ => .free) ⟨m.start xs, [], σ⟩ a w := by
    refine ⟨Chg.refl hw, hb, by simp [a, C]; omega, by simp [MFunc.start, C], ?_, rfl, fun j v t hv _ => by simp at hv, fun _ _ _ _ => rfl, fun _ _ => rfl, fun _ _ => rfl, rfl⟩
    intro i e t he ht
    simp only [MFunc.start, List.getElem?_map, Option.map_eq_some_iff] at he
    obtain ⟨t', ht', rfl⟩ := he
    have : C.slots[i]? = some t' := ht'
    rw [ht] at this
    cases this
    have htn := hltn t (List.mem_of_getElem? ht')
    rcases Nat.lt_or_ge t args.size with hlt2 | hge
    · have hxt : xs[t]? = some xs[t] := List.getElem?_eq_getElem (by rw [hargs, ← hasz]; exact hlt2)
      refine ⟨args[t], by simp [a, Array.getElem?_append_left hlt2, hlt2], ?_, ownV_erase⟩
      rw [List.getD_eq_getElem?_getD, hxt]
      exact relV_erase.2 (hx.get' hxt (by rw [Array.getElem?_toList]; exact Array.getElem?_eq_getElem hlt2))
    · have hxt : xs[t]? = none := List.getElem?_eq_none (by rw [hargs, ← hasz]; exact hge)
      refine ⟨undef, ?_, ?_, ownV_erase⟩
      · show (args ++ Array.replicate (fn.ntmps - args.size) undef)[t]? = some undef
        rw [Array.getElem?_append_right hge, Array.getElem?_replicate, if_pos (Nat.sub_lt_sub_right hge htn)]
      · rw [List.getD_eq_getElem?_getD, hxt]
        exact relV_erase.2 rel_undef
  refine calls_of_wp hf hc ?_
  have hfin : ∀ (out : Out) (env' : List EV), (out = .norm ∨ out = .ret) → exec call fuel m.body (m.start xs) σ = some (out, env', σ') → (∃ rs, getAll env' m.res = some rs ∧ tupled rs = v) →
      c.wp P (bodyPost P fn fun e w' => ∃ y μ' lim', e = .returned y ∧ Chg μ lim w σ μ' lim' w' σ' ∧ RelV μ' lim' w' v y) a w := by
    intro out env' hout hex hrs
    obtain ⟨rs, hrs, rfl⟩ := hrs
    refine exec_sound hC rfl hcall fuel m.body c _ σ out env' σ' μ lim _ a w _ hex hcode hstart fun μ' lim' ow' a' w' h' => ?_
    have hpost : a'.defers = [] ∧ ∃ y, (results fn a'.tmps).run P w' = .ok y w' ∧ ∃ y0 μ' lim', Ending.returned y = .returned y0 ∧ Chg μ lim w σ μ' lim' w' σ' ∧ RelV μ' lim' w' (tupled rs) y0 := by
      refine ⟨h'.defers, ?_⟩
      obtain ⟨ys, h1, h2⟩ := results_rel (P := P) h' m.res fn.results.toList rs hres hrs
      refine ⟨if hs : ys.toArray.size = 1 then ys.toArray[0] else .tuple ys.toArray, ?_, _, μ', lim', rfl, h'.chg, relVs_tupled h2⟩
      unfold results
      rw [Array.mapM_eq_mapM_toList]
      simp only [Sem.run_bind, Sem.run_map]
      generalize hg : (List.mapM (m := Sem) _ fn.results.toList) = mm
      have h1' : mm.run P w' = .ok ys w' := by rw [← hg]; exact h1
      rw [h1']
      rfl
    rcases hout with rfl | rfl
    · exact hpost
    · exact hpost
  split at hr
  · rename_i env' σ1 hex
    cases hg : getAll env' m.res with
    | none => simp [hg] at hr
    | some rs =>
      simp [hg] at hr
      obtain ⟨rfl, rfl⟩ := hr
      exact hfin .norm env' (.inl rfl) hex ⟨rs, hg, rfl⟩
  · rename_i env' σ1 hex
    cases hg : getAll env' m.res with
    | none => simp [hg] at hr
    | some rs =>
      simp [hg] at hr
      obtain ⟨rfl, rfl⟩ := hr
      exact hfin .ret env' (.inr rfl) hex ⟨rs, hg, rfl⟩
  · cases hr

/-- A function of the machine says what the program's does, whatever is known of calls, if that is so. -/
def FuncSound (P : Program) (f : FuncId) (m : MFunc) : Prop :=
  ∀ {call : CallT}, CallOK P call → ∀ {fuel : Nat} {xs : List V} {σ : St} {v : V} {σ' : St}, m.run call fuel xs σ = some (v, σ') →
    enters P f = true ∧ ∀ (μ : List Nat) (lim : Nat → Nat) (w : World) (args : Array Value), WRel μ lim w σ → σ.base ≤ σ.objs.length → RelVs μ lim w xs args.toList →
      Calls P f args w fun e w' => ∃ y μ' lim', e = .returned y ∧ Chg μ lim w σ μ' lim' w' σ' ∧ RelV μ' lim' w' v y
theorem funcSound_of {P : Program} {m : MFunc} {f : FuncId} {fn : Func} (hf : P.funcs[f]? = some fn) (hok : funcOK P m fn = true) : FuncSound P f m :=
  fun hcall _ _ _ _ _ hr => func_sound hcall hf hok hr

/-- The machine's functions stand for the program's; what is known is so. -/
structure Fits (P : Program) (F : Funcs) (Kn : Known) : Prop where
  funcs : ∀ f m, F f = some m → FuncSound P f m
  known : CallOK P Kn

theorem callN_sound {P : Program} {F : Funcs} {Kn : Known} (h : Fits P F Kn) : ∀ n, CallOK P (callN F Kn n)
  | 0 => fun f xs σ v σ' hv => by simp [callN] at hv
  | n + 1 => fun f xs σ v σ' hv => by
    simp only [callN] at hv
    split at hv
    · rename_i r hr
      cases hv
      exact h.known f xs σ v σ' hr
    · split at hv
      · rename_i m hm
        exact h.funcs f m hm (callN_sound h n) hv
      · cases hv
end Go.Ab

namespace Go.Ab
open Go

/-- All of the check but the regions. -/
def skelOK (slots : List Tmp) : MCode → Code → Bool
  | .skip, .skip => true
  | .reg _, .region _ _ _ => true
  | .seq a b, .seq x y => skelOK slots a x && skelOK slots b y
  | .cond c a b, .cond o x y => opdOK slots [] c o && skelOK slots a x && skelOK slots b y
  | .block i b, .block j y => i == j && skelOK slots b y
  | .loop b, .loop y => skelOK slots b y
  | .exit i, .exit j => i == j
  | .ret, .ret => true
  | _, _ => false

def leaves : MCode → Code → List (List MOper × Array Oper × Bool)
  | .reg ms, .region _ ops drawn => [(ms, ops, drawn)]
  | .seq a b, .seq x y => leaves a x ++ leaves b y
  | .cond _ a b, .cond _ x y => leaves a x ++ leaves b y
  | .block _ b, .block _ y => leaves b y
  | .loop b, .loop y => leaves b y
  | _, _ => []

theorem codeOK_of {P : Program} {slots : List Tmp} {n : Nat} : ∀ (c : MCode) (x : Code), skelOK slots c x = true → (leaves c x).all (fun l => regOK P slots n l.1 l.2.1 l.2.2) = true → codeOK P slots n c x = true := by
  intro c
  induction c with
  | skip => intro x h _; cases x <;> simp_all [skelOK, codeOK]
  | reg ms => intro x h hl; cases x <;> simp_all [skelOK, codeOK, leaves]
  | seq a b iha ihb =>
    intro x h hl
    cases x <;> simp only [skelOK] at h <;> first | (cases h; done) | skip
    simp only [Bool.and_eq_true] at h
    simp only [leaves, List.all_append, Bool.and_eq_true] at hl
    simp only [codeOK, Bool.and_eq_true]
    exact ⟨iha _ h.1 hl.1, ihb _ h.2 hl.2⟩
  | cond o a b iha ihb =>
    intro x h hl
    cases x <;> simp only [skelOK] at h <;> first | (cases h; done) | skip
    simp only [Bool.and_eq_true] at h
    simp only [leaves, List.all_append, Bool.and_eq_true] at hl
    simp only [codeOK, Bool.and_eq_true]
    exact ⟨⟨h.1.1, iha _ h.1.2 hl.1⟩, ihb _ h.2 hl.2⟩
  | block i b ih =>
    intro x h hl
    cases x <;> simp only [skelOK] at h <;> first | (cases h; done) | skip
    simp only [Bool.and_eq_true] at h
    simp only [leaves] at hl
    simp only [codeOK, Bool.and_eq_true]
    exact ⟨h.1, ih _ h.2 hl⟩
  | loop b ih =>
    intro x h hl
    cases x <;> simp only [skelOK] at h <;> first | (cases h; done) | skip
    simp only [leaves] at hl
    simp only [codeOK]
    exact ih _ h hl
  | exit i => intro x h _; cases x <;> simp_all [skelOK, codeOK]
  | ret => intro x h _; cases x <;> simp_all [skelOK, codeOK]

/-- Regions from one place on, so many of them. -/
def regsOK (P : Program) (m : MFunc) (fn : Func) (from_ many : Nat) : Bool := match fn.body with
  | some c => (((leaves m.body c).drop from_).take many).all fun l => regOK P m.slots fn.ntmps l.1 l.2.1 l.2.2
  | none => false
def restOK (P : Program) (m : MFunc) (fn : Func) (many : Nat) : Bool := match fn.body with
  | some c => skelOK m.slots m.body c && decide ((leaves m.body c).length ≤ many) && nodupB m.slots && m.slots.all (· < fn.ntmps) && decide (m.nargs ≤ fn.ntmps) && ressOK P m.slots m.res fn.results.toList && fn.name != "runtime.NumGoroutine"
  | none => false

theorem regsOK_join {P : Program} {m : MFunc} {fn : Func} {a b c : Nat} (h1 : regsOK P m fn a b = true) (h2 : regsOK P m fn (a + b) c = true) : regsOK P m fn a (b + c) = true := by
  unfold regsOK at *
  split
  · rename_i x hx
    simp only [hx] at h1 h2
    rw [List.all_eq_true] at *
    intro l hl
    obtain ⟨i, hi⟩ := List.getElem?_of_mem hl
    rw [List.getElem?_take] at hi
    split at hi
    case isFalse => cases hi
    rename_i hib
    by_cases h : i < b
    · exact h1 l (List.mem_of_getElem? (i := i) (by rw [List.getElem?_take_of_lt h]; exact hi))
    · refine h2 l (List.mem_of_getElem? (i := i - b) ?_)
      rw [List.getElem?_take_of_lt (by omega), List.getElem?_drop]
      rw [List.getElem?_drop] at hi
      rw [← hi]; congr 1; omega
  · rename_i hx
    simp [hx] at h1

theorem funcOK_of {P : Program} {m : MFunc} {fn : Func} {many : Nat} (h1 : restOK P m fn many = true) (h2 : regsOK P m fn 0 many = true) : funcOK P m fn = true := by
  unfold restOK at h1
  unfold regsOK at h2
  unfold funcOK
  split at h1
  case h_2 => cases h1
  rename_i c hc
  simp only [hc] at h2 ⊢
  simp only [Bool.and_eq_true, decide_eq_true_eq] at h1
  obtain ⟨⟨⟨⟨⟨⟨q1, q2⟩, q3⟩, q4⟩, q5⟩, q6⟩, q7⟩ := h1
  rw [List.drop_zero, List.take_of_length_le q2] at h2
  simp only [Bool.and_eq_true, decide_eq_true_eq]
  exact ⟨⟨⟨⟨⟨codeOK_of _ _ q1 h2, q3⟩, q4⟩, q5⟩, q6⟩, q7⟩
end Go.Ab

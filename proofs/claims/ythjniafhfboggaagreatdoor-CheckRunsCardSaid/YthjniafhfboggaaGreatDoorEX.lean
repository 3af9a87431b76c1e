/- The abstract machine's runs are runs of the program. No premise but those named. -/
import Derived.Test.YthjniafhfboggaaGreatDoorE4
import Derived.Defers
namespace Go.Ab
open Go

theorem FRel.cond_eval {C : Ctx} (hd : C.dsts = []) {μ : List Nat} {lim : Nat → Nat} {ow : Nat → Owner} {env : List EV} {σ : St} {a : Act} {w : World} (h : FRel C μ lim ow ⟨env, [], σ⟩ a w) {c : Opd} {o : Operand} {b : Bool}
    (hc : opdOK C.slots [] c o = true) (hr : rd env [] c = some (.sc (.bool b))) : a.eval o = .bool b := by
  have := (eval_rel (s := ⟨env, [], σ⟩) h hr (by rw [hd]; exact hc)).1
  exact relSc this

section
variable {P : Program} {C : Ctx} {call : CallT}

theorem exec_sound (hC : C.OK) (hd : C.dsts = []) (hcall : CallOK P call) (fuel : Nat) : ∀ (c : MCode) (code : Code) (env : List EV) (σ : St) (out : Out) (env' : List EV) (σ' : St) (μ : List Nat) (lim : Nat → Nat) (ow : Nat → Owner) (a : Act) (w : World) (Q : Exit → Act → World → Prop),
    exec call fuel c env σ = some (out, env', σ') → codeOK P C.slots C.n c code = true → FRel C μ lim ow ⟨env, [], σ⟩ a w →
    (∀ μ' lim' ow' a' w', FRel C μ' lim' ow' ⟨env', [], σ'⟩ a' w' → Q out.exit' a' w') → code.wp P Q a w := by
  intro c
  induction c with
  | skip =>
    intro code env σ out env' σ' μ lim ow a w Q he hok h hQ
    cases code <;> simp only [codeOK] at hok <;> first | (cases hok; done) | skip
    simp only [exec] at he
    cases he
    exact wp_skip (hQ _ _ _ _ _ h)
  | reg ms =>
    intro code env σ out env' σ' μ lim ow a w Q he hok h hQ
    cases code <;> simp only [codeOK] at hok <;> first | (cases hok; done) | skip
    simp only [exec] at he
    split at he
    · rename_i s hs
      cases he
      exact region_sound hC hd hcall hok h hs hQ
    · cases he
  | seq x y ihx ihy =>
    intro code env σ out env' σ' μ lim ow a w Q he hok h hQ
    cases code <;> simp only [codeOK] at hok <;> first | (cases hok; done) | skip
    simp only [Bool.and_eq_true] at hok
    simp only [exec] at he
    split at he
    · rename_i env1 σ1 h1
      refine wp_seq (ihx _ env σ .norm env1 σ1 μ lim ow a w _ h1 hok.1 h fun μ' lim' ow' a' w' h' => ?_)
      exact ihy _ env1 σ1 out env' σ' μ' lim' ow' a' w' Q he hok.2 h' hQ
    · rename_i hne
      refine wp_seq (ihx _ env σ out env' σ' μ lim ow a w _ he hok.1 h fun μ' lim' ow' a' w' h' => ?_)
      cases out with
      | norm => exact absurd he (hne _ _)
      | exit id => exact hQ _ _ _ _ _ h'
      | ret => exact hQ _ _ _ _ _ h'
  | cond c x y ihx ihy =>
    intro code env σ out env' σ' μ lim ow a w Q he hok h hQ
    cases code <;> simp only [codeOK] at hok <;> first | (cases hok; done) | skip
    simp only [Bool.and_eq_true] at hok
    simp only [exec] at he
    split at he
    · rename_i hr
      exact wp_cond_true (h.cond_eval hd hok.1.1 hr) (ihx _ env σ out env' σ' μ lim ow a w Q he hok.1.2 h hQ)
    · rename_i hr
      exact wp_cond_false (h.cond_eval hd hok.1.1 hr) (ihy _ env σ out env' σ' μ lim ow a w Q he hok.2 h hQ)
    · cases he
  | block id b ih =>
    intro code env σ out env' σ' μ lim ow a w Q he hok h hQ
    cases code <;> simp only [codeOK] at hok <;> first | (cases hok; done) | skip
    simp only [Bool.and_eq_true, beq_iff_eq] at hok
    obtain ⟨rfl, hok⟩ := hok
    simp only [exec] at he
    split at he
    · rename_i id' env1 σ1 h1
      cases he
      refine wp_block (ih _ env σ (.exit id') _ _ μ lim ow a w _ h1 hok h fun μ' lim' ow' a' w' h' => ?_)
      have := hQ _ _ _ _ _ h'
      simp only [Out.exit', Exit.inBlock]
      split
      · rename_i hid; rw [if_pos hid] at this; exact this
      · rename_i hid; rw [if_neg hid] at this; exact this
    · rename_i hne
      refine wp_block (ih _ env σ out env' σ' μ lim ow a w _ he hok h fun μ' lim' ow' a' w' h' => ?_)
      cases out with
      | norm => exact hQ _ _ _ _ _ h'
      | exit id' => exact absurd he (hne _ _ _)
      | ret => exact hQ _ _ _ _ _ h'
  | loop b ih =>
    intro code env σ out env' σ' μ lim ow a w Q he hok h hQ
    cases code <;> simp only [codeOK] at hok <;> first | (cases hok; done) | skip
    rename_i y
    simp only [exec] at he
    refine loop_of ?_
    have key : ∀ (n : Nat) (env : List EV) (σ : St) (μ : List Nat) (lim : Nat → Nat) (ow : Nat → Owner) (a : Act) (w : World), iter n (fun e s => exec call fuel b e s) env σ = some (out, env', σ') → FRel C μ lim ow ⟨env, [], σ⟩ a w → inLoopWp P y Q a w := by
      intro n
      induction n with
      | zero => intro env σ μ lim ow a w he; simp [iter] at he
      | succ n ihn =>
        intro env σ μ lim ow a w he h
        simp only [iter] at he
        split at he
        · rename_i env1 σ1 h1
          refine inLoop_step (ih _ env σ .norm env1 σ1 μ lim ow a w _ h1 hok h fun μ' lim' ow' a' w' h' => ?_)
          exact ihn env1 σ1 μ' lim' ow' a' w' he h'
        · rename_i hne
          refine inLoop_step (ih _ env σ out env' σ' μ lim ow a w _ he hok h fun μ' lim' ow' a' w' h' => ?_)
          cases out with
          | norm => exact absurd he (hne _ _)
          | exit id => exact hQ _ _ _ _ _ h'
          | ret => exact hQ _ _ _ _ _ h'
    exact key fuel env σ μ lim ow a w he h
  | exit id =>
    intro code env σ out env' σ' μ lim ow a w Q he hok h hQ
    cases code <;> simp only [codeOK] at hok <;> first | (cases hok; done) | skip
    have := eq_of_beq hok
    subst this
    simp only [exec] at he
    cases he
    exact wp_exit (hQ _ _ _ _ _ h)
  | ret =>
    intro code env σ out env' σ' μ lim ow a w Q he hok h hQ
    cases code <;> simp only [codeOK] at hok <;> first | (cases hok; done) | skip
    simp only [exec] at he
    cases he
    exact wp_ret (hQ _ _ _ _ _ h)

/-! ## functions -/

def resOK (P : Program) (slots : List Tmp) : MRes → ResultVar → Bool
  | .slot i, .tmp t => slots[i]? == some t
  | .box i n agg, .cell u t => slots[i]? == some u && isSize P t n && isAggB P t agg
  | .ptr i n agg, .cell u t => slots[i]? == some u && isSize P t n && isAggB P t agg
  | _, _ => false
def ressOK (P : Program) (slots : List Tmp) : List MRes → List ResultVar → Bool
  | [], [] => true
  | x :: xs, y :: ys => resOK P slots x y && ressOK P slots xs ys
  | _, _ => false

def nodupB : List Tmp → Bool
  | [] => true
  | t :: l => !l.contains t && nodupB l
theorem nodupB_spec : ∀ {l : List Tmp}, nodupB l = true → l.Nodup
  | [], _ => List.nodup_nil
  | t :: l, h => by
    simp only [nodupB, Bool.and_eq_true, Bool.not_eq_true', List.contains_eq_mem, decide_eq_false_iff_not] at h
    exact List.nodup_cons.2 ⟨h.1, nodupB_spec h.2⟩

/-- Does the abstract machine's function stand for the program's? -/
def funcOK (P : Program) (m : MFunc) (fn : Func) : Bool := match fn.body with
  | some c => codeOK P m.slots fn.ntmps m.body c && nodupB m.slots && m.slots.all (· < fn.ntmps) && decide (m.nargs ≤ fn.ntmps) && ressOK P m.slots m.res fn.results.toList && fn.name != "runtime.NumGoroutine"
  | none => false

theorem results_rel {μ : List Nat} {lim : Nat → Nat} {ow : Nat → Owner} {env : List EV} {σ : St} {a : Act} {w : World} (h : FRel C μ lim ow ⟨env, [], σ⟩ a w) : ∀ (ms : List MRes) (rs : List ResultVar) (vs : List V), ressOK P C.slots ms rs = true → getAll env σ ms = some vs →
    ∃ ys : List Value, (rs.mapM fun r => (match r with
      | .tmp t => pure (a.tmps.getD t undef)
      | .cell u t => (do loadVar t (← asAddr (a.tmps.getD u undef))) : Sem Value)).run P w = .ok ys w ∧ RelVs μ lim w vs ys
  | [], [], vs, _, hg => by simp only [getAll] at hg; cases hg; exact ⟨[], by simp, by unfold RelVs; trivial⟩
  | [], _ :: _, _, hok, _ => by simp [ressOK] at hok
  | _ :: _, [], _, hok, _ => by simp [ressOK] at hok
  | m :: ms, r :: rs, vs, hok, hg => by
    simp only [ressOK, Bool.and_eq_true] at hok
    simp only [getAll] at hg
    split at hg
    · cases hg
    · rename_i x hx
      split at hg
      · cases hg
      · rename_i xs hxs
        cases hg
        obtain ⟨ys, h1, h2⟩ := results_rel h ms rs xs hok.2 hxs
        have hone : ∃ y, (match r with
            | .tmp t => pure (a.tmps.getD t undef)
            | .cell u t => (do loadVar t (← asAddr (a.tmps.getD u undef))) : Sem Value).run P w = .ok y w ∧ RelV μ lim w x y := by
          cases m with
          | slot i =>
            cases r with
            | cell u t => simp [resOK] at hok
            | tmp t =>
              have hs : C.slots[i]? = some t := eq_of_beq hok.1
              simp only [MRes.get] at hx
              split at hx
              · rename_i v hv
                cases hx
                obtain ⟨X, k1, k2⟩ := h.env i _ t hv hs
                exact ⟨X, by simp [getD_some k1], relV_erase.2 k2.1⟩
              · cases hx
          | box i n agg =>
            cases r with
            | tmp t => simp [resOK] at hok
            | cell u t =>
              have hok1 := hok.1
              simp only [resOK, Bool.and_eq_true, beq_iff_eq] at hok1
              simp only [MRes.get] at hx
              split at hx
              · rename_i cs hcs
                cases hp : Go.Ab.part cs 0 n agg with
                | none => simp [hp] at hx
                | some v =>
                  simp [hp] at hx
                  obtain ⟨u', b, c, ty, k1, k2, k3, k4, k5, k6, _⟩ := h.box hcs
                  rw [hok1.1.1] at k1; cases k1
                  obtain ⟨X, hX, hr, _⟩ := run_loadBox (P := P) hp k3 k6 hok1.1.2 hok1.2
                  refine ⟨X, ?_, by rw [← hx]; exact relV_erase.2 hr⟩
                  simp only [Instr.loadAt, Instr.sureAddr, Sem.run_bind, Sem.run_pure, Result.andThen_ok] at hX
                  simp only [getD_some k2, asAddr, Sem.run_bind, Sem.run_pure, Result.andThen_ok, hX]
              · cases hx
          | ptr i n agg =>
            cases r with
            | tmp t => simp [resOK] at hok
            | cell u t =>
              have hok1 := hok.1
              simp only [resOK, Bool.and_eq_true, beq_iff_eq] at hok1
              simp only [MRes.get] at hx
              split at hx
              case h_2 => cases hx
              rename_i id off hv
              split at hx
              case h_2 => cases hx
              rename_i ob ho
              split at hx
              case h_2 => cases hx
              rename_i cs hcs
              simp only [Option.map_eq_some_iff] at hx
              obtain ⟨v, hp, rfl⟩ := hx
              obtain ⟨X, k1, k2⟩ := h.env i _ u hv hok1.1.1
              have h1 := k2.1
              unfold RelV at h1
              obtain ⟨b, hb, h3⟩ := h1
              have hob := (h.chg.wrel.obj id b _ ho hb).cellsOf hcs
              have hp' : Go.Ab.part (cs.drop off) 0 n agg = some v := by
                unfold Go.Ab.part at hp ⊢
                split at hp
                · rename_i hl
                  rw [if_pos (by simp; omega)]
                  simpa using hp
                · cases hp
              obtain ⟨Y, hY, hr⟩ := run_loadVar_rel (P := P) (w := w) (b := b) (o := off) hp' (fun k v' hv' => by
                rw [List.getElem?_drop] at hv'
                exact hob.2.2.2 _ _ hv') hok1.1.2 hok1.2
              subst h3
              simp only [Instr.loadAt, Instr.sureAddr, Sem.run_bind, Sem.run_pure, Result.andThen_ok] at hY
              exact ⟨Y, by simp only [getD_some k1, asAddr, Sem.run_bind, Sem.run_pure, Result.andThen_ok, hY], relV_erase.2 hr⟩
        obtain ⟨y, h3, h4⟩ := hone
        refine ⟨y :: ys, ?_, by unfold RelVs; exact ⟨h4, h2⟩⟩
        rw [List.mapM_cons]
        simp only [Sem.run_bind, h3, Result.andThen_ok, h1, Sem.run_pure]
end
end Go.Ab

namespace Go.Ab
open Go

theorem relVs_tupled {μ : List Nat} {lim : Nat → Nat} {w : World} {vs : List V} {ys : List Value} (h : RelVs μ lim w vs ys) : RelV μ lim w (tupled vs) (if hs : ys.toArray.size = 1 then ys.toArray[0] else .tuple ys.toArray) := by
  match vs, ys, h with
  | [v], [y], h => unfold RelVs at h; simpa [tupled] using h.1
  | [], [], h => simp [tupled]; unfold RelV; exact ⟨_, rfl, h⟩
  | v :: u :: vs, y :: z :: ys, h => simp [tupled]; unfold RelV; exact ⟨_, rfl, by simpa using h⟩
  | [], _ :: _, h => unfold RelVs at h; exact h.elim
  | _ :: _, [], h => unfold RelVs at h; exact h.elim
  | [_], _ :: _ :: _, h => unfold RelVs at h; have := h.2; unfold RelVs at this; exact this.elim
  | _ :: _ :: _, [_], h => unfold RelVs at h; have := h.2; unfold RelVs at this; exact this.elim

theorem func_sound {P : Program} {call : CallT} (hcall : CallOK P call) {m : MFunc} {f : FuncId} {fn : Func} (hf : P.funcs[f]? = some fn) (hok : funcOK P m fn = true) {fuel : Nat} {xs : List V} {σ : St} {v : V} {σ' : St} (hr : m.run call fuel xs σ = some (v, σ')) :
    enters P f = true ∧ ∀ (μ : List Nat) (lim : Nat → Nat) (w : World) (args : Array Value), WRel μ lim w σ → σ.base ≤ σ.objs.length → RelVs μ lim w xs args.toList →
      Calls P f args w fun e w' => ∃ y μ' lim', e = .returned y ∧ Chg μ lim w σ μ' lim' w' σ' ∧ RelV μ' lim' w' v y := by
  unfold funcOK at hok
  split at hok
  case h_2 => cases hok
  rename_i c hc
  simp only [Bool.and_eq_true, decide_eq_true_eq, bne_iff_ne] at hok
  obtain ⟨⟨⟨⟨⟨hcode, hnd⟩, hlt⟩, hna⟩, hres⟩, hname⟩ := hok
  refine ⟨by simp [enters, hf, hc, hname], fun μ lim w args hw hb hx => ?_⟩
  unfold MFunc.run at hr
  split at hr
  case isFalse => cases hr
  rename_i hargs
  have hasz : args.size = m.nargs := by rw [← hargs, hx.length]; simp
  let C : Ctx := ⟨m.slots, [], fn.ntmps, μ, lim, w, σ, []⟩
  have hltn : ∀ t ∈ m.slots, t < fn.ntmps := fun t ht => by simpa using List.all_eq_true.1 hlt t ht
  have hC : C.OK := ⟨nodupB_spec hnd, hltn, fun j t h => by simp [C] at h, fun i j t h => by simp [C] at h⟩
  let a : Act := { tmps := args ++ Array.replicate (fn.ntmps - args.size) undef, defers := [] }
  have hstart : FRel C μ lim (fun _ => .free) ⟨m.start xs, [], σ⟩ a w := by
    refine ⟨Chg.refl hw, hb, by simp [a, C]; omega, by simp [MFunc.start, C], ?_, rfl, fun j v t hv _ => by simp at hv, fun _ _ _ _ => rfl, fun _ _ => rfl, fun _ _ => rfl, rfl⟩
    intro i e t he ht
    simp only [MFunc.start, List.getElem?_map, Option.map_eq_some_iff] at he
    obtain ⟨t', ht', rfl⟩ := he
    have : C.slots[i]? = some t' := ht'
    rw [ht] at this
    cases this
    have htn := hltn t (List.mem_of_getElem? ht')
    rcases Nat.lt_or_ge t args.size with hlt2 | hge
    · have hxt : xs[t]? = some xs[t] := List.getElem?_eq_getElem (by rw [hargs, ← hasz]; exact hlt2)
      refine ⟨args[t], by simp [a, Array.getElem?_append_left hlt2, hlt2], ?_, ownV_erase⟩
      rw [List.getD_eq_getElem?_getD, hxt]
      exact relV_erase.2 (hx.get' hxt (by rw [Array.getElem?_toList]; exact Array.getElem?_eq_getElem hlt2))
    · have hxt : xs[t]? = none := List.getElem?_eq_none (by rw [hargs, ← hasz]; exact hge)
      refine ⟨undef, ?_, ?_, ownV_erase⟩
      · show (args ++ Array.replicate (fn.ntmps - args.size) undef)[t]? = some undef
        rw [Array.getElem?_append_right hge, Array.getElem?_replicate, if_pos (Nat.sub_lt_sub_right hge htn)]
      · rw [List.getD_eq_getElem?_getD, hxt]
        exact relV_erase.2 rel_undef
  refine calls_of_wp hf hc ?_
  have hfin : ∀ (out : Out) (env' : List EV), (out = .norm ∨ out = .ret) → exec call fuel m.body (m.start xs) σ = some (out, env', σ') → (∃ rs, getAll env' σ' m.res = some rs ∧ tupled rs = v) →
      c.wp P (bodyPost P fn fun e w' => ∃ y μ' lim', e = .returned y ∧ Chg μ lim w σ μ' lim' w' σ' ∧ RelV μ' lim' w' v y) a w := by
    intro out env' hout hex hrs
    obtain ⟨rs, hrs, rfl⟩ := hrs
    refine exec_sound hC rfl hcall fuel m.body c _ σ out env' σ' μ lim _ a w _ hex hcode hstart fun μ' lim' ow' a' w' h' => ?_
    have hpost : a'.defers = [] ∧ ∃ y, (results fn a'.tmps).run P w' = .ok y w' ∧ ∃ y0 μ' lim', Ending.returned y = .returned y0 ∧ Chg μ lim w σ μ' lim' w' σ' ∧ RelV μ' lim' w' (tupled rs) y0 := by
      refine ⟨h'.defers, ?_⟩
      obtain ⟨ys, h1, h2⟩ := results_rel (P := P) h' m.res fn.results.toList rs hres hrs
      refine ⟨if hs : ys.toArray.size = 1 then ys.toArray[0] else .tuple ys.toArray, ?_, _, μ', lim', rfl, h'.chg, relVs_tupled h2⟩
      unfold results
      rw [Array.mapM_eq_mapM_toList]
      simp only [Sem.run_bind, Sem.run_map]
      generalize hg : (List.mapM (m := Sem) _ fn.results.toList) = mm
      have h1' : mm.run P w' = .ok ys w' := by rw [← hg]; exact h1
      rw [h1']
      rfl
    rcases hout with rfl | rfl
    · exact hpost
    · exact hpost
  split at hr
  · rename_i env' σ1 hex
    cases hg : getAll env' σ1 m.res with
    | none => simp [hg] at hr
    | some rs =>
      simp [hg] at hr
      obtain ⟨rfl, rfl⟩ := hr
      exact hfin .norm env' (.inl rfl) hex ⟨rs, hg, rfl⟩
  · rename_i env' σ1 hex
    cases hg : getAll env' σ1 m.res with
    | none => simp [hg] at hr
    | some rs =>
      simp [hg] at hr
      obtain ⟨rfl, rfl⟩ := hr
      exact hfin .ret env' (.inr rfl) hex ⟨rs, hg, rfl⟩
  · cases hr

/-- A function of the machine says what the program's does, whatever is known of calls, if that is so. -/
def FuncSound (P : Program) (f : FuncId) (m : MFunc) : Prop :=
  ∀ {call : CallT}, CallOK P call → ∀ {fuel : Nat} {xs : List V} {σ : St} {v : V} {σ' : St}, m.run call fuel xs σ = some (v, σ') →
    enters P f = true ∧ ∀ (μ : List Nat) (lim : Nat → Nat) (w : World) (args : Array Value), WRel μ lim w σ → σ.base ≤ σ.objs.length → RelVs μ lim w xs args.toList →
      Calls P f args w fun e w' => ∃ y μ' lim', e = .returned y ∧ Chg μ lim w σ μ' lim' w' σ' ∧ RelV μ' lim' w' v y
theorem funcSound_of {P : Program} {m : MFunc} {f : FuncId} {fn : Func} (hf : P.funcs[f]? = some fn) (hok : funcOK P m fn = true) : FuncSound P f m :=
  fun hcall _ _ _ _ _ hr => func_sound hcall hf hok hr

/-- The machine's functions stand for the program's; what is known is so. -/
structure Fits (P : Program) (F : Funcs) (Kn : Known) : Prop where
  funcs : ∀ f m, F f = some m → FuncSound P f m
  known : CallOK P Kn

theorem callN_sound {P : Program} {F : Funcs} {Kn : Known} (h : Fits P F Kn) : ∀ n, CallOK P (callN F Kn n)
  | 0 => fun f xs σ v σ' hv => by simp [callN] at hv
  | n + 1 => fun f xs σ v σ' hv => by
    simp only [callN] at hv
    split at hv
    · rename_i r hr
      cases hv
      exact h.known f xs σ v σ' hr
    · split at hv
      · rename_i m hm
        exact h.funcs f m hm (callN_sound h n) hv
      · cases hv
end Go.Ab

namespace Go.Ab
open Go

/-- A deferred call that leaves all as it is, where the function returns. -/
def Idle (P : Program) (g : FuncId) (n : Nat) : Prop :=
  ∀ (args : Array Value) (w : World), args.size = n → CallsD P g args .returning w fun e u' w' => (∃ v, e = .returned v) ∧ u' = .returning ∧ w' = w

theorem leaves_idle {P : Program} {fn : Func} {tmps : Array Value} {R : Ending → World → Prop} {g : FuncId} {n : Nat} {cap dargs : Array Value} {w : World} {v : Value} {fv : Fn} {args : Array Value} (hi : (invoke (.fn fv cap) dargs).run P w = .ok (.enter g args) w)
    (hn : args.size = n) (h : Idle P g n) (hr : (results fn tmps).run P w = .ok v w) (hR : R (.returned v) w) : Leaves P fn tmps R [{ target := .fn fv cap, args := dargs }] .returning w := by
  refine leaves_cons (by simp) hi ((h args w hn).mono ?_)
  rintro e u' w' ⟨⟨v', rfl⟩, rfl, rfl⟩
  exact ⟨v, hr, hR⟩

section
variable {P : Program} {C : Ctx} {call : CallT} {ops : Array Oper} {ad : Addrs} {Q : Exit → Act → World → Prop}

/-- The first operations of a region. -/
theorem runOps_part (hC : C.OK) (hcall : CallOK P call) (hfree : adFree C.slots ops ad = true) (tail : List Nat) : ∀ (ms : List MOper) (i : Nat) (s s' : FS) (μ : List Nat) (lim : Nat → Nat) (ow : Nat → Owner) (a : Act) (w : World), opsOK P C.slots C.dsts ops ad List.range i ms = true →
    FRel C μ lim ow s a w → AddrOK C ops ad (· < i) s.R a → runOps call i ms s = some s' →
    (∀ μ' lim' ow' a' w', FRel C μ' lim' ow' s' a' w' → wpOps P ops Q tail a' w') → wpOps P ops Q (List.range' i ms.length ++ tail) a w
  | [], i, s, s', μ, lim, ow, a, w, _, h, _, hr, hQ => by
    simp only [runOps] at hr
    cases hr
    exact hQ μ lim ow a w h
  | m :: ms, i, s, s', μ, lim, ow, a, w, hok, h, had, hr, hQ => by
    simp only [opsOK, Bool.and_eq_true] at hok
    obtain ⟨hok1, hok2⟩ := hok
    split at hok1
    case h_2 => cases hok1
    rename_i o hi
    simp only [runOps] at hr
    split at hr
    · cases hr
    · rename_i s1 hs1
      rw [List.length_cons, List.range'_succ, List.cons_append, wpOps_cons]
      refine step_sound (done := (· < i)) hC hcall h had (fun d hd => List.mem_range.1 hd) (Nat.lt_irrefl i) hi hok1 hs1 fun X μ' lim' ow' w' h1 h2 => ?_
      refine runOps_part hC hcall hfree tail ms (i + 1) s1 s' μ' lim' ow' _ w' hok2 h1 ?_ hr hQ
      intro j k off oj hj hadj hoj
      have := addrOK_put (done := (· < i)) hfree hi (Nat.lt_irrefl i) (fun d hd => List.mem_range.1 hd) hok1 hs1 had h2 j k off oj (by omega) hadj hoj
      exact ⟨fun g b hg => by have := this.1 g b hg; omega, this.2⟩
end

/-- Does the abstract machine's function stand for the program's, whose second region ends with a deferred call? -/
def laterOK (P : Program) (m : MFunc) (fn : Func) (c0 c1 : Code) (ops : Array Oper) (q0 q1 : MCode) (ms : List MOper) (od : Opd) : Bool :=
  let dsts := dstsOf ms ops.toList
  let ad := adsOf P m.slots ops.toList ms ops.toList []
  codeOK P m.slots fn.ntmps q0 c0 && codeOK P m.slots fn.ntmps q1 c1 && (ops.size == ms.length + 1 && frameOK m.slots fn.ntmps dsts && adFree m.slots ops ad && dsts.length == ms.length && opsOK P m.slots dsts ops ad List.range 0 ms) &&
    (match ops[ms.length]? with
      | some o => o.dst.isNone && o.guard.isNone && (match o.op with
        | .defer c => c.args.size == 0 && (match c.callee with
          | .value x => opdOK m.slots dsts od x
          | _ => false)
        | _ => false)
      | none => false) &&
    (nodupB m.slots && m.slots.all (· < fn.ntmps) && decide (m.nargs ≤ fn.ntmps) && ressOK P m.slots m.res fn.results.toList && fn.name != "runtime.NumGoroutine")

theorem func_sound_later {P : Program} {m : MFunc} {f : FuncId} {fn : Func} {c0 c1 : Code} {id : Nat} {ops : Array Oper} {q0 q1 : MCode} {ms : List MOper} {od : Opd} {g n : Nat} (hf : P.funcs[f]? = some fn)
    (hb : fn.body = some (.seq c0 (.seq (.region id ops false) c1))) (hm : m.body = .seq q0 (.seq (.reg ms) q1)) (hok : laterOK P m fn c0 c1 ops q0 q1 ms od = true) (hen : enters P g = true) (hidle : Idle P g n)
    (hcl : ∀ (call : CallT) (env : List EV) (σ : St) (s' : FS), runOps call 0 ms ⟨env, List.replicate ms.length none, σ⟩ = some s' → ∃ caps, rd s'.env s'.R od = some (.func (.func g) [] caps) ∧ caps.length = n) : FuncSound P f m := by
  intro call hcall fuel xs σ v σ' hr
  simp only [laterOK, Bool.and_eq_true, beq_iff_eq, decide_eq_true_eq, bne_iff_ne] at hok
  obtain ⟨⟨⟨⟨hok0, hok1⟩, ⟨⟨⟨⟨hsz, hfr⟩, hfree⟩, hdl⟩, hops⟩⟩, hlast⟩, ⟨⟨⟨⟨hnd, hlt⟩, hna⟩, hres⟩, hname⟩⟩ := hok
  refine ⟨by simp [enters, hf, hb, hname], fun μ lim w args hw hbase hx => ?_⟩
  unfold MFunc.run at hr
  split at hr
  case isFalse => cases hr
  rename_i hargs
  have hasz : args.size = m.nargs := by rw [← hargs, hx.length]; simp
  let C : Ctx := ⟨m.slots, [], fn.ntmps, μ, lim, w, σ, []⟩
  have hltn : ∀ t ∈ m.slots, t < fn.ntmps := fun t ht => by simpa using List.all_eq_true.1 hlt t ht
  have hC : C.OK := ⟨nodupB_spec hnd, hltn, fun j t h => by simp [C] at h, fun i j t h => by simp [C] at h⟩
  let a : Act := { tmps := args ++ Array.replicate (fn.ntmps - args.size) undef, defers := [] }
  have hstart : FRel C μ lim (fun _ => .free) ⟨m.start xs, [], σ⟩ a w := by
    refine ⟨Chg.refl hw, hbase, by simp [a, C]; omega, by simp [MFunc.start, C], ?_, rfl, fun j v t hv _ => by simp at hv, fun _ _ _ _ => rfl, fun _ _ => rfl, fun _ _ => rfl, rfl⟩
    intro i e t he ht
    simp only [MFunc.start, List.getElem?_map, Option.map_eq_some_iff] at he
    obtain ⟨t', ht', rfl⟩ := he
    have : C.slots[i]? = some t' := ht'
    rw [ht] at this
    cases this
    have htn := hltn t (List.mem_of_getElem? ht')
    rcases Nat.lt_or_ge t args.size with hlt2 | hge
    · have hxt : xs[t]? = some xs[t] := List.getElem?_eq_getElem (by rw [hargs, ← hasz]; exact hlt2)
      refine ⟨args[t], by simp [a, Array.getElem?_append_left hlt2, hlt2], ?_, ownV_erase⟩
      rw [List.getD_eq_getElem?_getD, hxt]
      exact relV_erase.2 (hx.get' hxt (by rw [Array.getElem?_toList]; exact Array.getElem?_eq_getElem hlt2))
    · have hxt : xs[t]? = none := List.getElem?_eq_none (by rw [hargs, ← hasz]; exact hge)
      refine ⟨undef, ?_, ?_, ownV_erase⟩
      · show (args ++ Array.replicate (fn.ntmps - args.size) undef)[t]? = some undef
        rw [Array.getElem?_append_right hge, Array.getElem?_replicate, if_pos (Nat.sub_lt_sub_right hge htn)]
      · rw [List.getD_eq_getElem?_getD, hxt]
        exact relV_erase.2 rel_undef
  let R : Ending → World → Prop := fun e w' => ∃ y μ' lim', e = .returned y ∧ Chg μ lim w σ μ' lim' w' σ' ∧ RelV μ' lim' w' v y
  -- the end of the call
  have hend : ∀ (C' : Ctx) (env' : List EV), C'.slots = m.slots → C'.μ = μ → C'.lim = lim → C'.w = w → C'.σ = σ → (∃ rs, getAll env' σ' m.res = some rs ∧ tupled rs = v) → ∀ μ' lim' ow' a' w', FRel C' μ' lim' ow' ⟨env', [], σ'⟩ a' w' →
      ∃ y, (results fn a'.tmps).run P w' = .ok y w' ∧ R (.returned y) w' := by
    rintro C' env' e1 e2 e3 e4 e5 ⟨rs, hrs, rfl⟩ μ' lim' ow' a' w' h'
    obtain ⟨ys, h1, h2⟩ := results_rel (P := P) h' m.res fn.results.toList rs (by rw [e1]; exact hres) hrs
    have hch := h'.chg
    rw [e2, e3, e4, e5] at hch
    refine ⟨if hs : ys.toArray.size = 1 then ys.toArray[0] else .tuple ys.toArray, ?_, _, μ', lim', rfl, hch, relVs_tupled h2⟩
    unfold results
    rw [Array.mapM_eq_mapM_toList]
    simp only [Sem.run_bind, Sem.run_map]
    generalize hg : (List.mapM (m := Sem) _ fn.results.toList) = mm
    have h1' : mm.run P w' = .ok ys w' := by rw [← hg]; exact h1
    rw [h1']
    rfl
  refine calls_of_wp_defers hf hb (R := R) ?_
  have hfin : ∀ (out : Out) (env' : List EV), (out = .norm ∨ out = .ret) → exec call fuel m.body (m.start xs) σ = some (out, env', σ') → (∃ rs, getAll env' σ' m.res = some rs ∧ tupled rs = v) →
      (Code.seq c0 (.seq (.region id ops false) c1)).wp P (bodyPostD P fn R) a w := by
    intro out env' hout hex hrs
    rw [hm] at hex
    simp only [exec] at hex
    split at hex
    case h_2 hne =>
      -- an early end
      refine wp_seq (exec_sound hC rfl hcall fuel q0 c0 _ σ out env' σ' μ lim _ a w _ hex hok0 hstart fun μ' lim' ow' a' w' h' => ?_)
      rcases hout with rfl | rfl
      · exact absurd hex (hne _ _)
      · obtain ⟨y, h1, h2⟩ := hend C env' rfl rfl rfl rfl rfl hrs μ' lim' ow' a' w' h'
        show Leaves P fn a'.tmps R a'.defers .returning w'
        rw [h'.defers]
        exact ⟨y, h1, h2⟩
    rename_i env0 σ0 hex0
    refine wp_seq (exec_sound hC rfl hcall fuel q0 c0 _ σ .norm env0 σ0 μ lim _ a w _ hex0 hok0 hstart fun μ0 lim0 ow0 a0 w0 h0 => ?_)
    split at hex
    case h_2 hne =>
      split at hex
      · rename_i s1 hs1
        exact absurd (by rw [hs1]) (hne s1.env s1.σ)
      · cases hex
    rename_i env1 σ1 hex1
    split at hex1
    case h_2 => cases hex1
    rename_i s1 hs1
    cases hex1
    refine wp_seq (wp_region ?_)
    have hC2 : ({ C with dsts := dstsOf ms ops.toList } : Ctx).OK := ctx_ok hC hfr
    have hreg := h0.region (dstsOf ms ops.toList)
    rw [hdl] at hreg
    rw [hsz, show List.range (ms.length + 1) = List.range' 0 ms.length ++ [ms.length] by rw [List.range_succ, List.range_eq_range']]
    refine runOps_part hC2 hcall hfree [ms.length] ms 0 _ s1 μ0 lim0 ow0 a0 w0 hops hreg (by intro j _ _ _ hj; exact absurd hj (Nat.not_lt_zero _)) hs1 fun μ2 lim2 ow2 a2 w2 h2 => ?_
    split at hlast
    case h_2 => cases hlast
    rename_i o ho
    simp only [Bool.and_eq_true, Option.isNone_iff_eq_none] at hlast
    obtain ⟨⟨hod, hog⟩, hop⟩ := hlast
    split at hop
    case h_2 => cases hop
    rename_i c hopc
    simp only [Bool.and_eq_true, beq_iff_eq] at hop
    obtain ⟨hca, hop⟩ := hop
    split at hop
    case h_2 => cases hop
    rename_i x hcx
    obtain ⟨caps, hrd, hcn⟩ := hcl call env0 σ0 s1 hs1
    have hev := (eval_rel h2 hrd hop).1
    unfold RelV at hev
    obtain ⟨f', c', hev, hf', hc'⟩ := hev
    have hf0 : f' = #[] := by
      have := hf'.length
      simp at this
      exact Array.eq_empty_of_size_eq_zero this.symm
    subst hf0
    have hcs : c'.size = n := by rw [← hcn, hc'.length]; simp
    rw [wpOps_cons]
    unfold wpOp
    simp only [ho]
    rw [if_pos (by simp [Region.wanted, hog])]
    refine .inl ?_
    have hrun : (execOp a2.eval o).run P w2 = .ok (.defer { target := .fn (.func g) c', args := #[] }) w2 := by
      unfold execOp
      have hargs0 : c.args = #[] := by simpa using hca
      simp [hopc, resolve, hcx, hev, Deferred.ofValue, hargs0]
    unfold Oper.wp
    rw [hrun, Oper.upon_defer]
    show Exit.then _ _ .normal _ _
    have hput : ({ a2 with defers := { target := .fn (.func g) c', args := #[] } :: a2.defers } : Act).put o.dst undef = { a2 with defers := { target := .fn (.func g) c', args := #[] } :: a2.defers } := by rw [hod]; rfl
    rw [hput]
    let C1 : Ctx := { C with defs := [{ target := .fn (.func g) c', args := #[] }] }
    have hC1 : C1.OK := ⟨hC.nodup, hC.lt, hC.dlt, hC.dinj⟩
    have h3 := h2.unregion (C := C) rfl
    have h4 : FRel C1 μ2 lim2 ow2 ⟨s1.env, [], s1.σ⟩ { a2 with defers := { target := .fn (.func g) c', args := #[] } :: a2.defers } w2 :=
      ⟨h3.chg, h3.based, h3.tmps, h3.envlen, h3.env, h3.reslen, h3.res, h3.owobj, h3.owfresh, h3.owold, by rw [h3.defers]⟩
    refine exec_sound hC1 rfl hcall fuel q1 c1 _ s1.σ out env' σ' μ2 lim2 ow2 _ w2 _ hex hok1 h4 fun μ' lim' ow' a' w' h' => ?_
    obtain ⟨y, k1, k2⟩ := hend C1 env' rfl rfl rfl rfl rfl hrs μ' lim' ow' a' w' h'
    have hlv : Leaves P fn a'.tmps R a'.defers .returning w' := by
      rw [h'.defers]
      exact leaves_idle (args := #[] ++ #[] ++ c') (by
        simp [invoke, run_callFunc hen]) (by simpa using hcs) hidle k1 k2
    rcases hout with rfl | rfl
    · exact hlv
    · exact hlv
  split at hr
  · rename_i env' σ1 hex
    cases hg : getAll env' σ1 m.res with
    | none => simp [hg] at hr
    | some rs =>
      simp [hg] at hr
      obtain ⟨rfl, rfl⟩ := hr
      exact hfin .norm env' (.inl rfl) hex ⟨rs, hg, rfl⟩
  · rename_i env' σ1 hex
    cases hg : getAll env' σ1 m.res with
    | none => simp [hg] at hr
    | some rs =>
      simp [hg] at hr
      obtain ⟨rfl, rfl⟩ := hr
      exact hfin .ret env' (.inr rfl) hex ⟨rs, hg, rfl⟩
  · cases hr
end Go.Ab

namespace Go.Ab
open Go

/-- All of the check but the regions. -/
def skelOK (slots : List Tmp) : MCode → Code → Bool
  | .skip, .skip => true
  | .reg _, .region _ _ _ => true
  | .seq a b, .seq x y => skelOK slots a x && skelOK slots b y
  | .cond c a b, .cond o x y => opdOK slots [] c o && skelOK slots a x && skelOK slots b y
  | .block i b, .block j y => i == j && skelOK slots b y
  | .loop b, .loop y => skelOK slots b y
  | .exit i, .exit j => i == j
  | .ret, .ret => true
  | _, _ => false

def leaves : MCode → Code → List (List MOper × Array Oper × Bool)
  | .reg ms, .region _ ops drawn => [(ms, ops, drawn)]
  | .seq a b, .seq x y => leaves a x ++ leaves b y
  | .cond _ a b, .cond _ x y => leaves a x ++ leaves b y
  | .block _ b, .block _ y => leaves b y
  | .loop b, .loop y => leaves b y
  | _, _ => []

theorem codeOK_of {P : Program} {slots : List Tmp} {n : Nat} : ∀ (c : MCode) (x : Code), skelOK slots c x = true → (leaves c x).all (fun l => regOK P slots n l.1 l.2.1 l.2.2) = true → codeOK P slots n c x = true := by
  intro c
  induction c with
  | skip => intro x h _; cases x <;> simp_all [skelOK, codeOK]
  | reg ms => intro x h hl; cases x <;> simp_all [skelOK, codeOK, leaves]
  | seq a b iha ihb =>
    intro x h hl
    cases x <;> simp only [skelOK] at h <;> first | (cases h; done) | skip
    simp only [Bool.and_eq_true] at h
    simp only [leaves, List.all_append, Bool.and_eq_true] at hl
    simp only [codeOK, Bool.and_eq_true]
    exact ⟨iha _ h.1 hl.1, ihb _ h.2 hl.2⟩
  | cond o a b iha ihb =>
    intro x h hl
    cases x <;> simp only [skelOK] at h <;> first | (cases h; done) | skip
    simp only [Bool.and_eq_true] at h
    simp only [leaves, List.all_append, Bool.and_eq_true] at hl
    simp only [codeOK, Bool.and_eq_true]
    exact ⟨⟨h.1.1, iha _ h.1.2 hl.1⟩, ihb _ h.2 hl.2⟩
  | block i b ih =>
    intro x h hl
    cases x <;> simp only [skelOK] at h <;> first | (cases h; done) | skip
    simp only [Bool.and_eq_true] at h
    simp only [leaves] at hl
    simp only [codeOK, Bool.and_eq_true]
    exact ⟨h.1, ih _ h.2 hl⟩
  | loop b ih =>
    intro x h hl
    cases x <;> simp only [skelOK] at h <;> first | (cases h; done) | skip
    simp only [leaves] at hl
    simp only [codeOK]
    exact ih _ h hl
  | exit i => intro x h _; cases x <;> simp_all [skelOK, codeOK]
  | ret => intro x h _; cases x <;> simp_all [skelOK, codeOK]

/-- Regions from one place on, so many of them. -/
def regsOK (P : Program) (m : MFunc) (fn : Func) (from_ many : Nat) : Bool := match fn.body with
  | some c => (((leaves m.body c).drop from_).take many).all fun l => regOK P m.slots fn.ntmps l.1 l.2.1 l.2.2
  | none => false
def restOK (P : Program) (m : MFunc) (fn : Func) (many : Nat) : Bool := match fn.body with
  | some c => skelOK m.slots m.body c && decide ((leaves m.body c).length ≤ many) && nodupB m.slots && m.slots.all (· < fn.ntmps) && decide (m.nargs ≤ fn.ntmps) && ressOK P m.slots m.res fn.results.toList && fn.name != "runtime.NumGoroutine"
  | none => false

theorem regsOK_join {P : Program} {m : MFunc} {fn : Func} {a b c : Nat} (h1 : regsOK P m fn a b = true) (h2 : regsOK P m fn (a + b) c = true) : regsOK P m fn a (b + c) = true := by
  unfold regsOK at *
  split
  · rename_i x hx
    simp only [hx] at h1 h2
    rw [List.all_eq_true] at *
    intro l hl
    obtain ⟨i, hi⟩ := List.getElem?_of_mem hl
    rw [List.getElem?_take] at hi
    split at hi
    case isFalse => cases hi
    rename_i hib
    by_cases h : i < b
    · exact h1 l (List.mem_of_getElem? (i := i) (by rw [List.getElem?_take_of_lt h]; exact hi))
    · refine h2 l (List.mem_of_getElem? (i := i - b) ?_)
      rw [List.getElem?_take_of_lt (by omega), List.getElem?_drop]
      rw [List.getElem?_drop] at hi
      rw [← hi]; congr 1; omega
  · rename_i hx
    simp [hx] at h1

theorem funcOK_of {P : Program} {m : MFunc} {fn : Func} {many : Nat} (h1 : restOK P m fn many = true) (h2 : regsOK P m fn 0 many = true) : funcOK P m fn = true := by
  unfold restOK at h1
  unfold regsOK at h2
  unfold funcOK
  split at h1
  case h_2 => cases h1
  rename_i c hc
  simp only [hc] at h2 ⊢
  simp only [Bool.and_eq_true, decide_eq_true_eq] at h1
  obtain ⟨⟨⟨⟨⟨⟨q1, q2⟩, q3⟩, q4⟩, q5⟩, q6⟩, q7⟩ := h1
  rw [List.drop_zero, List.take_of_length_le q2] at h2
  simp only [Bool.and_eq_true, decide_eq_true_eq]
  exact ⟨⟨⟨⟨⟨codeOK_of _ _ q1 h2, q3⟩, q4⟩, q5⟩, q6⟩, q7⟩
end Go.Ab

/- GraphRuns on the abstract machine: it answers true. No premise but those named. -/
import Derived.Test.YthbebafhngihgaaGreatDoorR6
import Derived.Test.YthbebafhngihgaaGreatDoorRD
namespace Go.AbN
open Go Go.Ab Go.Ab4

def e14 : Nat → EV := fun i => env14.getD i (.v .undef)
def xenv (O : List Ab.Obj) (G : Nat) (k : Int) : List EV :=
  [.v (.bool true), e14 1, .v (.ptr 2 0), .v (.iface 106 (.ptr O.length 0)), e14 4, e14 5, .box tIntC, e14 7, e14 8, .v (.int k), .v (.ptr G 0), .v (.sc .nilIface), e14 12, e14 13, e14 14, e14 15, e14 16, .v (.bool true), .v (.bool true)]

theorem rest_run (call : CallT) (O O2 : List Ab.Obj) (σ : St) (G : Nat) (k : Int) :
    execL call sel6 2000 (tailOf 15 q3.body) (lenv e14 2 (.v (.iface 106 (.ptr O.length 0))) k (.v (.bool true)) (.v (.bool true))) σ
        [some (.tup [.ptr G 0, .sc .nilIface], ⟨O2, 0⟩), some (.bool true, ⟨O2, 0⟩), some (.bool true, ⟨O2, 0⟩), some (.int 1024, ⟨O2, 0⟩), some (.int 0, ⟨O2, 0⟩)]
      = some (.ret, xenv O G k, ⟨O2, 0⟩, [], [⟨.call 16 false, [.slice .shut 7 [], .slice .shut 10 []], σ, .tup [.ptr G 0, .sc .nilIface], ⟨O2, 0⟩⟩,
        ⟨.call 24 true, [.iface 106 (.ptr 16 0), .agg [.int 0, .int 21, .str ⟨#[67]⟩]], ⟨O2, 0⟩, .bool true, ⟨O2, 0⟩⟩,
        ⟨.call 24 true, [.iface 106 (.ptr O.length 0), .agg [.int 0, .int 23, .str ⟨#[]⟩]], ⟨O2, 0⟩, .bool true, ⟨O2, 0⟩⟩,
        ⟨.call 18 true, [.ptr 2 0], ⟨O2, 0⟩, .int 1024, ⟨O2, 0⟩⟩, ⟨.call 18 true, [.ptr G 0], ⟨O2, 0⟩, .int 0, ⟨O2, 0⟩⟩]) := by kernel_rfl

theorem ro_ok3 {call : CallT} {f : FuncId} {xs : List V} {O : List Ab.Obj} {r : V} {σ' : St} (h : call f xs ⟨O, O.length⟩ = some (r, σ')) (hf : freezeAll σ' O.length r = some r) (hi : r.inside O.length = true) : Obl.ok call ⟨.call f true, xs, ⟨O, 0⟩, r, ⟨O, 0⟩⟩ := by
  unfold Obl.ok
  simp only [A.act, callBy, if_true, callRO, h, hf, hi]

theorem rest_ok {O : List Ab.Obj} {id : Nat} {T : TypeId} {R M : V} (k : Int) (h2 : O[2]? = some (.var T [.arr id 0 1024 5, R, M])) (h16 : O[16]? = some (ref 21 ⟨#[67]⟩)) :
    exec (C 2000) 2000 (tailOf 15 q3.body) (lenv e14 2 (.v (.iface 106 (.ptr O.length 0))) k (.v (.bool true)) (.v (.bool true))) ⟨O ++ [full], 0⟩ = some (.ret, xenv O (newI (O ++ [full])) k, ⟨newO (O ++ [full]), 0⟩) := by
  refine execL_ok (rest_run (C 2000) O (newO (O ++ [full])) ⟨O ++ [full], 0⟩ (newI (O ++ [full])) k) ?_
  intro o ho
  simp only [List.mem_cons, List.not_mem_nil, or_false] at ho
  rcases ho with rfl | rfl | rfl | rfl | rfl
  · exact rw_ok (new_ok _)
  · exact ro_ok3 (is_ok_a (newO_keep (app_keep h16))) rfl rfl
  · exact ro_ok3 (is_ok_b (newO_keep app_at)) rfl rfl
  · exact ro_ok3 (len_ok1 (newO_keep (app_keep h2)) 1999) rfl rfl
  · exact ro_ok3 (len_ok2 (newO_at _) 1999) rfl rfl

theorem tail14 : tailOf 14 q3.body = .seq (.seq (headOf (headOf (tailOf 14 q3.body))) (.block 0 (.loop lpB))) (tailOf 15 q3.body) := by kernel_rfl
theorem reg14 : exec (C 2000) 2000 (headOf (headOf (tailOf 14 q3.body))) env14 s4 = some (.norm, lenv e14 2 (e14 3) ((0 : Nat) : Int) (e14 17) (e14 18), s4) := by kernel_rfl
/-- What comes behind. -/
def next (call : CallT) (fuel : Nat) (d : MCode) : Res → Res
  | some (.norm, env, σ) => exec call fuel d env σ
  | r => r
theorem exec_seq (call : CallT) (fuel : Nat) (a b : MCode) (env : List EV) (σ : St) : exec call fuel (.seq a b) env σ = next call fuel b (exec call fuel a env σ) := by
  simp only [exec]
  generalize exec call fuel a env σ = r
  cases r with
  | none => rfl
  | some x => obtain ⟨o, e, s⟩ := x; cases o <;> rfl
theorem seq_step2 {call : CallT} {fuel : Nat} {c a b d : MCode} {env env' : List EV} {σ σ' : St} (hc : c = .seq (.seq a b) d) (h : exec call fuel a env σ = some (.norm, env', σ')) :
    exec call fuel c env σ = next call fuel d (exec call fuel b env' σ') := by
  subst hc
  rw [exec_seq, exec_seq, h]
  rfl
theorem run_of {f : MFunc} {call : CallT} {fuel : Nat} {xs : List V} {σ σ' : St} {env : List EV} {rs : List V} (hn : xs.length = f.nargs) (he : exec call fuel f.body (f.start xs) σ = some (.ret, env, σ')) (hr : getAll env f.res = some rs) :
    f.run call fuel xs σ = some (tupled rs, σ') := by
  unfold MFunc.run
  rw [if_pos hn, he]
  simp only [hr, Option.map_some]

theorem s4_at : ∃ O, s4 = ⟨O, 0⟩ ∧ (∃ T R M cs, GAt O 2 8 4 T R M cs) ∧ O[16]? = some (ref 21 ⟨#[67]⟩) :=
  ⟨s4.objs, rfl, ⟨117, .arr 4 0 1 2, .slice .shut 3 [], _, rfl, rfl, rfl⟩, rfl⟩
theorem block_loop {call : CallT} {fuel id : Nat} {b : MCode} {env env' : List EV} {σ σ' : St} (h : iter fuel (fun e s => exec call fuel b e s) env σ = some (.exit id, env', σ')) : exec call fuel (.block id (.loop b)) env σ = some (.norm, env', σ') := by
  simp only [exec, h, if_true]

theorem env0_at : env0 = q3.start [] := by kernel_rfl
theorem call3 : callN Q Kn1 2001 3 [] ⟨[], 0⟩ = q3.run (C 2000) 2000 [] ⟨[], 0⟩ := by kernel_rfl
theorem get3 (O : List Ab.Obj) (G : Nat) (k : Int) : getAll (xenv O G k) q3.res = some [.bool true] := rfl
theorem nargs3 : ([] : List V).length = q3.nargs := rfl
theorem all_ok {env1 : List EV} {σ1 σ2 : St} {O : List Ab.Obj} {G : Nat} {k : Int} (hl : exec (C 2000) 2000 (.block 0 (.loop lpB)) (lenv e14 2 (e14 3) ((0 : Nat) : Int) (e14 17) (e14 18)) s4 = some (.norm, env1, σ1))
    (hr : exec (C 2000) 2000 (tailOf 15 q3.body) env1 σ1 = some (.ret, xenv O G k, σ2)) : callN Q Kn1 2001 3 [] ⟨[], 0⟩ = some (.bool true, σ2) := by
  rw [call3]
  refine run_of nargs3 (env := xenv O G k) ?_ (get3 O G k)
  rw [← env0_at]
  refine Eq.trans prefix_ok ?_
  rw [seq_step2 tail14 reg14, hl]
  exact hr
theorem runs_true : ∃ σ, callN Q Kn1 2001 3 [] ⟨[], 0⟩ = some (.bool true, σ) := by
  obtain ⟨O, hO, ⟨T, R, M, cs, hg⟩, h16⟩ := s4_at
  obtain ⟨objs', id', cs', h1, h2, h3⟩ := rounds 1994 1998 e14 (o1 := ref 21 ⟨#[67]⟩) (i1 := 16) (by intro cs h; cases h) 1020 0 2000 (e14 3) (e14 17) (e14 18) hg rfl (by omega) (by omega) h16 (by omega)
  have hloop : exec (C 2000) 2000 (.block 0 (.loop lpB)) (lenv e14 2 (e14 3) ((0 : Nat) : Int) (e14 17) (e14 18)) s4 = some (.norm, lenv e14 2 (.v (.iface 106 (.ptr objs'.length 0))) ((0 + 1020 : Nat) : Int) (.v (.bool true)) (.v (.bool true)), ⟨objs' ++ [full], 0⟩) := by
    rw [hO]
    exact block_loop h1
  have h15 := rest_ok ((0 + 1020 : Nat) : Int) h2.g h3
  exact ⟨_, all_ok hloop h15⟩
end Go.AbN

/- The function that recovers: its deferred closure does nothing where it returns, and catches a panic; the function that panics. No premise. -/
import Derived.Test.YthjniafhfboggaaGreatDoorPX
import Derived.Test.YthjniafhfboggaaGreatDoorQB
import Derived.Test.YthjniafhfboggaaGreatDoorProg
import Derived.Tactics2
import Derived.Recover
import Derived.Laws.Pointers
namespace Go.AbN
open Go Go.Ab Go.AbQ Go.Proofs

theorem idle_on : Idle Tryz.prog 22 2 := by
  intro args w hn
  obtain ⟨l⟩ := args
  match l, hn with
  | [A, B], _ =>
  refine callsD_of_wpS Tryz.func22 rfl fun c₀ cs hu => ?_
  apply wpS_seq
  apply wpS_region
  simp [wpOpsS, go_sem, recoverD, hu, Tryz.ntmps22, Exit.thenS]
  apply wpS_seq
  apply wpS_seq
  apply wpS_region
  simp [wpOpsS, go_sem, Exit.thenS]
  refine wpS_cond (t := true) (by simp [Act.eval, Array.replicate]) ?_
  simp only [if_true]
  refine wpS_of_wp (wp_ret ?_)
  cases c₀
  simp_all [Exit.thenS, bodyPostS, results, Tryz.results22]
theorem sound14 : FuncSound Tryz.prog 14 q14 := func_sound_later (od := .res 0) (g := 22) (n := 2) Tryz.func14 rfl rfl (by decide +kernel) (by kernel_rfl) idle_on (by
  intro call env σ s' h
  simp only [runOps, Go.Ab.step, wanted, W.x] at h
  cases hr : rds env (List.replicate 1 none) [W.s 2, W.s 3] with
  | none => rw [show List.length [({ dst := none, k := K.act (A.mkFunc (Fn.func 22) 0), args := [W.s 2, W.s 3], guard := none } : MOper)] = 1 from rfl, hr] at h; cases h
  | some xs =>
    rw [show List.length [({ dst := none, k := K.act (A.mkFunc (Fn.func 22) 0), args := [W.s 2, W.s 3], guard := none } : MOper)] = 1 from rfl, hr] at h
    cases h
    refine ⟨xs, rfl, ?_⟩
    simp only [rds] at hr
    split at hr
    · cases hr
    · split at hr
      · cases hr
      · rename_i he
        cases hr
        split at he
        · cases he
        · cases he; rfl)
theorem run_assert_on (pv : Value) (xT : TypeId) (w : World) : (Instr.typeAssert (.iface 82 pv) xT 82 true).run Tryz.prog w = .ok (.tuple #[pv, .bool true]) w := by
  obtain ⟨d, hd, he⟩ := Option.map_eq_some_iff.1 (show (Tryz.prog.underlying 82).map (fun d => match d with | .pointer _ => true | _ => false) = some true by kernel_rfl)
  cases d <;> simp at he
  simp [Instr.typeAssert, run_underlying hd]

theorem catch_on : Catch Tryz.prog 22 82 := by
  intro bc be x y pv w hne hx hy hzx hzy
  refine callsD_of_wpS Tryz.func22 rfl fun c₀ cs hu => ?_
  apply wpS_seq
  apply wpS_region
  simp [wpOpsS, go_sem, recoverD, hu, Tryz.ntmps22, Exit.thenS]
  apply wpS_seq
  apply wpS_seq
  apply wpS_region
  simp [wpOpsS, go_sem, Exit.thenS]
  refine wpS_cond (t := false) (by simp [Act.eval, Array.replicate]) ?_
  simp only [Bool.false_eq_true, if_false]
  refine wpS_of_wp (wp_skip ?_)
  simp only [Exit.thenS]
  apply wpS_seq
  apply wpS_region
  simp [wpOpsS, go_sem, Exit.thenS, run_assert_on]
  apply wpS_seq
  apply wpS_seq
  apply wpS_region
  simp [wpOpsS, go_sem, Exit.thenS]
  refine wpS_cond (t := false) (by simp [Act.eval, Array.replicate]) ?_
  simp only [Bool.false_eq_true, if_false]
  refine wpS_of_wp (wp_skip ?_)
  simp only [Exit.thenS]
  apply wpS_region
  simp [wpOpsS, go_sem, hx, hy, hzx, hzy, hne]
  cases c₀
  simp_all [bodyPostS, results, Tryz.results22]

def qf : MFunc := { nargs := 3, slots := [0, 1, 2, 3], res := [], body := .skip }
def qfa : MCode := .reg [⟨some 3, .boxBox, [.slot 0], none⟩]
def qfb : List MOper := [⟨none, .loadBox 3 0 1 true, [], none⟩, ⟨none, .act .mov, [.slot 1], none⟩, ⟨none, .act .mov, [.slot 2], none⟩, ⟨none, .act (.build [.int 0, .int 0, .str ⟨#[]⟩] [(0, 1), (1, 1), (2, 1)]), [.res 0, .res 1, .res 2], none⟩, ⟨none, .act (.box 93), [.res 3], none⟩, ⟨none, .act (.mkIface 82), [.res 4], none⟩]
def pk : PanK := fun f xs σ => match f, xs with
  | 36, [.agg [.sc (.int .i64 a)], .sc (.int .i64 b), .sc (.string c)] => some (.iface 82 (.ptr σ.objs.length 0), σ.push (.var 93 [.sc (.int .i64 a), .sc (.int .i64 b), .sc (.string c)]))
  | _, _ => none
theorem pk_ok : ∀ f xs σ v σ', pk f xs σ = some (v, σ') → Pans Tryz.prog f xs σ v σ' := by
  intro f xs σ v σ' h
  unfold pk at h
  split at h
  case h_2 => cases h
  cases h
  rename_i a b c
  have h0 : exec (fun _ _ _ => none) 0 qfa (qf.start [.agg [.sc (.int .i64 a)], .sc (.int .i64 b), .sc (.string c)]) σ = some (.norm, [.v (.agg [.sc (.int .i64 a)]), .v (.sc (.int .i64 b)), .v (.sc (.string c)), .box [.sc (.int .i64 a)]], σ) := rfl
  have h1 := stop_sound (xs := [.agg [.sc (.int .i64 a)], .sc (.int .i64 b), .sc (.string c)]) (m := qf) (q0 := qfa) (ms := qfb) (od := .res 5) (T := 82) (u := .ptr σ.objs.length 0) Tryz.func36 rfl (by decide +kernel) rfl h0 (s1 := ⟨[.v (.agg [.sc (.int .i64 a)]), .v (.sc (.int .i64 b)), .v (.sc (.string c)), .box [.sc (.int .i64 a)]], [some (.agg [.sc (.int .i64 a)]), some (.sc (.int .i64 b)), some (.sc (.string c)), some (.agg [.sc (.int .i64 a), .sc (.int .i64 b), .sc (.string c)]), some (.ptr σ.objs.length 0), some (.iface 82 (.ptr σ.objs.length 0))], σ.push (.var 93 [.sc (.int .i64 a), .sc (.int .i64 b), .sc (.string c)])⟩) rfl rfl
  exact h1
end Go.AbN

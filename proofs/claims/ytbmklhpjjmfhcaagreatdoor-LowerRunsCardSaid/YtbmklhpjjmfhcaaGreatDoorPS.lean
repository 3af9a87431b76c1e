/- The function that recovers: its deferred closure does nothing where it returns. No premise. -/
import Derived.Test.YtbmklhpjjmfhcaaGreatDoorEX
import Derived.Test.YtbmklhpjjmfhcaaGreatDoorQD
import Derived.Test.YtbmklhpjjmfhcaaGreatDoorProg
import Derived.Tactics2
import Derived.Recover
import Derived.Laws.Pointers
namespace Go.AbN
open Go Go.Ab Go.AbQ Go.Proofs

theorem idle35 : Idle Tryz.prog 35 2 := by
  intro args w hn
  obtain ⟨l⟩ := args
  match l, hn with
  | [A, B], _ =>
  refine callsD_of_wpS Tryz.func35 rfl fun c₀ cs hu => ?_
  apply wpS_seq
  apply wpS_region
  simp [wpOpsS, go_sem, recoverD, hu, Tryz.ntmps35, Exit.thenS]
  apply wpS_seq
  apply wpS_seq
  apply wpS_region
  simp [wpOpsS, go_sem, Exit.thenS]
  refine wpS_cond (t := true) (by simp [Act.eval, Array.replicate]) ?_
  simp only [if_true]
  refine wpS_of_wp (wp_ret ?_)
  cases c₀
  simp_all [Exit.thenS, bodyPostS, results, Tryz.results35]
theorem sound20 : FuncSound Tryz.prog 20 q20 := func_sound_later (od := .res 0) (g := 35) (n := 2) Tryz.func20 rfl rfl (by decide +kernel) (by kernel_rfl) idle35 (by
  intro call env σ s' h
  simp only [runOps, Go.Ab.step, wanted, W.x] at h
  cases hr : rds env (List.replicate 1 none) [W.s 2, W.s 3] with
  | none => rw [show List.length [({ dst := none, k := K.act (A.mkFunc (Fn.func 35) 0), args := [W.s 2, W.s 3], guard := none } : MOper)] = 1 from rfl, hr] at h; cases h
  | some xs =>
    rw [show List.length [({ dst := none, k := K.act (A.mkFunc (Fn.func 35) 0), args := [W.s 2, W.s 3], guard := none } : MOper)] = 1 from rfl, hr] at h
    cases h
    refine ⟨xs, rfl, ?_⟩
    simp only [rds] at hr
    split at hr
    · cases hr
    · split at hr
      · cases hr
      · rename_i he
        cases hr
        split at he
        · cases he
        · cases he; rfl)
end Go.AbN

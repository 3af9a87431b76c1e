/- What is known of calls is so; the call answers true. No premise. -/
import Derived.Test.YthjniafhfboggaaGreatDoorRU
import Derived.Test.YthjniafhfboggaaGreatDoorPK
namespace Go.AbN
open Go Go.Ab Go.AbQ Go.Proofs

theorem sound (n : Nat) : CallOK Tryz.prog (callN Q (knOf KU) n) := callN_sound ⟨funcs_ok, ku_ok⟩ n

theorem answers : ∃ σ, callN Q (knOf KU) 600 3 [] ⟨[], 0⟩ = some (.bool true, σ) := by
  obtain ⟨r, σ, h1, h2⟩ := runs_of run_true
  refine ⟨σ, h1.trans ?_⟩
  unfold seen at h2
  split at h2
  · subst h2; rfl
  · cases h2
end Go.AbN

/- All that is known is so. Made by program (mkpan.py). No premise. -/
import Derived.Test.YthjniafhfboggaaGreatDoorPW
namespace Go.AbN
open Go Go.Ab Go.Proofs
theorem ptab_ok : ∀ xs cs, (xs, cs) ∈ ptab → ∀ σ, OkAt Tryz.prog 14 xs σ (.tup [.sc (.pointer none), .iface 82 (.ptr σ.objs.length 0)]) (σ.push (.var 93 (cs.map .sc))) := by
  intro xs cs h
  simp only [ptab, List.mem_cons, Prod.mk.injEq, List.not_mem_nil, or_false] at h
  rcases h with ⟨rfl, rfl⟩ | ⟨rfl, rfl⟩ | ⟨rfl, rfl⟩ | ⟨rfl, rfl⟩ | ⟨rfl, rfl⟩ | ⟨rfl, rfl⟩ | ⟨rfl, rfl⟩ | ⟨rfl, rfl⟩
  · exact kn0
  · exact kn1
  · exact kn2
  · exact kn3
  · exact kn4
  · exact kn5
  · exact kn6
  · exact kn7
theorem ku_ok : CallOK Tryz.prog (knOf KU) := by
  intro f xs σ v σ' h
  unfold knOf at h
  by_cases hf : f = 14
  · subst hf
    simp only [KU, caughtK] at h
    split at h
    · rename_i cs hcs
      cases h
      exact ⟨by kernel_rfl, ptab_ok xs cs (findV_spec hcs) σ⟩
    · cases h
  · have hk : KU f = KT f := by
      unfold KU
      split
      · exact absurd rfl hf
      · rfl
    rw [hk] at h
    exact kt_ok f xs σ v σ' h
end Go.AbN

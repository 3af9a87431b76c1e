/- What a step reads and what it writes: steps that don't meet may be taken in any order. No premise but those named. -/
import Derived.Test.YthjniafhfboggaaGreatDoorD6
namespace Go.Ab
open Go

/-- Does an operation look at objects (1), write or make some (2)? -/
def A.sg : A → Nat
  | .load .. | .loadT .. | .lookup .. | .len _ | .str | .callOwn _ | .slicePtr .. => 1
  | .call _ ro | .callv ro | .invoke _ ro => if ro then 1 else 2
  | .store _ | .alloc .. | .box _ | .mkMap | .mapSet _ | .mapDel _ | .appendZ .. | .mapEntry .. | .entryStore | .append .. | .appendNil .. | .makeSlice .. | .unsafeStr _ | .appendB _ | .allocArr _ | .callNew _ | .callF .. | .clearA .. => 2
  | _ => 0

theorem call_ro {call : CallT} {f : FuncId} {xs : List V} {σ : St} {x : V} {σ' : St} (h : callBy call true f xs σ = some (x, σ')) : σ' = σ := by
  simp only [callBy, if_true, callRO] at h
  split at h
  · split at h
    · split at h
      · cases h; rfl
      · cases h
    · cases h
  · cases h

/-- An operation that doesn't write leaves the objects. -/
theorem act_reads {call : CallT} {a : A} {xs : List V} {σ : St} {x : V} {σ' : St} (hs : a.sg ≤ 1) (h : A.act call a xs σ = some (x, σ')) : σ' = σ := by
  cases a <;> simp only [A.sg] at hs <;> simp only [A.act] at h <;> try omega
  case call f ro =>
    cases ro
    · simp at hs
    · exact call_ro h
  case callv ro =>
    cases ro
    · simp at hs
    · simp only [actCallv] at h
      split at h
      · exact call_ro h
      · cases h
  case invoke t ro =>
    cases ro
    · simp at hs
    · simp only [actInvoke] at h
      split at h
      · split at h
        · exact call_ro h
        · cases h
      · cases h
  case callOwn f =>
    unfold Go.Ab.callOwn at h
    split at h
    · split at h
      · split at h
        · split at h
          · cases h; rfl
          · cases h
        · cases h
      · cases h
    · cases h; rfl
    · cases h
  all_goals try simp only [actImin, actCapS, actAggEq, actAssertI, actAssertT, actBbin, actBuild, actBuildSlice, actBytes, actChr, actConv, actExtract, actField, actFieldAddr, actIbin, actIndexAddr, actIndexAgg, actIndexStr, actIndexPtr, actSlicePtr, actLen, actLoad, actLoadT, actLookup, actMkIface, actNeg, actNilCheck, actNilif, actNilsl, actNilp, actNot, actPick, actPtrEq, actPtrMov, actSbin, actShift, actSliceData, actSliceS, actSliceStr, actStr] at h
  all_goals (repeat' split at h)
  all_goals
    first
      | (cases h; done)
      | (cases h; rfl)
      | (simp only [Option.map_eq_some_iff, Prod.mk.injEq] at h; obtain ⟨_, _, _, h⟩ := h; exact h.symm)

theorem act_key {call : CallT} {a : A} {xs : List V} (hs : a.sg = 0) (σ2 : St) : A.act call a xs σ2 = (A.act call a xs ⟨[], 0⟩).map fun p => (p.1, σ2) := by
  cases a <;> simp only [A.sg] at hs <;> first | (cases hs; done) | (split at hs <;> cases hs; done) | skip
  all_goals simp only [A.act, actImin, actCapS, actAggEq, actAssertI, actAssertT, actBbin, actBuild, actBuildSlice, actBytes, actChr, actConv, actExtract, actField, actFieldAddr, actIbin, actIndexAddr, actIndexAgg, actIndexStr, actIndexPtr, actSlicePtr, actLen, actLoad, actLookup, actMkIface, actNeg, actNilCheck, actNilif, actNilsl, actNilp, actNot, actPick, actPtrEq, actPtrMov, actSbin, actShift, actSliceData, actSliceS, actSliceStr, actStr]
  all_goals (repeat' split)
  all_goals first | rfl | (rw [Option.map_map]; rfl) | (simp; done) | (simp_all; done)
/-- An operation that doesn't look at objects says the same whatever they are. -/
theorem act_blind {call : CallT} {a : A} {xs : List V} {σ : St} {x : V} {σ' : St} (hs : a.sg = 0) (h : A.act call a xs σ = some (x, σ')) (σ2 : St) : A.act call a xs σ2 = some (x, σ2) := by
  rw [act_key hs] at h
  rw [act_key hs]
  cases hq : A.act call a xs ⟨[], 0⟩ with
  | none => rw [hq] at h; cases h
  | some p => rw [hq] at h; simp at h; simp [h.1]
end Go.Ab

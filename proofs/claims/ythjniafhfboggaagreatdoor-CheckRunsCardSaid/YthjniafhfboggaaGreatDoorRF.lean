/- The closed facts of the row of CheckRuns, one by one. No premise. -/
import Derived.Test.YthjniafhfboggaaGreatDoorCards
import Derived.JoinedOf
import Derived.JoinedCond
namespace Go.Proofs.YthjniafhfboggaaGreatDoor.Runs
open Go
noncomputable abbrev P0 : Program := Tryz.pinned.checked.prog
abbrev c0 : OpenClaim := Rows.checkRunsRow
abbrev s0 : ChangeSpec := (OpenSpec.ofChange Rows.checkRunsSpec).bare
noncomputable abbrev ts : List TypeId := Tryz.f3.params.toList ++ s0.plain.varTypes P0
theorem k01 : (c0.wf (OpenSpec.ofChange s0)) = true := by kernel_rfl
theorem k02 : laidOutB P0 = true := by kernel_rfl
theorem k03 : mapsRowed P0 = true := by kernel_rfl
theorem k04 : Tryz.f3.params.all (P0.readableRec ·) = true := by kernel_rfl
theorem k05 : namedTie P0 c0.named s0.vars = true := by kernel_rfl
theorem k06 : (c0.stops == []) = true := by kernel_rfl
theorem k07 : (P0.stops == []) = true := by kernel_rfl
theorem k08 : (c0.knobs == []) = true := by kernel_rfl
theorem k09 : (P0.stopKnobs == []) = true := by kernel_rfl
theorem k10 : (c0.inPlace == P0.inPlace 3) = true := by kernel_rfl
theorem k11 : (c0.unfollowed == P0.unfollowed 3) = true := by kernel_rfl
theorem k12 : (c0.recurses == P0.recurses 3) = true := by kernel_rfl
theorem k13 : (c0.named == P0.varsNamed 3) = true := by kernel_rfl
theorem k14 : (c0.maps == ts.any (P0.mapsRec ·)) = true := by kernel_rfl
theorem k15 : (c0.ifaces == ts.any (P0.ifacesRec ·)) = true := by kernel_rfl
theorem k16 : (c0.mapsOut == P0.mapsAmong Tryz.f3.resultTypes.toList) = true := by kernel_rfl
theorem k17 : (c0.loops == ts.any (P0.loopsFrom ·)) = true := by kernel_rfl
theorem k18 : (c0.wideKeys == (ts ++ Tryz.f3.resultTypes.toList).any (P0.wideKeysFrom ·)) = true := by kernel_rfl
theorem k19 : s0.vars.all (P0.varReadable ·) = true := by kernel_rfl
theorem k20 : Tryz.f3.resultTypes.all (fun t => P0.readableRec t && decide (t < P0.types.size)) = true := by kernel_rfl
theorem k21 : (c0.ifacesOut == Tryz.f3.resultTypes.toList.any (P0.ifacesRec ·)) = true := by kernel_rfl
theorem k22 : (c0.loopsOut == Tryz.f3.resultTypes.toList.any (P0.loopsFrom ·)) = true := by kernel_rfl
theorem k23 : (c0.plainKeys == P0.plainKeys) = true := by kernel_rfl
theorem k24 : c0.shortTexts.isNone = true := by kernel_rfl
theorem k25 : P0.stopsHeard = true := by kernel_rfl
theorem k26 : P0.mayEnter = true := by kernel_rfl
theorem k27 : (c0.lifted == P0.liftsFinal) = true := by kernel_rfl
theorem k28 : (P0.make == some c0.make) = true := by kernel_rfl
theorem k30 : (c0.pinned == c0.pinnedBy) = true := by kernel_rfl
theorem k31 : (c0.veiled == (ts ++ Tryz.f3.resultTypes.toList).any (P0.veiledRec ·)) = true := by kernel_rfl
theorem k32 : c0.veiledFits P0 Tryz.f3.params.toList (ts ++ Tryz.f3.resultTypes.toList) = true := by kernel_rfl
theorem facts : joinedFacts P0 3 Tryz.f3 s0 c0 = true := by
  unfold joinedFacts
  simp only [k01, k02, k03, k04, k05, k06, k07, k08, k09, k10, k11, k12, k13, k14, k15, k16, k17, k18, k19, k20, k21, k22, k23, k24, k25, k26, k27, k28, k30, k31, k32, Bool.and_true, Bool.true_and]
  kernel_rfl
end Go.Proofs.YthjniafhfboggaaGreatDoor.Runs

/-
  DERIVED. GIVEN WITH THE SEED: THE CARDS: each row of YthbebafhngihgaaGreatDoorRows.lean that lists a variable, with what it lists TIED to the program's text (the seventh form; the later family's looks); each row that meets fmt, with fmt's text TOLD by the authors' own Lean function (tested against real Go, not proved from fmt's source: count such statements apart). THE CARD IS WHAT COUNTS. Prove the row's statement (the work); the ties are given (YthbebafhngihgaaGreatDoorTie.lean); close each card by the builder's one call (the guide's Derived/Test/ToyasCard.lean, 'card_holds'). Laid BY PROGRAM, IN A SANDBOX (cutbox-door.mjs). By AI agents, Wed Nov 11 2026. No macro, syntax, notation, axiom, sorry.
-/
import Derived.Test.YthbebafhngihgaaGreatDoorRows
import GoSem.ClaimSeven
namespace Go.Proofs.YthbebafhngihgaaGreatDoor
namespace Rows

/-- THE TIED CARD OF 'coillaw4.GraphRuns'. -/
def graphRunsCard : Claim7 := { stood := { row := graphRunsRow, standIns := [], harness := (true, "5ebc7cddbb88f277e9b445a1073618504062a5b479086ed9f329d1d5086b2d49"), looks := true }, kinds := [], alts := [], laidByText := true, laidKinds := [.data, .data, .data, .handle, .sentinel, .sentinel, .listed, .data], laidTests := true, laidLooks := .later }
def GraphRunsCardSaid : Prop := Claim7.holds Tryz.pinned (.plain (OpenSpec.ofChange graphRunsSpec)) graphRunsCard

/-- THE TIED CARD OF 'coillaw4.GraphMore'. -/
def graphMoreCard : Claim7 := { stood := { row := graphMoreRow, standIns := [], harness := (true, "5ebc7cddbb88f277e9b445a1073618504062a5b479086ed9f329d1d5086b2d49"), looks := true }, kinds := [], alts := [], laidByText := true, laidKinds := [.data, .data, .data, .handle, .sentinel, .sentinel, .listed, .data], laidTests := true, laidLooks := .later }
def GraphMoreCardSaid : Prop := Claim7.holds Tryz.pinned (.plain (OpenSpec.ofChange graphMoreSpec)) graphMoreCard

/-- THE TIED CARD OF 'coillaw4.GraphCounts'. -/
def graphCountsCard : Claim7 := { stood := { row := graphCountsRow, standIns := [], harness := (true, "5ebc7cddbb88f277e9b445a1073618504062a5b479086ed9f329d1d5086b2d49"), looks := true }, kinds := [], alts := [], laidByText := true, laidKinds := [.data, .data, .data, .handle, .sentinel, .sentinel, .listed, .data], laidTests := true, laidLooks := .later }
def GraphCountsCardSaid : Prop := Claim7.holds Tryz.pinned (.plain (OpenSpec.ofChange graphCountsSpec)) graphCountsCard

/-- THE TIED CARD OF 'coillaw4.GraphCopies'. -/
def graphCopiesCard : Claim7 := { stood := { row := graphCopiesRow, standIns := [], harness := (true, "5ebc7cddbb88f277e9b445a1073618504062a5b479086ed9f329d1d5086b2d49"), looks := true }, kinds := [], alts := [], laidByText := true, laidKinds := [.data, .data, .data, .handle, .sentinel, .sentinel, .listed, .data], laidTests := true, laidLooks := .later }
def GraphCopiesCardSaid : Prop := Claim7.holds Tryz.pinned (.plain (OpenSpec.ofChange graphCopiesSpec)) graphCopiesCard

/-- THE TIED CARD OF 'coillaw4.GraphGrown'. -/
def graphGrownCard : Claim7 := { stood := { row := graphGrownRow, standIns := [], harness := (true, "5ebc7cddbb88f277e9b445a1073618504062a5b479086ed9f329d1d5086b2d49"), looks := true }, kinds := [], alts := [], laidByText := true, laidKinds := [.data, .data, .data, .handle, .sentinel, .sentinel, .listed, .data], laidTests := true, laidLooks := .later }
def GraphGrownCardSaid : Prop := Claim7.holds Tryz.pinned (.plain (OpenSpec.ofChange graphGrownSpec)) graphGrownCard

/-- THE TIED CARD OF 'coillaw4.GraphKept'. -/
def graphKeptCard : Claim7 := { stood := { row := graphKeptRow, standIns := [], harness := (true, "5ebc7cddbb88f277e9b445a1073618504062a5b479086ed9f329d1d5086b2d49"), looks := true }, kinds := [], alts := [], laidByText := true, laidKinds := [.data, .data, .data, .handle, .sentinel, .sentinel, .listed, .data], laidTests := true, laidLooks := .later }
def GraphKeptCardSaid : Prop := Claim7.holds Tryz.pinned (.plain (OpenSpec.ofChange graphKeptSpec)) graphKeptCard

/-- THE TIED CARD OF 'coillaw4.GraphOrders'. -/
def graphOrdersCard : Claim7 := { stood := { row := graphOrdersRow, standIns := [], harness := (true, "5ebc7cddbb88f277e9b445a1073618504062a5b479086ed9f329d1d5086b2d49"), looks := true }, kinds := [], alts := [], laidByText := true, laidKinds := [.data, .data, .data, .handle, .sentinel, .sentinel, .listed, .data], laidTests := true, laidLooks := .later }
def GraphOrdersCardSaid : Prop := Claim7.holds Tryz.pinned (.plain (OpenSpec.ofChange graphOrdersSpec)) graphOrdersCard

/-- THE TIED CARD OF 'coillaw4.GraphNamed'. -/
def graphNamedCard : Claim7 := { stood := { row := graphNamedRow, standIns := [], harness := (true, "5ebc7cddbb88f277e9b445a1073618504062a5b479086ed9f329d1d5086b2d49"), looks := true }, kinds := [], alts := [], laidByText := true, laidKinds := [.data, .data, .data, .handle, .sentinel, .sentinel, .listed, .data], laidTests := true, laidLooks := .later }
def GraphNamedCardSaid : Prop := Claim7.holds Tryz.pinned (.plain (OpenSpec.ofChange graphNamedSpec)) graphNamedCard

/-- THE TIED CARD OF 'coillaw4.GraphNews'. -/
def graphNewsCard : Claim7 := { stood := { row := graphNewsRow, standIns := [], harness := (true, "5ebc7cddbb88f277e9b445a1073618504062a5b479086ed9f329d1d5086b2d49"), looks := true }, kinds := [], alts := [], laidByText := true, laidKinds := [.data, .data, .data, .handle, .sentinel, .sentinel, .listed, .data], laidTests := true, laidLooks := .later }
def GraphNewsCardSaid : Prop := Claim7.holds Tryz.pinned (.plain (OpenSpec.ofChange graphNewsSpec)) graphNewsCard

/-- THE TIED CARD OF 'coillaw4.GraphAdds'. -/
def graphAddsCard : Claim7 := { stood := { row := graphAddsRow, standIns := [], harness := (true, "5ebc7cddbb88f277e9b445a1073618504062a5b479086ed9f329d1d5086b2d49"), looks := true }, kinds := [], alts := [], laidByText := true, laidKinds := [.data, .data, .data, .handle, .sentinel, .sentinel, .listed, .data], laidTests := true, laidLooks := .later }
def GraphAddsCardSaid : Prop := Claim7.holds Tryz.pinned (.plain (OpenSpec.ofChange graphAddsSpec)) graphAddsCard

/-- THE SECOND FORM's CARD OF 'coillaw4.GraphRuns'. -/
def graphRunsUptoCard : Claim7 := { stood := { row := graphRunsUptoRow, standIns := [], harness := (true, "5ebc7cddbb88f277e9b445a1073618504062a5b479086ed9f329d1d5086b2d49"), looks := true }, kinds := [], alts := [], laidByText := true, laidKinds := [.data, .data, .data, .handle, .sentinel, .sentinel, .listed, .data], laidTests := true, laidLooks := .later }
def GraphRunsUptoCardSaid : Prop := Claim7.holds Tryz.pinned (.plain (OpenSpec.upto graphRunsSpec)) graphRunsUptoCard

/-- THE SECOND FORM's CARD OF 'coillaw4.GraphMore'. -/
def graphMoreUptoCard : Claim7 := { stood := { row := graphMoreUptoRow, standIns := [], harness := (true, "5ebc7cddbb88f277e9b445a1073618504062a5b479086ed9f329d1d5086b2d49"), looks := true }, kinds := [], alts := [], laidByText := true, laidKinds := [.data, .data, .data, .handle, .sentinel, .sentinel, .listed, .data], laidTests := true, laidLooks := .later }
def GraphMoreUptoCardSaid : Prop := Claim7.holds Tryz.pinned (.plain (OpenSpec.upto graphMoreSpec)) graphMoreUptoCard

/-- THE SECOND FORM's CARD OF 'coillaw4.GraphCounts'. -/
def graphCountsUptoCard : Claim7 := { stood := { row := graphCountsUptoRow, standIns := [], harness := (true, "5ebc7cddbb88f277e9b445a1073618504062a5b479086ed9f329d1d5086b2d49"), looks := true }, kinds := [], alts := [], laidByText := true, laidKinds := [.data, .data, .data, .handle, .sentinel, .sentinel, .listed, .data], laidTests := true, laidLooks := .later }
def GraphCountsUptoCardSaid : Prop := Claim7.holds Tryz.pinned (.plain (OpenSpec.upto graphCountsSpec)) graphCountsUptoCard

/-- THE SECOND FORM's CARD OF 'coillaw4.GraphCopies'. -/
def graphCopiesUptoCard : Claim7 := { stood := { row := graphCopiesUptoRow, standIns := [], harness := (true, "5ebc7cddbb88f277e9b445a1073618504062a5b479086ed9f329d1d5086b2d49"), looks := true }, kinds := [], alts := [], laidByText := true, laidKinds := [.data, .data, .data, .handle, .sentinel, .sentinel, .listed, .data], laidTests := true, laidLooks := .later }
def GraphCopiesUptoCardSaid : Prop := Claim7.holds Tryz.pinned (.plain (OpenSpec.upto graphCopiesSpec)) graphCopiesUptoCard

/-- THE SECOND FORM's CARD OF 'coillaw4.GraphGrown'. -/
def graphGrownUptoCard : Claim7 := { stood := { row := graphGrownUptoRow, standIns := [], harness := (true, "5ebc7cddbb88f277e9b445a1073618504062a5b479086ed9f329d1d5086b2d49"), looks := true }, kinds := [], alts := [], laidByText := true, laidKinds := [.data, .data, .data, .handle, .sentinel, .sentinel, .listed, .data], laidTests := true, laidLooks := .later }
def GraphGrownUptoCardSaid : Prop := Claim7.holds Tryz.pinned (.plain (OpenSpec.upto graphGrownSpec)) graphGrownUptoCard

/-- THE SECOND FORM's CARD OF 'coillaw4.GraphKept'. -/
def graphKeptUptoCard : Claim7 := { stood := { row := graphKeptUptoRow, standIns := [], harness := (true, "5ebc7cddbb88f277e9b445a1073618504062a5b479086ed9f329d1d5086b2d49"), looks := true }, kinds := [], alts := [], laidByText := true, laidKinds := [.data, .data, .data, .handle, .sentinel, .sentinel, .listed, .data], laidTests := true, laidLooks := .later }
def GraphKeptUptoCardSaid : Prop := Claim7.holds Tryz.pinned (.plain (OpenSpec.upto graphKeptSpec)) graphKeptUptoCard

/-- THE SECOND FORM's CARD OF 'coillaw4.GraphOrders'. -/
def graphOrdersUptoCard : Claim7 := { stood := { row := graphOrdersUptoRow, standIns := [], harness := (true, "5ebc7cddbb88f277e9b445a1073618504062a5b479086ed9f329d1d5086b2d49"), looks := true }, kinds := [], alts := [], laidByText := true, laidKinds := [.data, .data, .data, .handle, .sentinel, .sentinel, .listed, .data], laidTests := true, laidLooks := .later }
def GraphOrdersUptoCardSaid : Prop := Claim7.holds Tryz.pinned (.plain (OpenSpec.upto graphOrdersSpec)) graphOrdersUptoCard

/-- THE SECOND FORM's CARD OF 'coillaw4.GraphNamed'. -/
def graphNamedUptoCard : Claim7 := { stood := { row := graphNamedUptoRow, standIns := [], harness := (true, "5ebc7cddbb88f277e9b445a1073618504062a5b479086ed9f329d1d5086b2d49"), looks := true }, kinds := [], alts := [], laidByText := true, laidKinds := [.data, .data, .data, .handle, .sentinel, .sentinel, .listed, .data], laidTests := true, laidLooks := .later }
def GraphNamedUptoCardSaid : Prop := Claim7.holds Tryz.pinned (.plain (OpenSpec.upto graphNamedSpec)) graphNamedUptoCard

/-- THE SECOND FORM's CARD OF 'coillaw4.GraphNews'. -/
def graphNewsUptoCard : Claim7 := { stood := { row := graphNewsUptoRow, standIns := [], harness := (true, "5ebc7cddbb88f277e9b445a1073618504062a5b479086ed9f329d1d5086b2d49"), looks := true }, kinds := [], alts := [], laidByText := true, laidKinds := [.data, .data, .data, .handle, .sentinel, .sentinel, .listed, .data], laidTests := true, laidLooks := .later }
def GraphNewsUptoCardSaid : Prop := Claim7.holds Tryz.pinned (.plain (OpenSpec.upto graphNewsSpec)) graphNewsUptoCard

/-- THE SECOND FORM's CARD OF 'coillaw4.GraphAdds'. -/
def graphAddsUptoCard : Claim7 := { stood := { row := graphAddsUptoRow, standIns := [], harness := (true, "5ebc7cddbb88f277e9b445a1073618504062a5b479086ed9f329d1d5086b2d49"), looks := true }, kinds := [], alts := [], laidByText := true, laidKinds := [.data, .data, .data, .handle, .sentinel, .sentinel, .listed, .data], laidTests := true, laidLooks := .later }
def GraphAddsUptoCardSaid : Prop := Claim7.holds Tryz.pinned (.plain (OpenSpec.upto graphAddsSpec)) graphAddsUptoCard
end Rows
end Go.Proofs.YthbebafhngihgaaGreatDoor

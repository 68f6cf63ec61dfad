/-
  DERIVED. GIVEN WITH THE SEED: THE CARDS: each row of YtdmmeinkligmcaaGreatDoorRows.lean that lists a variable, with what it lists TIED to the program's text (the seventh form; the later family's looks); each row that meets fmt, with fmt's text TOLD by the authors' own Lean function (tested against real Go, not proved from fmt's source: count such statements apart). THE CARD IS WHAT COUNTS. Prove the row's statement (the work); the ties are given (YtdmmeinkligmcaaGreatDoorTie.lean); close each card by the builder's one call (the guide's Derived/Test/ToyasCard.lean, 'card_holds'). Laid BY PROGRAM, IN A SANDBOX (cutbox-door.mjs). By AI agents, Wed Nov 11 2026. No macro, syntax, notation, axiom, sorry.
-/
import Derived.Test.YtdmmeinkligmcaaGreatDoorRows
import GoSem.ClaimSeven
namespace Go.Proofs.YtdmmeinkligmcaaGreatDoor
namespace Rows

/-- THE TIED CARD OF 'muslinlaw14.TreeBuilds'. -/
def treeBuildsCard : Claim7 := { stood := { row := treeBuildsRow, standIns := [], harness := (true, "2be9ea107eeb274efc2dd2a519aa3f5de34d81dd20c0084d095c8f51f686343c"), looks := true }, kinds := [], alts := [], laidByText := true, laidKinds := [.data, .data, .data, .data, .sentinel, .sentinel, .data, .pinned], laidTests := true, laidLooks := .later }
def TreeBuildsCardSaid : Prop := Claim7.holds Tryz.pinned (.plain (OpenSpec.ofChange treeBuildsSpec)) treeBuildsCard

/-- THE TIED CARD OF 'muslinlaw14.TreeCloses'. -/
def treeClosesCard : Claim7 := { stood := { row := treeClosesRow, standIns := [], harness := (true, "2be9ea107eeb274efc2dd2a519aa3f5de34d81dd20c0084d095c8f51f686343c"), looks := true }, kinds := [], alts := [], laidByText := true, laidKinds := [.data, .data, .data, .data, .sentinel, .sentinel, .data, .pinned], laidTests := true, laidLooks := .later }
def TreeClosesCardSaid : Prop := Claim7.holds Tryz.pinned (.plain (OpenSpec.ofChange treeClosesSpec)) treeClosesCard

/-- THE TIED CARD OF 'muslinlaw14.TreeRight'. -/
def treeRightCard : Claim7 := { stood := { row := treeRightRow, standIns := [], harness := (true, "2be9ea107eeb274efc2dd2a519aa3f5de34d81dd20c0084d095c8f51f686343c"), looks := true }, kinds := [], alts := [], laidByText := true, laidKinds := [.data, .data, .data, .data, .sentinel, .sentinel, .data, .pinned], laidTests := true, laidLooks := .later }
def TreeRightCardSaid : Prop := Claim7.holds Tryz.pinned (.plain (OpenSpec.ofChange treeRightSpec)) treeRightCard

/-- THE TIED CARD OF 'muslinlaw14.TreeNests'. -/
def treeNestsCard : Claim7 := { stood := { row := treeNestsRow, standIns := [], harness := (true, "2be9ea107eeb274efc2dd2a519aa3f5de34d81dd20c0084d095c8f51f686343c"), looks := true }, kinds := [], alts := [], laidByText := true, laidKinds := [.data, .data, .data, .data, .sentinel, .sentinel, .data, .pinned], laidTests := true, laidLooks := .later }
def TreeNestsCardSaid : Prop := Claim7.holds Tryz.pinned (.plain (OpenSpec.ofChange treeNestsSpec)) treeNestsCard

/-- THE TIED CARD OF 'muslinlaw14.TreeText'. -/
def treeTextCard : Claim7 := { stood := { row := treeTextRow, standIns := [], harness := (true, "2be9ea107eeb274efc2dd2a519aa3f5de34d81dd20c0084d095c8f51f686343c"), looks := true }, kinds := [], alts := [], laidByText := true, laidKinds := [.data, .data, .data, .data, .sentinel, .sentinel, .data, .pinned], laidTests := true, laidLooks := .later }
def TreeTextCardSaid : Prop := Claim7.holds Tryz.pinned (.plain (OpenSpec.ofChange treeTextSpec)) treeTextCard

/-- THE TIED CARD OF 'muslinlaw14.TreeEnds'. -/
def treeEndsCard : Claim7 := { stood := { row := treeEndsRow, standIns := [], harness := (true, "2be9ea107eeb274efc2dd2a519aa3f5de34d81dd20c0084d095c8f51f686343c"), looks := true }, kinds := [], alts := [], laidByText := true, laidKinds := [.data, .data, .data, .data, .sentinel, .sentinel, .data, .pinned], laidTests := true, laidLooks := .later }
def TreeEndsCardSaid : Prop := Claim7.holds Tryz.pinned (.plain (OpenSpec.ofChange treeEndsSpec)) treeEndsCard

/-- THE TIED CARD OF 'muslinlaw14.TreeLists'. -/
def treeListsCard : Claim7 := { stood := { row := treeListsRow, standIns := [], harness := (true, "2be9ea107eeb274efc2dd2a519aa3f5de34d81dd20c0084d095c8f51f686343c"), looks := true }, kinds := [], alts := [], laidByText := true, laidKinds := [.data, .data, .data, .data, .sentinel, .sentinel, .data, .pinned], laidTests := true, laidLooks := .later }
def TreeListsCardSaid : Prop := Claim7.holds Tryz.pinned (.plain (OpenSpec.ofChange treeListsSpec)) treeListsCard

/-- THE SECOND FORM's CARD OF 'muslinlaw14.TreeBuilds'. -/
def treeBuildsUptoCard : Claim7 := { stood := { row := treeBuildsUptoRow, standIns := [], harness := (true, "2be9ea107eeb274efc2dd2a519aa3f5de34d81dd20c0084d095c8f51f686343c"), looks := true }, kinds := [], alts := [], laidByText := true, laidKinds := [.data, .data, .data, .data, .sentinel, .sentinel, .data, .pinned], laidTests := true, laidLooks := .later }
def TreeBuildsUptoCardSaid : Prop := Claim7.holds Tryz.pinned (.plain (OpenSpec.upto treeBuildsSpec)) treeBuildsUptoCard

/-- THE SECOND FORM's CARD OF 'muslinlaw14.TreeCloses'. -/
def treeClosesUptoCard : Claim7 := { stood := { row := treeClosesUptoRow, standIns := [], harness := (true, "2be9ea107eeb274efc2dd2a519aa3f5de34d81dd20c0084d095c8f51f686343c"), looks := true }, kinds := [], alts := [], laidByText := true, laidKinds := [.data, .data, .data, .data, .sentinel, .sentinel, .data, .pinned], laidTests := true, laidLooks := .later }
def TreeClosesUptoCardSaid : Prop := Claim7.holds Tryz.pinned (.plain (OpenSpec.upto treeClosesSpec)) treeClosesUptoCard

/-- THE SECOND FORM's CARD OF 'muslinlaw14.TreeRight'. -/
def treeRightUptoCard : Claim7 := { stood := { row := treeRightUptoRow, standIns := [], harness := (true, "2be9ea107eeb274efc2dd2a519aa3f5de34d81dd20c0084d095c8f51f686343c"), looks := true }, kinds := [], alts := [], laidByText := true, laidKinds := [.data, .data, .data, .data, .sentinel, .sentinel, .data, .pinned], laidTests := true, laidLooks := .later }
def TreeRightUptoCardSaid : Prop := Claim7.holds Tryz.pinned (.plain (OpenSpec.upto treeRightSpec)) treeRightUptoCard

/-- THE SECOND FORM's CARD OF 'muslinlaw14.TreeNests'. -/
def treeNestsUptoCard : Claim7 := { stood := { row := treeNestsUptoRow, standIns := [], harness := (true, "2be9ea107eeb274efc2dd2a519aa3f5de34d81dd20c0084d095c8f51f686343c"), looks := true }, kinds := [], alts := [], laidByText := true, laidKinds := [.data, .data, .data, .data, .sentinel, .sentinel, .data, .pinned], laidTests := true, laidLooks := .later }
def TreeNestsUptoCardSaid : Prop := Claim7.holds Tryz.pinned (.plain (OpenSpec.upto treeNestsSpec)) treeNestsUptoCard

/-- THE SECOND FORM's CARD OF 'muslinlaw14.TreeText'. -/
def treeTextUptoCard : Claim7 := { stood := { row := treeTextUptoRow, standIns := [], harness := (true, "2be9ea107eeb274efc2dd2a519aa3f5de34d81dd20c0084d095c8f51f686343c"), looks := true }, kinds := [], alts := [], laidByText := true, laidKinds := [.data, .data, .data, .data, .sentinel, .sentinel, .data, .pinned], laidTests := true, laidLooks := .later }
def TreeTextUptoCardSaid : Prop := Claim7.holds Tryz.pinned (.plain (OpenSpec.upto treeTextSpec)) treeTextUptoCard

/-- THE SECOND FORM's CARD OF 'muslinlaw14.TreeEnds'. -/
def treeEndsUptoCard : Claim7 := { stood := { row := treeEndsUptoRow, standIns := [], harness := (true, "2be9ea107eeb274efc2dd2a519aa3f5de34d81dd20c0084d095c8f51f686343c"), looks := true }, kinds := [], alts := [], laidByText := true, laidKinds := [.data, .data, .data, .data, .sentinel, .sentinel, .data, .pinned], laidTests := true, laidLooks := .later }
def TreeEndsUptoCardSaid : Prop := Claim7.holds Tryz.pinned (.plain (OpenSpec.upto treeEndsSpec)) treeEndsUptoCard

/-- THE SECOND FORM's CARD OF 'muslinlaw14.TreeLists'. -/
def treeListsUptoCard : Claim7 := { stood := { row := treeListsUptoRow, standIns := [], harness := (true, "2be9ea107eeb274efc2dd2a519aa3f5de34d81dd20c0084d095c8f51f686343c"), looks := true }, kinds := [], alts := [], laidByText := true, laidKinds := [.data, .data, .data, .data, .sentinel, .sentinel, .data, .pinned], laidTests := true, laidLooks := .later }
def TreeListsUptoCardSaid : Prop := Claim7.holds Tryz.pinned (.plain (OpenSpec.upto treeListsSpec)) treeListsUptoCard
end Rows
end Go.Proofs.YtdmmeinkligmcaaGreatDoor

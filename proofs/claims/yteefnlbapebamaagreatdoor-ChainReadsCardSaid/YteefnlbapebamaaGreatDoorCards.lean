/-
  DERIVED. GIVEN WITH THE SEED: THE CARDS: each row of YteefnlbapebamaaGreatDoorRows.lean that lists a variable, with what it lists TIED to the program's text (the seventh form; the later family's looks); each row that meets fmt, with fmt's text TOLD by the authors' own Lean function (tested against real Go, not proved from fmt's source: count such statements apart). THE CARD IS WHAT COUNTS. Prove the row's statement (the work); the ties are given (YteefnlbapebamaaGreatDoorTie.lean); close each card by the builder's one call (the guide's Derived/Test/ToyasCard.lean, 'card_holds'). Laid BY PROGRAM, IN A SANDBOX (cutbox-door.mjs). By AI agents, Wed Nov 11 2026. No macro, syntax, notation, axiom, sorry.
-/
import Derived.Test.YteefnlbapebamaaGreatDoorRows
import GoSem.ClaimSeven
namespace Go.Proofs.YteefnlbapebamaaGreatDoor
namespace Rows

/-- THE TIED CARD OF 'respitelaw18.ChainFinds'. -/
def chainFindsCard : Claim7 := { stood := { row := chainFindsRow, standIns := [], harness := (true, "05423b7169ecd8f2f4add70b75bce452386bc81a91bb1475097dc01f9c86b3b8"), looks := true }, kinds := [], alts := [], laidByText := true, laidKinds := [.data, .data, .data, .data, .handle, .sentinel, .sentinel, .pinned], laidTests := true, laidLooks := .later }
def ChainFindsCardSaid : Prop := Claim7.holds Tryz.pinned (.plain (OpenSpec.ofChange chainFindsSpec)) chainFindsCard

/-- THE TIED CARD OF 'respitelaw11.SpinInside'. -/
def spinInsideCard : Claim7 := { stood := { row := spinInsideRow, standIns := [], harness := (true, "05423b7169ecd8f2f4add70b75bce452386bc81a91bb1475097dc01f9c86b3b8"), looks := true }, kinds := [], alts := [], laidByText := true, laidKinds := [.data, .data, .data, .data, .handle, .sentinel, .sentinel, .pinned], laidTests := true, laidLooks := .later }
def SpinInsideCardSaid : Prop := Claim7.holds Tryz.pinned (.plain (OpenSpec.ofChange spinInsideSpec)) spinInsideCard

/-- THE TIED CARD OF 'respitelaw11.SpinCounts'. -/
def spinCountsCard : Claim7 := { stood := { row := spinCountsRow, standIns := [], harness := (true, "05423b7169ecd8f2f4add70b75bce452386bc81a91bb1475097dc01f9c86b3b8"), looks := true }, kinds := [], alts := [], laidByText := true, laidKinds := [.data, .data, .data, .data, .handle, .sentinel, .sentinel, .pinned], laidTests := true, laidLooks := .later }
def SpinCountsCardSaid : Prop := Claim7.holds Tryz.pinned (.plain (OpenSpec.ofChange spinCountsSpec)) spinCountsCard

/-- THE TIED CARD OF 'respitelaw18.ChainReads'. -/
def chainReadsCard : Claim7 := { stood := { row := chainReadsRow, standIns := [], harness := (true, "05423b7169ecd8f2f4add70b75bce452386bc81a91bb1475097dc01f9c86b3b8"), looks := true }, kinds := [], alts := [], laidByText := true, laidKinds := [.data, .data, .data, .data, .handle, .sentinel, .sentinel, .pinned], laidTests := true, laidLooks := .later }
def ChainReadsCardSaid : Prop := Claim7.holds Tryz.pinned (.plain (OpenSpec.ofChange chainReadsSpec)) chainReadsCard

/-- THE TIED CARD OF 'respitelaw11.SpinEnds'. -/
def spinEndsCard : Claim7 := { stood := { row := spinEndsRow, standIns := [], harness := (true, "05423b7169ecd8f2f4add70b75bce452386bc81a91bb1475097dc01f9c86b3b8"), looks := true }, kinds := [], alts := [], laidByText := true, laidKinds := [.data, .data, .data, .data, .handle, .sentinel, .sentinel, .pinned], laidTests := true, laidLooks := .later }
def SpinEndsCardSaid : Prop := Claim7.holds Tryz.pinned (.plain (OpenSpec.ofChange spinEndsSpec)) spinEndsCard

/-- THE TIED CARD OF 'respitelaw16.UrcuLays'. -/
def urcuLaysCard : Claim7 := { stood := { row := urcuLaysRow, standIns := [], harness := (true, "05423b7169ecd8f2f4add70b75bce452386bc81a91bb1475097dc01f9c86b3b8"), looks := true }, kinds := [], alts := [], laidByText := true, laidKinds := [.data, .data, .data, .data, .handle, .sentinel, .sentinel, .pinned], laidTests := true, laidLooks := .later }
def UrcuLaysCardSaid : Prop := Claim7.holds Tryz.pinned (.plain (OpenSpec.ofChange urcuLaysSpec)) urcuLaysCard

/-- THE TIED CARD OF 'respitelaw16.UrcuMakes'. -/
def urcuMakesCard : Claim7 := { stood := { row := urcuMakesRow, standIns := [], harness := (true, "05423b7169ecd8f2f4add70b75bce452386bc81a91bb1475097dc01f9c86b3b8"), looks := true }, kinds := [], alts := [], laidByText := true, laidKinds := [.data, .data, .data, .data, .handle, .sentinel, .sentinel, .pinned], laidTests := true, laidLooks := .later }
def UrcuMakesCardSaid : Prop := Claim7.holds Tryz.pinned (.plain (OpenSpec.ofChange urcuMakesSpec)) urcuMakesCard

/-- THE TIED CARD OF 'respitelaw16.UrcuRuns'. -/
def urcuRunsCard : Claim7 := { stood := { row := urcuRunsRow, standIns := [], harness := (true, "05423b7169ecd8f2f4add70b75bce452386bc81a91bb1475097dc01f9c86b3b8"), looks := true }, kinds := [], alts := [], laidByText := true, laidKinds := [.data, .data, .data, .data, .handle, .sentinel, .sentinel, .pinned], laidTests := true, laidLooks := .later }
def UrcuRunsCardSaid : Prop := Claim7.holds Tryz.pinned (.plain (OpenSpec.ofChange urcuRunsSpec)) urcuRunsCard

/-- THE SECOND FORM's CARD OF 'respitelaw18.ChainFinds'. -/
def chainFindsUptoCard : Claim7 := { stood := { row := chainFindsUptoRow, standIns := [], harness := (true, "05423b7169ecd8f2f4add70b75bce452386bc81a91bb1475097dc01f9c86b3b8"), looks := true }, kinds := [], alts := [], laidByText := true, laidKinds := [.data, .data, .data, .data, .handle, .sentinel, .sentinel, .pinned], laidTests := true, laidLooks := .later }
def ChainFindsUptoCardSaid : Prop := Claim7.holds Tryz.pinned (.plain (OpenSpec.upto chainFindsSpec)) chainFindsUptoCard

/-- THE SECOND FORM's CARD OF 'respitelaw11.SpinInside'. -/
def spinInsideUptoCard : Claim7 := { stood := { row := spinInsideUptoRow, standIns := [], harness := (true, "05423b7169ecd8f2f4add70b75bce452386bc81a91bb1475097dc01f9c86b3b8"), looks := true }, kinds := [], alts := [], laidByText := true, laidKinds := [.data, .data, .data, .data, .handle, .sentinel, .sentinel, .pinned], laidTests := true, laidLooks := .later }
def SpinInsideUptoCardSaid : Prop := Claim7.holds Tryz.pinned (.plain (OpenSpec.upto spinInsideSpec)) spinInsideUptoCard

/-- THE SECOND FORM's CARD OF 'respitelaw11.SpinCounts'. -/
def spinCountsUptoCard : Claim7 := { stood := { row := spinCountsUptoRow, standIns := [], harness := (true, "05423b7169ecd8f2f4add70b75bce452386bc81a91bb1475097dc01f9c86b3b8"), looks := true }, kinds := [], alts := [], laidByText := true, laidKinds := [.data, .data, .data, .data, .handle, .sentinel, .sentinel, .pinned], laidTests := true, laidLooks := .later }
def SpinCountsUptoCardSaid : Prop := Claim7.holds Tryz.pinned (.plain (OpenSpec.upto spinCountsSpec)) spinCountsUptoCard

/-- THE SECOND FORM's CARD OF 'respitelaw18.ChainReads'. -/
def chainReadsUptoCard : Claim7 := { stood := { row := chainReadsUptoRow, standIns := [], harness := (true, "05423b7169ecd8f2f4add70b75bce452386bc81a91bb1475097dc01f9c86b3b8"), looks := true }, kinds := [], alts := [], laidByText := true, laidKinds := [.data, .data, .data, .data, .handle, .sentinel, .sentinel, .pinned], laidTests := true, laidLooks := .later }
def ChainReadsUptoCardSaid : Prop := Claim7.holds Tryz.pinned (.plain (OpenSpec.upto chainReadsSpec)) chainReadsUptoCard

/-- THE SECOND FORM's CARD OF 'respitelaw11.SpinEnds'. -/
def spinEndsUptoCard : Claim7 := { stood := { row := spinEndsUptoRow, standIns := [], harness := (true, "05423b7169ecd8f2f4add70b75bce452386bc81a91bb1475097dc01f9c86b3b8"), looks := true }, kinds := [], alts := [], laidByText := true, laidKinds := [.data, .data, .data, .data, .handle, .sentinel, .sentinel, .pinned], laidTests := true, laidLooks := .later }
def SpinEndsUptoCardSaid : Prop := Claim7.holds Tryz.pinned (.plain (OpenSpec.upto spinEndsSpec)) spinEndsUptoCard

/-- THE SECOND FORM's CARD OF 'respitelaw16.UrcuLays'. -/
def urcuLaysUptoCard : Claim7 := { stood := { row := urcuLaysUptoRow, standIns := [], harness := (true, "05423b7169ecd8f2f4add70b75bce452386bc81a91bb1475097dc01f9c86b3b8"), looks := true }, kinds := [], alts := [], laidByText := true, laidKinds := [.data, .data, .data, .data, .handle, .sentinel, .sentinel, .pinned], laidTests := true, laidLooks := .later }
def UrcuLaysUptoCardSaid : Prop := Claim7.holds Tryz.pinned (.plain (OpenSpec.upto urcuLaysSpec)) urcuLaysUptoCard

/-- THE SECOND FORM's CARD OF 'respitelaw16.UrcuMakes'. -/
def urcuMakesUptoCard : Claim7 := { stood := { row := urcuMakesUptoRow, standIns := [], harness := (true, "05423b7169ecd8f2f4add70b75bce452386bc81a91bb1475097dc01f9c86b3b8"), looks := true }, kinds := [], alts := [], laidByText := true, laidKinds := [.data, .data, .data, .data, .handle, .sentinel, .sentinel, .pinned], laidTests := true, laidLooks := .later }
def UrcuMakesUptoCardSaid : Prop := Claim7.holds Tryz.pinned (.plain (OpenSpec.upto urcuMakesSpec)) urcuMakesUptoCard

/-- THE SECOND FORM's CARD OF 'respitelaw16.UrcuRuns'. -/
def urcuRunsUptoCard : Claim7 := { stood := { row := urcuRunsUptoRow, standIns := [], harness := (true, "05423b7169ecd8f2f4add70b75bce452386bc81a91bb1475097dc01f9c86b3b8"), looks := true }, kinds := [], alts := [], laidByText := true, laidKinds := [.data, .data, .data, .data, .handle, .sentinel, .sentinel, .pinned], laidTests := true, laidLooks := .later }
def UrcuRunsUptoCardSaid : Prop := Claim7.holds Tryz.pinned (.plain (OpenSpec.upto urcuRunsSpec)) urcuRunsUptoCard
end Rows
end Go.Proofs.YteefnlbapebamaaGreatDoor

/-
  DERIVED. GIVEN WITH THE SEED: THE CARDS: each row of YtplofnhnhfiokaaGreatDoorRows.lean that lists a variable, with what it lists TIED to the program's text (the seventh form; the later family's looks); each row that meets fmt, with fmt's text TOLD by the authors' own Lean function (tested against real Go, not proved from fmt's source: count such statements apart). THE CARD IS WHAT COUNTS. Prove the row's statement (the work); the ties are given (YtplofnhnhfiokaaGreatDoorTie.lean); close each card by the builder's one call (the guide's Derived/Test/ToyasCard.lean, 'card_holds'). Laid BY PROGRAM, IN A SANDBOX (cutbox-door.mjs). By AI agents, Wed Nov 11 2026. No macro, syntax, notation, axiom, sorry.
-/
import Derived.Test.YtplofnhnhfiokaaGreatDoorRows
import GoSem.ClaimSeven
namespace Go.Proofs.YtplofnhnhfiokaaGreatDoor
namespace Rows

/-- THE TIED CARD OF 'respitelaw09.SchedMakes'. -/
def schedMakesCard : Claim7 := { stood := { row := schedMakesRow, standIns := [], harness := (true, "ca3a49545f8c08018d4253636a512e55961522f9731a1e5ca37139eaf403b063"), looks := true }, kinds := [], alts := [], laidByText := true, laidKinds := [.data, .data, .data, .data, .handle, .sentinel, .sentinel, .pinned], laidTests := true, laidLooks := .later }
def SchedMakesCardSaid : Prop := Claim7.holds Tryz.pinned (.plain (OpenSpec.ofChange schedMakesSpec)) schedMakesCard

/-- THE TIED CARD OF 'respitelaw18.ChainFinds'. -/
def chainFindsCard : Claim7 := { stood := { row := chainFindsRow, standIns := [], harness := (true, "ca3a49545f8c08018d4253636a512e55961522f9731a1e5ca37139eaf403b063"), looks := true }, kinds := [], alts := [], laidByText := true, laidKinds := [.data, .data, .data, .data, .handle, .sentinel, .sentinel, .pinned], laidTests := true, laidLooks := .later }
def ChainFindsCardSaid : Prop := Claim7.holds Tryz.pinned (.plain (OpenSpec.ofChange chainFindsSpec)) chainFindsCard

/-- THE TIED CARD OF 'respitelaw18.ChainMakes'. -/
def chainMakesCard : Claim7 := { stood := { row := chainMakesRow, standIns := [], harness := (true, "ca3a49545f8c08018d4253636a512e55961522f9731a1e5ca37139eaf403b063"), looks := true }, kinds := [], alts := [], laidByText := true, laidKinds := [.data, .data, .data, .data, .handle, .sentinel, .sentinel, .pinned], laidTests := true, laidLooks := .later }
def ChainMakesCardSaid : Prop := Claim7.holds Tryz.pinned (.plain (OpenSpec.ofChange chainMakesSpec)) chainMakesCard

/-- THE TIED CARD OF 'respitelaw11.SpinMakes'. -/
def spinMakesCard : Claim7 := { stood := { row := spinMakesRow, standIns := [], harness := (true, "ca3a49545f8c08018d4253636a512e55961522f9731a1e5ca37139eaf403b063"), looks := true }, kinds := [], alts := [], laidByText := true, laidKinds := [.data, .data, .data, .data, .handle, .sentinel, .sentinel, .pinned], laidTests := true, laidLooks := .later }
def SpinMakesCardSaid : Prop := Claim7.holds Tryz.pinned (.plain (OpenSpec.ofChange spinMakesSpec)) spinMakesCard

/-- THE TIED CARD OF 'respitelaw11.SpinRuns'. -/
def spinRunsCard : Claim7 := { stood := { row := spinRunsRow, standIns := [], harness := (true, "ca3a49545f8c08018d4253636a512e55961522f9731a1e5ca37139eaf403b063"), looks := true }, kinds := [], alts := [], laidByText := true, laidKinds := [.data, .data, .data, .data, .handle, .sentinel, .sentinel, .pinned], laidTests := true, laidLooks := .later }
def SpinRunsCardSaid : Prop := Claim7.holds Tryz.pinned (.plain (OpenSpec.ofChange spinRunsSpec)) spinRunsCard

/-- THE TIED CARD OF 'respitelaw18.ChainLays'. -/
def chainLaysCard : Claim7 := { stood := { row := chainLaysRow, standIns := [], harness := (true, "ca3a49545f8c08018d4253636a512e55961522f9731a1e5ca37139eaf403b063"), looks := true }, kinds := [], alts := [], laidByText := true, laidKinds := [.data, .data, .data, .data, .handle, .sentinel, .sentinel, .pinned], laidTests := true, laidLooks := .later }
def ChainLaysCardSaid : Prop := Claim7.holds Tryz.pinned (.plain (OpenSpec.ofChange chainLaysSpec)) chainLaysCard

/-- THE TIED CARD OF 'respitelaw18.ChainReads'. -/
def chainReadsCard : Claim7 := { stood := { row := chainReadsRow, standIns := [], harness := (true, "ca3a49545f8c08018d4253636a512e55961522f9731a1e5ca37139eaf403b063"), looks := true }, kinds := [], alts := [], laidByText := true, laidKinds := [.data, .data, .data, .data, .handle, .sentinel, .sentinel, .pinned], laidTests := true, laidLooks := .later }
def ChainReadsCardSaid : Prop := Claim7.holds Tryz.pinned (.plain (OpenSpec.ofChange chainReadsSpec)) chainReadsCard

/-- THE SECOND FORM's CARD OF 'respitelaw09.SchedMakes'. -/
def schedMakesUptoCard : Claim7 := { stood := { row := schedMakesUptoRow, standIns := [], harness := (true, "ca3a49545f8c08018d4253636a512e55961522f9731a1e5ca37139eaf403b063"), looks := true }, kinds := [], alts := [], laidByText := true, laidKinds := [.data, .data, .data, .data, .handle, .sentinel, .sentinel, .pinned], laidTests := true, laidLooks := .later }
def SchedMakesUptoCardSaid : Prop := Claim7.holds Tryz.pinned (.plain (OpenSpec.upto schedMakesSpec)) schedMakesUptoCard

/-- THE SECOND FORM's CARD OF 'respitelaw18.ChainFinds'. -/
def chainFindsUptoCard : Claim7 := { stood := { row := chainFindsUptoRow, standIns := [], harness := (true, "ca3a49545f8c08018d4253636a512e55961522f9731a1e5ca37139eaf403b063"), looks := true }, kinds := [], alts := [], laidByText := true, laidKinds := [.data, .data, .data, .data, .handle, .sentinel, .sentinel, .pinned], laidTests := true, laidLooks := .later }
def ChainFindsUptoCardSaid : Prop := Claim7.holds Tryz.pinned (.plain (OpenSpec.upto chainFindsSpec)) chainFindsUptoCard

/-- THE SECOND FORM's CARD OF 'respitelaw18.ChainMakes'. -/
def chainMakesUptoCard : Claim7 := { stood := { row := chainMakesUptoRow, standIns := [], harness := (true, "ca3a49545f8c08018d4253636a512e55961522f9731a1e5ca37139eaf403b063"), looks := true }, kinds := [], alts := [], laidByText := true, laidKinds := [.data, .data, .data, .data, .handle, .sentinel, .sentinel, .pinned], laidTests := true, laidLooks := .later }
def ChainMakesUptoCardSaid : Prop := Claim7.holds Tryz.pinned (.plain (OpenSpec.upto chainMakesSpec)) chainMakesUptoCard

/-- THE SECOND FORM's CARD OF 'respitelaw11.SpinMakes'. -/
def spinMakesUptoCard : Claim7 := { stood := { row := spinMakesUptoRow, standIns := [], harness := (true, "ca3a49545f8c08018d4253636a512e55961522f9731a1e5ca37139eaf403b063"), looks := true }, kinds := [], alts := [], laidByText := true, laidKinds := [.data, .data, .data, .data, .handle, .sentinel, .sentinel, .pinned], laidTests := true, laidLooks := .later }
def SpinMakesUptoCardSaid : Prop := Claim7.holds Tryz.pinned (.plain (OpenSpec.upto spinMakesSpec)) spinMakesUptoCard

/-- THE SECOND FORM's CARD OF 'respitelaw11.SpinRuns'. -/
def spinRunsUptoCard : Claim7 := { stood := { row := spinRunsUptoRow, standIns := [], harness := (true, "ca3a49545f8c08018d4253636a512e55961522f9731a1e5ca37139eaf403b063"), looks := true }, kinds := [], alts := [], laidByText := true, laidKinds := [.data, .data, .data, .data, .handle, .sentinel, .sentinel, .pinned], laidTests := true, laidLooks := .later }
def SpinRunsUptoCardSaid : Prop := Claim7.holds Tryz.pinned (.plain (OpenSpec.upto spinRunsSpec)) spinRunsUptoCard

/-- THE SECOND FORM's CARD OF 'respitelaw18.ChainLays'. -/
def chainLaysUptoCard : Claim7 := { stood := { row := chainLaysUptoRow, standIns := [], harness := (true, "ca3a49545f8c08018d4253636a512e55961522f9731a1e5ca37139eaf403b063"), looks := true }, kinds := [], alts := [], laidByText := true, laidKinds := [.data, .data, .data, .data, .handle, .sentinel, .sentinel, .pinned], laidTests := true, laidLooks := .later }
def ChainLaysUptoCardSaid : Prop := Claim7.holds Tryz.pinned (.plain (OpenSpec.upto chainLaysSpec)) chainLaysUptoCard

/-- THE SECOND FORM's CARD OF 'respitelaw18.ChainReads'. -/
def chainReadsUptoCard : Claim7 := { stood := { row := chainReadsUptoRow, standIns := [], harness := (true, "ca3a49545f8c08018d4253636a512e55961522f9731a1e5ca37139eaf403b063"), looks := true }, kinds := [], alts := [], laidByText := true, laidKinds := [.data, .data, .data, .data, .handle, .sentinel, .sentinel, .pinned], laidTests := true, laidLooks := .later }
def ChainReadsUptoCardSaid : Prop := Claim7.holds Tryz.pinned (.plain (OpenSpec.upto chainReadsSpec)) chainReadsUptoCard
end Rows
end Go.Proofs.YtplofnhnhfiokaaGreatDoor

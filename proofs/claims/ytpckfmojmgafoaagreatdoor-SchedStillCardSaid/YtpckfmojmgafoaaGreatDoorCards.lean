/-
  DERIVED. GIVEN WITH THE SEED: THE CARDS: each row of YtpckfmojmgafoaaGreatDoorRows.lean that lists a variable, with what it lists TIED to the program's text (the seventh form; the later family's looks); each row that meets fmt, with fmt's text TOLD by the authors' own Lean function (tested against real Go, not proved from fmt's source: count such statements apart). THE CARD IS WHAT COUNTS. Prove the row's statement (the work); the ties are given (YtpckfmojmgafoaaGreatDoorTie.lean); close each card by the builder's one call (the guide's Derived/Test/ToyasCard.lean, 'card_holds'). Laid BY PROGRAM, IN A SANDBOX (cutbox-door.mjs). By AI agents, Wed Nov 11 2026. No macro, syntax, notation, axiom, sorry.
-/
import Derived.Test.YtpckfmojmgafoaaGreatDoorRows
import GoSem.ClaimSeven
namespace Go.Proofs.YtpckfmojmgafoaaGreatDoor
namespace Rows

/-- THE TIED CARD OF 'respitelaw09.SchedMakes'. -/
def schedMakesCard : Claim7 := { stood := { row := schedMakesRow, standIns := [], harness := (true, "fb007e03e31a4b808efabba7dc4182d1233ff0fc4a36b95fc5a2cf5e3a2303da"), looks := true }, kinds := [], alts := [], laidByText := true, laidKinds := [.data, .data, .data, .data, .handle, .sentinel, .sentinel, .pinned], laidTests := true, laidLooks := .later }
def SchedMakesCardSaid : Prop := Claim7.holds Tryz.pinned (.plain (OpenSpec.ofChange schedMakesSpec)) schedMakesCard

/-- THE TIED CARD OF 'respitelaw09.SchedParts'. -/
def schedPartsCard : Claim7 := { stood := { row := schedPartsRow, standIns := [], harness := (true, "fb007e03e31a4b808efabba7dc4182d1233ff0fc4a36b95fc5a2cf5e3a2303da"), looks := true }, kinds := [], alts := [], laidByText := true, laidKinds := [.data, .data, .data, .data, .handle, .sentinel, .sentinel, .pinned], laidTests := true, laidLooks := .later }
def SchedPartsCardSaid : Prop := Claim7.holds Tryz.pinned (.plain (OpenSpec.ofChange schedPartsSpec)) schedPartsCard

/-- THE TIED CARD OF 'respitelaw09.SchedRuns'. -/
def schedRunsCard : Claim7 := { stood := { row := schedRunsRow, standIns := [], harness := (true, "fb007e03e31a4b808efabba7dc4182d1233ff0fc4a36b95fc5a2cf5e3a2303da"), looks := true }, kinds := [], alts := [], laidByText := true, laidKinds := [.data, .data, .data, .data, .handle, .sentinel, .sentinel, .pinned], laidTests := true, laidLooks := .later }
def SchedRunsCardSaid : Prop := Claim7.holds Tryz.pinned (.plain (OpenSpec.ofChange schedRunsSpec)) schedRunsCard

/-- THE TIED CARD OF 'respitelaw09.SchedRounds'. -/
def schedRoundsCard : Claim7 := { stood := { row := schedRoundsRow, standIns := [], harness := (true, "fb007e03e31a4b808efabba7dc4182d1233ff0fc4a36b95fc5a2cf5e3a2303da"), looks := true }, kinds := [], alts := [], laidByText := true, laidKinds := [.data, .data, .data, .data, .handle, .sentinel, .sentinel, .pinned], laidTests := true, laidLooks := .later }
def SchedRoundsCardSaid : Prop := Claim7.holds Tryz.pinned (.plain (OpenSpec.ofChange schedRoundsSpec)) schedRoundsCard

/-- THE TIED CARD OF 'respitelaw09.SchedStill'. -/
def schedStillCard : Claim7 := { stood := { row := schedStillRow, standIns := [], harness := (true, "fb007e03e31a4b808efabba7dc4182d1233ff0fc4a36b95fc5a2cf5e3a2303da"), looks := true }, kinds := [], alts := [], laidByText := true, laidKinds := [.data, .data, .data, .data, .handle, .sentinel, .sentinel, .pinned], laidTests := true, laidLooks := .later }
def SchedStillCardSaid : Prop := Claim7.holds Tryz.pinned (.plain (OpenSpec.ofChange schedStillSpec)) schedStillCard

/-- THE SECOND FORM's CARD OF 'respitelaw09.SchedMakes'. -/
def schedMakesUptoCard : Claim7 := { stood := { row := schedMakesUptoRow, standIns := [], harness := (true, "fb007e03e31a4b808efabba7dc4182d1233ff0fc4a36b95fc5a2cf5e3a2303da"), looks := true }, kinds := [], alts := [], laidByText := true, laidKinds := [.data, .data, .data, .data, .handle, .sentinel, .sentinel, .pinned], laidTests := true, laidLooks := .later }
def SchedMakesUptoCardSaid : Prop := Claim7.holds Tryz.pinned (.plain (OpenSpec.upto schedMakesSpec)) schedMakesUptoCard

/-- THE SECOND FORM's CARD OF 'respitelaw09.SchedParts'. -/
def schedPartsUptoCard : Claim7 := { stood := { row := schedPartsUptoRow, standIns := [], harness := (true, "fb007e03e31a4b808efabba7dc4182d1233ff0fc4a36b95fc5a2cf5e3a2303da"), looks := true }, kinds := [], alts := [], laidByText := true, laidKinds := [.data, .data, .data, .data, .handle, .sentinel, .sentinel, .pinned], laidTests := true, laidLooks := .later }
def SchedPartsUptoCardSaid : Prop := Claim7.holds Tryz.pinned (.plain (OpenSpec.upto schedPartsSpec)) schedPartsUptoCard

/-- THE SECOND FORM's CARD OF 'respitelaw09.SchedRuns'. -/
def schedRunsUptoCard : Claim7 := { stood := { row := schedRunsUptoRow, standIns := [], harness := (true, "fb007e03e31a4b808efabba7dc4182d1233ff0fc4a36b95fc5a2cf5e3a2303da"), looks := true }, kinds := [], alts := [], laidByText := true, laidKinds := [.data, .data, .data, .data, .handle, .sentinel, .sentinel, .pinned], laidTests := true, laidLooks := .later }
def SchedRunsUptoCardSaid : Prop := Claim7.holds Tryz.pinned (.plain (OpenSpec.upto schedRunsSpec)) schedRunsUptoCard

/-- THE SECOND FORM's CARD OF 'respitelaw09.SchedRounds'. -/
def schedRoundsUptoCard : Claim7 := { stood := { row := schedRoundsUptoRow, standIns := [], harness := (true, "fb007e03e31a4b808efabba7dc4182d1233ff0fc4a36b95fc5a2cf5e3a2303da"), looks := true }, kinds := [], alts := [], laidByText := true, laidKinds := [.data, .data, .data, .data, .handle, .sentinel, .sentinel, .pinned], laidTests := true, laidLooks := .later }
def SchedRoundsUptoCardSaid : Prop := Claim7.holds Tryz.pinned (.plain (OpenSpec.upto schedRoundsSpec)) schedRoundsUptoCard

/-- THE SECOND FORM's CARD OF 'respitelaw09.SchedStill'. -/
def schedStillUptoCard : Claim7 := { stood := { row := schedStillUptoRow, standIns := [], harness := (true, "fb007e03e31a4b808efabba7dc4182d1233ff0fc4a36b95fc5a2cf5e3a2303da"), looks := true }, kinds := [], alts := [], laidByText := true, laidKinds := [.data, .data, .data, .data, .handle, .sentinel, .sentinel, .pinned], laidTests := true, laidLooks := .later }
def SchedStillUptoCardSaid : Prop := Claim7.holds Tryz.pinned (.plain (OpenSpec.upto schedStillSpec)) schedStillUptoCard
end Rows
end Go.Proofs.YtpckfmojmgafoaaGreatDoor

/-
  DERIVED. GIVEN WITH THE SEED: THE CARDS: each row of YtaoiflliakjhdaaDoorRows.lean that lists a variable, with what it lists TIED to the program's text (the seventh form; the later family's looks); each row that meets fmt, with fmt's text TOLD by the authors' own Lean function (tested against real Go, not proved from fmt's source: count such statements apart). THE CARD IS WHAT COUNTS. Prove the row's statement (the work); the ties are given (YtaoiflliakjhdaaDoorTie.lean); close each card by the builder's one call (the guide's Derived/Test/ToyasCard.lean, 'card_holds'). Laid BY PROGRAM, IN A SANDBOX (cutbox-door.mjs). By AI agents, Wed Nov 11 2026. No macro, syntax, notation, axiom, sorry.
-/
import Derived.Test.YtaoiflliakjhdaaDoorRows
import GoSem.ClaimSeven
namespace Go.Proofs.YtaoiflliakjhdaaDoor
namespace Rows

/-- THE TIED CARD OF 'respitelaw05.AsmReads'. -/
def asmReadsCard : Claim7 := { stood := { row := asmReadsRow, standIns := [], harness := (true, "c8880273d55f8c5af5a9658ad5b9d338e76556abe01ecee8b5d79ce1e14f17fb"), looks := true }, kinds := [], alts := [], laidByText := true, laidKinds := [.data, .data, .data, .data, .sentinel, .sentinel, .pinned], laidTests := true, laidLooks := .later }
def AsmReadsCardSaid : Prop := Claim7.holds Tryd.pinned (.plain (OpenSpec.ofChange asmReadsSpec)) asmReadsCard

/-- THE TIED CARD OF 'respitelaw05.AsmJoins'. -/
def asmJoinsCard : Claim7 := { stood := { row := asmJoinsRow, standIns := [], harness := (true, "c8880273d55f8c5af5a9658ad5b9d338e76556abe01ecee8b5d79ce1e14f17fb"), looks := true }, kinds := [], alts := [], laidByText := true, laidKinds := [.data, .data, .data, .data, .sentinel, .sentinel, .pinned], laidTests := true, laidLooks := .later }
def AsmJoinsCardSaid : Prop := Claim7.holds Tryd.pinned (.plain (OpenSpec.ofChange asmJoinsSpec)) asmJoinsCard

/-- THE TIED CARD OF 'respitelaw05.AsmFinds'. -/
def asmFindsCard : Claim7 := { stood := { row := asmFindsRow, standIns := [], harness := (true, "c8880273d55f8c5af5a9658ad5b9d338e76556abe01ecee8b5d79ce1e14f17fb"), looks := true }, kinds := [], alts := [], laidByText := true, laidKinds := [.data, .data, .data, .data, .sentinel, .sentinel, .pinned], laidTests := true, laidLooks := .later }
def AsmFindsCardSaid : Prop := Claim7.holds Tryd.pinned (.plain (OpenSpec.ofChange asmFindsSpec)) asmFindsCard

/-- THE TIED CARD OF 'respitelaw05.AsmPrints'. -/
def asmPrintsCard : Claim7 := { stood := { row := asmPrintsRow, standIns := [], harness := (true, "c8880273d55f8c5af5a9658ad5b9d338e76556abe01ecee8b5d79ce1e14f17fb"), looks := true }, kinds := [], alts := [], laidByText := true, laidKinds := [.data, .data, .data, .data, .sentinel, .sentinel, .pinned], laidTests := true, laidLooks := .later }
def AsmPrintsCardSaid : Prop := Claim7.holds Tryd.pinned (.plain (OpenSpec.ofChange asmPrintsSpec)) asmPrintsCard

/-- THE TIED CARD OF 'respitelaw05.AsmBack'. -/
def asmBackCard : Claim7 := { stood := { row := asmBackRow, standIns := [], harness := (true, "c8880273d55f8c5af5a9658ad5b9d338e76556abe01ecee8b5d79ce1e14f17fb"), looks := true }, kinds := [], alts := [], laidByText := true, laidKinds := [.data, .data, .data, .data, .sentinel, .sentinel, .pinned], laidTests := true, laidLooks := .later }
def AsmBackCardSaid : Prop := Claim7.holds Tryd.pinned (.plain (OpenSpec.ofChange asmBackSpec)) asmBackCard

/-- THE SECOND FORM's CARD OF 'respitelaw05.AsmReads'. -/
def asmReadsUptoCard : Claim7 := { stood := { row := asmReadsUptoRow, standIns := [], harness := (true, "c8880273d55f8c5af5a9658ad5b9d338e76556abe01ecee8b5d79ce1e14f17fb"), looks := true }, kinds := [], alts := [], laidByText := true, laidKinds := [.data, .data, .data, .data, .sentinel, .sentinel, .pinned], laidTests := true, laidLooks := .later }
def AsmReadsUptoCardSaid : Prop := Claim7.holds Tryd.pinned (.plain (OpenSpec.upto asmReadsSpec)) asmReadsUptoCard

/-- THE SECOND FORM's CARD OF 'respitelaw05.AsmJoins'. -/
def asmJoinsUptoCard : Claim7 := { stood := { row := asmJoinsUptoRow, standIns := [], harness := (true, "c8880273d55f8c5af5a9658ad5b9d338e76556abe01ecee8b5d79ce1e14f17fb"), looks := true }, kinds := [], alts := [], laidByText := true, laidKinds := [.data, .data, .data, .data, .sentinel, .sentinel, .pinned], laidTests := true, laidLooks := .later }
def AsmJoinsUptoCardSaid : Prop := Claim7.holds Tryd.pinned (.plain (OpenSpec.upto asmJoinsSpec)) asmJoinsUptoCard

/-- THE SECOND FORM's CARD OF 'respitelaw05.AsmFinds'. -/
def asmFindsUptoCard : Claim7 := { stood := { row := asmFindsUptoRow, standIns := [], harness := (true, "c8880273d55f8c5af5a9658ad5b9d338e76556abe01ecee8b5d79ce1e14f17fb"), looks := true }, kinds := [], alts := [], laidByText := true, laidKinds := [.data, .data, .data, .data, .sentinel, .sentinel, .pinned], laidTests := true, laidLooks := .later }
def AsmFindsUptoCardSaid : Prop := Claim7.holds Tryd.pinned (.plain (OpenSpec.upto asmFindsSpec)) asmFindsUptoCard

/-- THE SECOND FORM's CARD OF 'respitelaw05.AsmPrints'. -/
def asmPrintsUptoCard : Claim7 := { stood := { row := asmPrintsUptoRow, standIns := [], harness := (true, "c8880273d55f8c5af5a9658ad5b9d338e76556abe01ecee8b5d79ce1e14f17fb"), looks := true }, kinds := [], alts := [], laidByText := true, laidKinds := [.data, .data, .data, .data, .sentinel, .sentinel, .pinned], laidTests := true, laidLooks := .later }
def AsmPrintsUptoCardSaid : Prop := Claim7.holds Tryd.pinned (.plain (OpenSpec.upto asmPrintsSpec)) asmPrintsUptoCard

/-- THE SECOND FORM's CARD OF 'respitelaw05.AsmBack'. -/
def asmBackUptoCard : Claim7 := { stood := { row := asmBackUptoRow, standIns := [], harness := (true, "c8880273d55f8c5af5a9658ad5b9d338e76556abe01ecee8b5d79ce1e14f17fb"), looks := true }, kinds := [], alts := [], laidByText := true, laidKinds := [.data, .data, .data, .data, .sentinel, .sentinel, .pinned], laidTests := true, laidLooks := .later }
def AsmBackUptoCardSaid : Prop := Claim7.holds Tryd.pinned (.plain (OpenSpec.upto asmBackSpec)) asmBackUptoCard
end Rows
end Go.Proofs.YtaoiflliakjhdaaDoor

/-
  No cell of these rows narrows 'for every input' (looked for: loops, veiled, ifaces, maps, wideKeys, modest, calm, conditions, laid).
  DERIVED. THE GIVEN ROWS OF THIS SEAT. 8 by the template 'for every input the law returns true; each argument reads behind the call as it read before'; 0 by the template 'total and deterministic' (their statements: YthogeodbnnfamaaTotals.lean).
  GIVEN WITH THE SEED: the statements are not yours to turn. If you find one false, say at which input.
  Laid BY PROGRAM, IN A SANDBOX (cutbox-rows.mjs): the forced cells as the released guide's own fill.sh prints them over the translation 82622223b0902fff… (all of the seat's roots in one cut). By AI agents, Wed Nov 11 2026. No macro, syntax, notation, axiom, sorry.
-/
import Derived.Test.YthogeodbnnfamaaChecked
import GoSem.Claim
import GoSem.ClaimJoined
import GoSem.ClaimMapViews
import Derived.JoinedTies
import Derived.KernelRfl
namespace Go.Proofs.Ythogeodbnnfamaa
/- THE CELL 'sum', in the pinned program and in every row, IS THE sha256 OF THE DUMP (.gsa) THAT YthogeodbnnfamaaProg.lean LOADS. Nothing in Lean hashes anything: it is a label: what it is worth is what the hold of that sum in a sandbox is worth. -/
noncomputable def Try.pinned : Pinned := { name := "ythogeodbnnfamaa", sum := "82622223b0902fff47e16ce5b4e60e9362c22ef30c4da96d4d0faec44bce9e69", checked := Try.checked }
namespace Rows
def none {H : Type} : Left H := { results := [], args := [] }

/-- 'respitelaw21.AtomicDoes': WHATEVER THE INPUT: true; the input reads as it did. -/
def atomicDoesSpec : ChangeSpec := { name := "atomicDoes", fn := fun _ => fun
  | [d1, d2] => { results := [.lit (.bool true)], args := [d1, d2] }
  | _ => none }
def atomicDoesRow : OpenClaim := { program := "ythogeodbnnfamaa", sum := "82622223b0902fff47e16ce5b4e60e9362c22ef30c4da96d4d0faec44bce9e69", func := "respite/respitelaw21.AtomicDoes", spec := "atomicDoes", inPlace := ["slices.overlaps[respite/api.Pair]"], unfollowed := true, recurses := true, apart := false }
def AtomicDoesSaid : Prop := atomicDoesRow.holds Try.pinned (OpenSpec.ofChange atomicDoesSpec)

/-- ITS FALSE NEIGHBOUR: 'it returns false'. Refute it at one input. -/
def atomicDoesWrong : ChangeSpec := { name := "atomicDoes", fn := fun _ => fun
  | [d1, d2] => { results := [.lit (.bool false)], args := [d1, d2] }
  | _ => none }
def AtomicDoesWrongFalsely : Prop := atomicDoesRow.holds Try.pinned (OpenSpec.ofChange atomicDoesWrong)

/-- 'respitelaw21.AtomicOwn': WHATEVER THE INPUT: true; the input reads as it did. -/
def atomicOwnSpec : ChangeSpec := { name := "atomicOwn", fn := fun _ => fun
  | [d1, d2, d3] => { results := [.lit (.bool true)], args := [d1, d2, d3] }
  | _ => none }
def atomicOwnRow : OpenClaim := { program := "ythogeodbnnfamaa", sum := "82622223b0902fff47e16ce5b4e60e9362c22ef30c4da96d4d0faec44bce9e69", func := "respite/respitelaw21.AtomicOwn", spec := "atomicOwn", inPlace := ["slices.overlaps[respite/api.Pair]"], unfollowed := true, recurses := true, apart := false }
def AtomicOwnSaid : Prop := atomicOwnRow.holds Try.pinned (OpenSpec.ofChange atomicOwnSpec)

/-- ITS FALSE NEIGHBOUR: 'it returns false'. Refute it at one input. -/
def atomicOwnWrong : ChangeSpec := { name := "atomicOwn", fn := fun _ => fun
  | [d1, d2, d3] => { results := [.lit (.bool false)], args := [d1, d2, d3] }
  | _ => none }
def AtomicOwnWrongFalsely : Prop := atomicOwnRow.holds Try.pinned (OpenSpec.ofChange atomicOwnWrong)

/-- 'respitelaw21.AtomicTurns': WHATEVER THE INPUT: true; the input reads as it did. -/
def atomicTurnsSpec : ChangeSpec := { name := "atomicTurns", fn := fun _ => fun
  | [d1, d2, d3] => { results := [.lit (.bool true)], args := [d1, d2, d3] }
  | _ => none }
def atomicTurnsRow : OpenClaim := { program := "ythogeodbnnfamaa", sum := "82622223b0902fff47e16ce5b4e60e9362c22ef30c4da96d4d0faec44bce9e69", func := "respite/respitelaw21.AtomicTurns", spec := "atomicTurns", inPlace := ["slices.overlaps[respite/api.Pair]"], unfollowed := true, recurses := true, apart := false }
def AtomicTurnsSaid : Prop := atomicTurnsRow.holds Try.pinned (OpenSpec.ofChange atomicTurnsSpec)

/-- ITS FALSE NEIGHBOUR: 'it returns false'. Refute it at one input. -/
def atomicTurnsWrong : ChangeSpec := { name := "atomicTurns", fn := fun _ => fun
  | [d1, d2, d3] => { results := [.lit (.bool false)], args := [d1, d2, d3] }
  | _ => none }
def AtomicTurnsWrongFalsely : Prop := atomicTurnsRow.holds Try.pinned (OpenSpec.ofChange atomicTurnsWrong)

/-- 'respitelaw21.AtomicAccepts': WHATEVER THE INPUT: true; the input reads as it did. -/
def atomicAcceptsSpec : ChangeSpec := { name := "atomicAccepts", fn := fun _ => fun
  | [d1, d2, d3, d4] => { results := [.lit (.bool true)], args := [d1, d2, d3, d4] }
  | _ => none }
def atomicAcceptsRow : OpenClaim := { program := "ythogeodbnnfamaa", sum := "82622223b0902fff47e16ce5b4e60e9362c22ef30c4da96d4d0faec44bce9e69", func := "respite/respitelaw21.AtomicAccepts", spec := "atomicAccepts", inPlace := ["slices.overlaps[respite/api.Pair]"], unfollowed := true, recurses := true, apart := false }
def AtomicAcceptsSaid : Prop := atomicAcceptsRow.holds Try.pinned (OpenSpec.ofChange atomicAcceptsSpec)

/-- ITS FALSE NEIGHBOUR: 'it returns false'. Refute it at one input. -/
def atomicAcceptsWrong : ChangeSpec := { name := "atomicAccepts", fn := fun _ => fun
  | [d1, d2, d3, d4] => { results := [.lit (.bool false)], args := [d1, d2, d3, d4] }
  | _ => none }
def AtomicAcceptsWrongFalsely : Prop := atomicAcceptsRow.holds Try.pinned (OpenSpec.ofChange atomicAcceptsWrong)

/-- 'respitelaw22.LinearFinds': WHATEVER THE INPUT: true; the input reads as it did. -/
def linearFindsSpec : ChangeSpec := { name := "linearFinds", fn := fun _ => fun
  | [d1, d2] => { results := [.lit (.bool true)], args := [d1, d2] }
  | _ => none }
def linearFindsRow : OpenClaim := { program := "ythogeodbnnfamaa", sum := "82622223b0902fff47e16ce5b4e60e9362c22ef30c4da96d4d0faec44bce9e69", func := "respite/respitelaw22.LinearFinds", spec := "linearFinds", inPlace := ["slices.overlaps[respite/api.Pair]"], unfollowed := true, recurses := true, apart := false }
def LinearFindsSaid : Prop := linearFindsRow.holds Try.pinned (OpenSpec.ofChange linearFindsSpec)

/-- ITS FALSE NEIGHBOUR: 'it returns false'. Refute it at one input. -/
def linearFindsWrong : ChangeSpec := { name := "linearFinds", fn := fun _ => fun
  | [d1, d2] => { results := [.lit (.bool false)], args := [d1, d2] }
  | _ => none }
def LinearFindsWrongFalsely : Prop := linearFindsRow.holds Try.pinned (OpenSpec.ofChange linearFindsWrong)

/-- 'respitelaw22.LinearFirst': WHATEVER THE INPUT: true; the input reads as it did. -/
def linearFirstSpec : ChangeSpec := { name := "linearFirst", fn := fun _ => fun
  | [d1, d2, d3] => { results := [.lit (.bool true)], args := [d1, d2, d3] }
  | _ => none }
def linearFirstRow : OpenClaim := { program := "ythogeodbnnfamaa", sum := "82622223b0902fff47e16ce5b4e60e9362c22ef30c4da96d4d0faec44bce9e69", func := "respite/respitelaw22.LinearFirst", spec := "linearFirst", inPlace := ["slices.overlaps[respite/api.Pair]"], unfollowed := true, recurses := true, apart := false }
def LinearFirstSaid : Prop := linearFirstRow.holds Try.pinned (OpenSpec.ofChange linearFirstSpec)

/-- ITS FALSE NEIGHBOUR: 'it returns false'. Refute it at one input. -/
def linearFirstWrong : ChangeSpec := { name := "linearFirst", fn := fun _ => fun
  | [d1, d2, d3] => { results := [.lit (.bool false)], args := [d1, d2, d3] }
  | _ => none }
def LinearFirstWrongFalsely : Prop := linearFirstRow.holds Try.pinned (OpenSpec.ofChange linearFirstWrong)

/-- 'respitelaw22.LinearChecks': WHATEVER THE INPUT: true; the input reads as it did. -/
def linearChecksSpec : ChangeSpec := { name := "linearChecks", fn := fun _ => fun
  | [d1, d2, d3] => { results := [.lit (.bool true)], args := [d1, d2, d3] }
  | _ => none }
def linearChecksRow : OpenClaim := { program := "ythogeodbnnfamaa", sum := "82622223b0902fff47e16ce5b4e60e9362c22ef30c4da96d4d0faec44bce9e69", func := "respite/respitelaw22.LinearChecks", spec := "linearChecks", inPlace := ["slices.overlaps[respite/api.Pair]"], unfollowed := true, recurses := true, apart := false }
def LinearChecksSaid : Prop := linearChecksRow.holds Try.pinned (OpenSpec.ofChange linearChecksSpec)

/-- ITS FALSE NEIGHBOUR: 'it returns false'. Refute it at one input. -/
def linearChecksWrong : ChangeSpec := { name := "linearChecks", fn := fun _ => fun
  | [d1, d2, d3] => { results := [.lit (.bool false)], args := [d1, d2, d3] }
  | _ => none }
def LinearChecksWrongFalsely : Prop := linearChecksRow.holds Try.pinned (OpenSpec.ofChange linearChecksWrong)

/-- 'respitelaw22.LinearAlone': WHATEVER THE INPUT: true; the input reads as it did. -/
def linearAloneSpec : ChangeSpec := { name := "linearAlone", fn := fun _ => fun
  | [d1, d2, d3, d4] => { results := [.lit (.bool true)], args := [d1, d2, d3, d4] }
  | _ => none }
def linearAloneRow : OpenClaim := { program := "ythogeodbnnfamaa", sum := "82622223b0902fff47e16ce5b4e60e9362c22ef30c4da96d4d0faec44bce9e69", func := "respite/respitelaw22.LinearAlone", spec := "linearAlone", inPlace := ["slices.overlaps[respite/api.Pair]"], unfollowed := true, recurses := true, apart := false }
def LinearAloneSaid : Prop := linearAloneRow.holds Try.pinned (OpenSpec.ofChange linearAloneSpec)

/-- ITS FALSE NEIGHBOUR: 'it returns false'. Refute it at one input. -/
def linearAloneWrong : ChangeSpec := { name := "linearAlone", fn := fun _ => fun
  | [d1, d2, d3, d4] => { results := [.lit (.bool false)], args := [d1, d2, d3, d4] }
  | _ => none }
def LinearAloneWrongFalsely : Prop := linearAloneRow.holds Try.pinned (OpenSpec.ofChange linearAloneWrong)

/- THE SECOND FORM. 'bulk': how many values and letters a reading holds, each counted each time it is reached (what is shared counts as often as it is met; a slice's spare places count too). A statement '..UptoSaid' is the law's where the arguments, and the package variables that the reading takes, are together of bulk at most 1048576: NARROWER than '..Said'. Prove '..Said' where nothing that the law and all that it calls make is longer than what came in: it says more and counts as full. Else prove '..UptoSaid'. A law counts once. -/
mutual
def uptoBulk {H : Type} : DataW H → Nat
  | .lit (.string bytes) => bytes.length + 1
  | .lit _ => 1
  | .nil => 1
  | .ptr d => uptoBulk d + 1
  | .slice elems spare => uptoBulkAll elems + uptoBulkAll spare + 1
  | .agg parts => uptoBulkAll parts + 1
  | .iface _ d => uptoBulk d + 1
  | .map entries => uptoBulkEntries entries + 1
  | .held _ => 1
def uptoBulkAll {H : Type} : List (DataW H) → Nat
  | [] => 0
  | d :: r => uptoBulk d + uptoBulkAll r
def uptoBulkEntries {H : Type} : List (Lit × DataW H) → Nat
  | [] => 0
  | x :: r => uptoBulkEntry x + uptoBulkEntries r
def uptoBulkEntry {H : Type} : Lit × DataW H → Nat
  | (.string bytes, d) => bytes.length + uptoBulk d + 1
  | (_, d) => uptoBulk d + 1
 end
def uptoSmall : (H : Type) → List (DataW H) → Bool := fun _ ds => decide (uptoBulkAll ds ≤ 1048576)
def OpenSpec.upto (s : _root_.Go.ChangeSpec) : _root_.Go.OpenSpec := { _root_.Go.OpenSpec.ofChange s with cond := some uptoSmall }

/-- 'respitelaw21.AtomicDoes', WHERE WHAT IT READS IS OF BULK AT MOST 1048576: true; the input reads as it did. -/
def atomicDoesUptoRow : OpenClaim := { program := "ythogeodbnnfamaa", sum := "82622223b0902fff47e16ce5b4e60e9362c22ef30c4da96d4d0faec44bce9e69", func := "respite/respitelaw21.AtomicDoes", spec := "atomicDoes", inPlace := ["slices.overlaps[respite/api.Pair]"], unfollowed := true, recurses := true, apart := false, narrowed := true }
def AtomicDoesUptoSaid : Prop := atomicDoesUptoRow.holds Try.pinned (OpenSpec.upto atomicDoesSpec)

/-- 'respitelaw21.AtomicOwn', WHERE WHAT IT READS IS OF BULK AT MOST 1048576: true; the input reads as it did. -/
def atomicOwnUptoRow : OpenClaim := { program := "ythogeodbnnfamaa", sum := "82622223b0902fff47e16ce5b4e60e9362c22ef30c4da96d4d0faec44bce9e69", func := "respite/respitelaw21.AtomicOwn", spec := "atomicOwn", inPlace := ["slices.overlaps[respite/api.Pair]"], unfollowed := true, recurses := true, apart := false, narrowed := true }
def AtomicOwnUptoSaid : Prop := atomicOwnUptoRow.holds Try.pinned (OpenSpec.upto atomicOwnSpec)

/-- 'respitelaw21.AtomicTurns', WHERE WHAT IT READS IS OF BULK AT MOST 1048576: true; the input reads as it did. -/
def atomicTurnsUptoRow : OpenClaim := { program := "ythogeodbnnfamaa", sum := "82622223b0902fff47e16ce5b4e60e9362c22ef30c4da96d4d0faec44bce9e69", func := "respite/respitelaw21.AtomicTurns", spec := "atomicTurns", inPlace := ["slices.overlaps[respite/api.Pair]"], unfollowed := true, recurses := true, apart := false, narrowed := true }
def AtomicTurnsUptoSaid : Prop := atomicTurnsUptoRow.holds Try.pinned (OpenSpec.upto atomicTurnsSpec)

/-- 'respitelaw21.AtomicAccepts', WHERE WHAT IT READS IS OF BULK AT MOST 1048576: true; the input reads as it did. -/
def atomicAcceptsUptoRow : OpenClaim := { program := "ythogeodbnnfamaa", sum := "82622223b0902fff47e16ce5b4e60e9362c22ef30c4da96d4d0faec44bce9e69", func := "respite/respitelaw21.AtomicAccepts", spec := "atomicAccepts", inPlace := ["slices.overlaps[respite/api.Pair]"], unfollowed := true, recurses := true, apart := false, narrowed := true }
def AtomicAcceptsUptoSaid : Prop := atomicAcceptsUptoRow.holds Try.pinned (OpenSpec.upto atomicAcceptsSpec)

/-- 'respitelaw22.LinearFinds', WHERE WHAT IT READS IS OF BULK AT MOST 1048576: true; the input reads as it did. -/
def linearFindsUptoRow : OpenClaim := { program := "ythogeodbnnfamaa", sum := "82622223b0902fff47e16ce5b4e60e9362c22ef30c4da96d4d0faec44bce9e69", func := "respite/respitelaw22.LinearFinds", spec := "linearFinds", inPlace := ["slices.overlaps[respite/api.Pair]"], unfollowed := true, recurses := true, apart := false, narrowed := true }
def LinearFindsUptoSaid : Prop := linearFindsUptoRow.holds Try.pinned (OpenSpec.upto linearFindsSpec)

/-- 'respitelaw22.LinearFirst', WHERE WHAT IT READS IS OF BULK AT MOST 1048576: true; the input reads as it did. -/
def linearFirstUptoRow : OpenClaim := { program := "ythogeodbnnfamaa", sum := "82622223b0902fff47e16ce5b4e60e9362c22ef30c4da96d4d0faec44bce9e69", func := "respite/respitelaw22.LinearFirst", spec := "linearFirst", inPlace := ["slices.overlaps[respite/api.Pair]"], unfollowed := true, recurses := true, apart := false, narrowed := true }
def LinearFirstUptoSaid : Prop := linearFirstUptoRow.holds Try.pinned (OpenSpec.upto linearFirstSpec)

/-- 'respitelaw22.LinearChecks', WHERE WHAT IT READS IS OF BULK AT MOST 1048576: true; the input reads as it did. -/
def linearChecksUptoRow : OpenClaim := { program := "ythogeodbnnfamaa", sum := "82622223b0902fff47e16ce5b4e60e9362c22ef30c4da96d4d0faec44bce9e69", func := "respite/respitelaw22.LinearChecks", spec := "linearChecks", inPlace := ["slices.overlaps[respite/api.Pair]"], unfollowed := true, recurses := true, apart := false, narrowed := true }
def LinearChecksUptoSaid : Prop := linearChecksUptoRow.holds Try.pinned (OpenSpec.upto linearChecksSpec)

/-- 'respitelaw22.LinearAlone', WHERE WHAT IT READS IS OF BULK AT MOST 1048576: true; the input reads as it did. -/
def linearAloneUptoRow : OpenClaim := { program := "ythogeodbnnfamaa", sum := "82622223b0902fff47e16ce5b4e60e9362c22ef30c4da96d4d0faec44bce9e69", func := "respite/respitelaw22.LinearAlone", spec := "linearAlone", inPlace := ["slices.overlaps[respite/api.Pair]"], unfollowed := true, recurses := true, apart := false, narrowed := true }
def LinearAloneUptoSaid : Prop := linearAloneUptoRow.holds Try.pinned (OpenSpec.upto linearAloneSpec)

end Rows
end Go.Proofs.Ythogeodbnnfamaa

/-
  No cell of these rows narrows 'for every input' (looked for: loops, veiled, ifaces, maps, wideKeys, modest, calm, conditions, laid).
  DERIVED. THE GIVEN ROWS OF THIS SEAT. 9 by the template 'for every input the law returns true; each argument reads behind the call as it read before'; 0 by the template 'total and deterministic' (their statements: YtcgogenmikakkaaTotals.lean).
  GIVEN WITH THE SEED: the statements are not yours to turn. If you find one false, say at which input.
  Laid BY PROGRAM, IN A SANDBOX (cutbox-rows.mjs): the forced cells as the released guide's own fill.sh prints them over the translation aa2266f17ffcce1e… (all of the seat's roots in one cut). By AI agents, Wed Nov 11 2026. No macro, syntax, notation, axiom, sorry.
-/
import Derived.Test.YtcgogenmikakkaaChecked
import GoSem.Claim
import GoSem.ClaimJoined
import GoSem.ClaimMapViews
import Derived.JoinedTies
import Derived.KernelRfl
namespace Go.Proofs.Ytcgogenmikakkaa
/- THE CELL 'sum', in the pinned program and in every row, IS THE sha256 OF THE DUMP (.gsa) THAT YtcgogenmikakkaaProg.lean LOADS. Nothing in Lean hashes anything: it is a label: what it is worth is what the hold of that sum in a sandbox is worth. -/
noncomputable def Try.pinned : Pinned := { name := "ytcgogenmikakkaa", sum := "aa2266f17ffcce1ecbd40b02d886a3c0bd3e21a88d2532c25dc56d6506fdae86", checked := Try.checked }
namespace Rows
def none {H : Type} : Left H := { results := [], args := [] }

/-- 'samaralaw11.ProtectHalves': WHATEVER THE INPUT: true; the input reads as it did. -/
def protectHalvesSpec : ChangeSpec := { name := "protectHalves", fn := fun _ => fun
  | [d1, d2] => { results := [.lit (.bool true)], args := [d1, d2] }
  | _ => none }
def protectHalvesRow : OpenClaim := { program := "ytcgogenmikakkaa", sum := "aa2266f17ffcce1ecbd40b02d886a3c0bd3e21a88d2532c25dc56d6506fdae86", func := "samara/samaralaw11.ProtectHalves", spec := "protectHalves", unfollowed := true, recurses := true, apart := false }
def ProtectHalvesSaid : Prop := protectHalvesRow.holds Try.pinned (OpenSpec.ofChange protectHalvesSpec)

/-- ITS FALSE NEIGHBOUR: 'it returns false'. Refute it at one input. -/
def protectHalvesWrong : ChangeSpec := { name := "protectHalves", fn := fun _ => fun
  | [d1, d2] => { results := [.lit (.bool false)], args := [d1, d2] }
  | _ => none }
def ProtectHalvesWrongFalsely : Prop := protectHalvesRow.holds Try.pinned (OpenSpec.ofChange protectHalvesWrong)

/-- 'samaralaw11.ProtectAllows': WHATEVER THE INPUT: true; the input reads as it did. -/
def protectAllowsSpec : ChangeSpec := { name := "protectAllows", fn := fun _ => fun
  | [d1, d2, d3] => { results := [.lit (.bool true)], args := [d1, d2, d3] }
  | _ => none }
def protectAllowsRow : OpenClaim := { program := "ytcgogenmikakkaa", sum := "aa2266f17ffcce1ecbd40b02d886a3c0bd3e21a88d2532c25dc56d6506fdae86", func := "samara/samaralaw11.ProtectAllows", spec := "protectAllows", unfollowed := true, recurses := true, apart := false }
def ProtectAllowsSaid : Prop := protectAllowsRow.holds Try.pinned (OpenSpec.ofChange protectAllowsSpec)

/-- ITS FALSE NEIGHBOUR: 'it returns false'. Refute it at one input. -/
def protectAllowsWrong : ChangeSpec := { name := "protectAllows", fn := fun _ => fun
  | [d1, d2, d3] => { results := [.lit (.bool false)], args := [d1, d2, d3] }
  | _ => none }
def ProtectAllowsWrongFalsely : Prop := protectAllowsRow.holds Try.pinned (OpenSpec.ofChange protectAllowsWrong)

/-- 'samaralaw11.ProtectBack': WHATEVER THE INPUT: true; the input reads as it did. -/
def protectBackSpec : ChangeSpec := { name := "protectBack", fn := fun _ => fun
  | [d1, d2, d3] => { results := [.lit (.bool true)], args := [d1, d2, d3] }
  | _ => none }
def protectBackRow : OpenClaim := { program := "ytcgogenmikakkaa", sum := "aa2266f17ffcce1ecbd40b02d886a3c0bd3e21a88d2532c25dc56d6506fdae86", func := "samara/samaralaw11.ProtectBack", spec := "protectBack", unfollowed := true, recurses := true, apart := false }
def ProtectBackSaid : Prop := protectBackRow.holds Try.pinned (OpenSpec.ofChange protectBackSpec)

/-- ITS FALSE NEIGHBOUR: 'it returns false'. Refute it at one input. -/
def protectBackWrong : ChangeSpec := { name := "protectBack", fn := fun _ => fun
  | [d1, d2, d3] => { results := [.lit (.bool false)], args := [d1, d2, d3] }
  | _ => none }
def ProtectBackWrongFalsely : Prop := protectBackRow.holds Try.pinned (OpenSpec.ofChange protectBackWrong)

/-- 'samaralaw10.MappingAgain': WHATEVER THE INPUT: true; the input reads as it did. -/
def mappingAgainSpec : ChangeSpec := { name := "mappingAgain", fn := fun _ => fun
  | [d1, d2] => { results := [.lit (.bool true)], args := [d1, d2] }
  | _ => none }
def mappingAgainRow : OpenClaim := { program := "ytcgogenmikakkaa", sum := "aa2266f17ffcce1ecbd40b02d886a3c0bd3e21a88d2532c25dc56d6506fdae86", func := "samara/samaralaw10.MappingAgain", spec := "mappingAgain", unfollowed := true, recurses := true, apart := false }
def MappingAgainSaid : Prop := mappingAgainRow.holds Try.pinned (OpenSpec.ofChange mappingAgainSpec)

/-- ITS FALSE NEIGHBOUR: 'it returns false'. Refute it at one input. -/
def mappingAgainWrong : ChangeSpec := { name := "mappingAgain", fn := fun _ => fun
  | [d1, d2] => { results := [.lit (.bool false)], args := [d1, d2] }
  | _ => none }
def MappingAgainWrongFalsely : Prop := mappingAgainRow.holds Try.pinned (OpenSpec.ofChange mappingAgainWrong)

/-- 'samaralaw10.MappingHint': WHATEVER THE INPUT: true; the input reads as it did. -/
def mappingHintSpec : ChangeSpec := { name := "mappingHint", fn := fun _ => fun
  | [d1, d2] => { results := [.lit (.bool true)], args := [d1, d2] }
  | _ => none }
def mappingHintRow : OpenClaim := { program := "ytcgogenmikakkaa", sum := "aa2266f17ffcce1ecbd40b02d886a3c0bd3e21a88d2532c25dc56d6506fdae86", func := "samara/samaralaw10.MappingHint", spec := "mappingHint", unfollowed := true, recurses := true, apart := false }
def MappingHintSaid : Prop := mappingHintRow.holds Try.pinned (OpenSpec.ofChange mappingHintSpec)

/-- ITS FALSE NEIGHBOUR: 'it returns false'. Refute it at one input. -/
def mappingHintWrong : ChangeSpec := { name := "mappingHint", fn := fun _ => fun
  | [d1, d2] => { results := [.lit (.bool false)], args := [d1, d2] }
  | _ => none }
def MappingHintWrongFalsely : Prop := mappingHintRow.holds Try.pinned (OpenSpec.ofChange mappingHintWrong)

/-- 'samaralaw10.MappingMaps': WHATEVER THE INPUT: true; the input reads as it did. -/
def mappingMapsSpec : ChangeSpec := { name := "mappingMaps", fn := fun _ => fun
  | [d1, d2] => { results := [.lit (.bool true)], args := [d1, d2] }
  | _ => none }
def mappingMapsRow : OpenClaim := { program := "ytcgogenmikakkaa", sum := "aa2266f17ffcce1ecbd40b02d886a3c0bd3e21a88d2532c25dc56d6506fdae86", func := "samara/samaralaw10.MappingMaps", spec := "mappingMaps", unfollowed := true, recurses := true, apart := false }
def MappingMapsSaid : Prop := mappingMapsRow.holds Try.pinned (OpenSpec.ofChange mappingMapsSpec)

/-- ITS FALSE NEIGHBOUR: 'it returns false'. Refute it at one input. -/
def mappingMapsWrong : ChangeSpec := { name := "mappingMaps", fn := fun _ => fun
  | [d1, d2] => { results := [.lit (.bool false)], args := [d1, d2] }
  | _ => none }
def MappingMapsWrongFalsely : Prop := mappingMapsRow.holds Try.pinned (OpenSpec.ofChange mappingMapsWrong)

/-- 'samaralaw10.MappingUnmaps': WHATEVER THE INPUT: true; the input reads as it did. -/
def mappingUnmapsSpec : ChangeSpec := { name := "mappingUnmaps", fn := fun _ => fun
  | [d1, d2] => { results := [.lit (.bool true)], args := [d1, d2] }
  | _ => none }
def mappingUnmapsRow : OpenClaim := { program := "ytcgogenmikakkaa", sum := "aa2266f17ffcce1ecbd40b02d886a3c0bd3e21a88d2532c25dc56d6506fdae86", func := "samara/samaralaw10.MappingUnmaps", spec := "mappingUnmaps", unfollowed := true, recurses := true, apart := false }
def MappingUnmapsSaid : Prop := mappingUnmapsRow.holds Try.pinned (OpenSpec.ofChange mappingUnmapsSpec)

/-- ITS FALSE NEIGHBOUR: 'it returns false'. Refute it at one input. -/
def mappingUnmapsWrong : ChangeSpec := { name := "mappingUnmaps", fn := fun _ => fun
  | [d1, d2] => { results := [.lit (.bool false)], args := [d1, d2] }
  | _ => none }
def MappingUnmapsWrongFalsely : Prop := mappingUnmapsRow.holds Try.pinned (OpenSpec.ofChange mappingUnmapsWrong)

/-- 'samaralaw10.MappingPlaces': WHATEVER THE INPUT: true; the input reads as it did. -/
def mappingPlacesSpec : ChangeSpec := { name := "mappingPlaces", fn := fun _ => fun
  | [d1, d2, d3] => { results := [.lit (.bool true)], args := [d1, d2, d3] }
  | _ => none }
def mappingPlacesRow : OpenClaim := { program := "ytcgogenmikakkaa", sum := "aa2266f17ffcce1ecbd40b02d886a3c0bd3e21a88d2532c25dc56d6506fdae86", func := "samara/samaralaw10.MappingPlaces", spec := "mappingPlaces", unfollowed := true, recurses := true, apart := false }
def MappingPlacesSaid : Prop := mappingPlacesRow.holds Try.pinned (OpenSpec.ofChange mappingPlacesSpec)

/-- ITS FALSE NEIGHBOUR: 'it returns false'. Refute it at one input. -/
def mappingPlacesWrong : ChangeSpec := { name := "mappingPlaces", fn := fun _ => fun
  | [d1, d2, d3] => { results := [.lit (.bool false)], args := [d1, d2, d3] }
  | _ => none }
def MappingPlacesWrongFalsely : Prop := mappingPlacesRow.holds Try.pinned (OpenSpec.ofChange mappingPlacesWrong)

/-- 'samaralaw10.MappingFree': WHATEVER THE INPUT: true; the input reads as it did. -/
def mappingFreeSpec : ChangeSpec := { name := "mappingFree", fn := fun _ => fun
  | [d1, d2] => { results := [.lit (.bool true)], args := [d1, d2] }
  | _ => none }
def mappingFreeRow : OpenClaim := { program := "ytcgogenmikakkaa", sum := "aa2266f17ffcce1ecbd40b02d886a3c0bd3e21a88d2532c25dc56d6506fdae86", func := "samara/samaralaw10.MappingFree", spec := "mappingFree", unfollowed := true, recurses := true, apart := false }
def MappingFreeSaid : Prop := mappingFreeRow.holds Try.pinned (OpenSpec.ofChange mappingFreeSpec)

/-- ITS FALSE NEIGHBOUR: 'it returns false'. Refute it at one input. -/
def mappingFreeWrong : ChangeSpec := { name := "mappingFree", fn := fun _ => fun
  | [d1, d2] => { results := [.lit (.bool false)], args := [d1, d2] }
  | _ => none }
def MappingFreeWrongFalsely : Prop := mappingFreeRow.holds Try.pinned (OpenSpec.ofChange mappingFreeWrong)

/- THE SECOND FORM. 'bulk': how many values and letters a reading holds, each counted each time it is reached (what is shared counts as often as it is met; a slice's spare places count too). A statement '..UptoSaid' is the law's where the arguments, and the package variables that the reading takes, are together of bulk at most 1048576: NARROWER than '..Said'. Prove '..Said' where nothing that the law and all that it calls make is longer than what came in: it says more and counts as full. Else prove '..UptoSaid'. A law counts once. -/
mutual
def uptoBulk {H : Type} : DataW H → Nat
  | .lit (.string bytes) => bytes.length + 1
  | .lit _ => 1
  | .nil => 1
  | .ptr d => uptoBulk d + 1
  | .slice elems spare => uptoBulkAll elems + uptoBulkAll spare + 1
  | .agg parts => uptoBulkAll parts + 1
  | .iface _ d => uptoBulk d + 1
  | .map entries => uptoBulkEntries entries + 1
  | .held _ => 1
def uptoBulkAll {H : Type} : List (DataW H) → Nat
  | [] => 0
  | d :: r => uptoBulk d + uptoBulkAll r
def uptoBulkEntries {H : Type} : List (Lit × DataW H) → Nat
  | [] => 0
  | x :: r => uptoBulkEntry x + uptoBulkEntries r
def uptoBulkEntry {H : Type} : Lit × DataW H → Nat
  | (.string bytes, d) => bytes.length + uptoBulk d + 1
  | (_, d) => uptoBulk d + 1
 end
def uptoSmall : (H : Type) → List (DataW H) → Bool := fun _ ds => decide (uptoBulkAll ds ≤ 1048576)
def OpenSpec.upto (s : _root_.Go.ChangeSpec) : _root_.Go.OpenSpec := { _root_.Go.OpenSpec.ofChange s with cond := some uptoSmall }

/-- 'samaralaw11.ProtectHalves', WHERE WHAT IT READS IS OF BULK AT MOST 1048576: true; the input reads as it did. -/
def protectHalvesUptoRow : OpenClaim := { program := "ytcgogenmikakkaa", sum := "aa2266f17ffcce1ecbd40b02d886a3c0bd3e21a88d2532c25dc56d6506fdae86", func := "samara/samaralaw11.ProtectHalves", spec := "protectHalves", unfollowed := true, recurses := true, apart := false, narrowed := true }
def ProtectHalvesUptoSaid : Prop := protectHalvesUptoRow.holds Try.pinned (OpenSpec.upto protectHalvesSpec)

/-- 'samaralaw11.ProtectAllows', WHERE WHAT IT READS IS OF BULK AT MOST 1048576: true; the input reads as it did. -/
def protectAllowsUptoRow : OpenClaim := { program := "ytcgogenmikakkaa", sum := "aa2266f17ffcce1ecbd40b02d886a3c0bd3e21a88d2532c25dc56d6506fdae86", func := "samara/samaralaw11.ProtectAllows", spec := "protectAllows", unfollowed := true, recurses := true, apart := false, narrowed := true }
def ProtectAllowsUptoSaid : Prop := protectAllowsUptoRow.holds Try.pinned (OpenSpec.upto protectAllowsSpec)

/-- 'samaralaw11.ProtectBack', WHERE WHAT IT READS IS OF BULK AT MOST 1048576: true; the input reads as it did. -/
def protectBackUptoRow : OpenClaim := { program := "ytcgogenmikakkaa", sum := "aa2266f17ffcce1ecbd40b02d886a3c0bd3e21a88d2532c25dc56d6506fdae86", func := "samara/samaralaw11.ProtectBack", spec := "protectBack", unfollowed := true, recurses := true, apart := false, narrowed := true }
def ProtectBackUptoSaid : Prop := protectBackUptoRow.holds Try.pinned (OpenSpec.upto protectBackSpec)

/-- 'samaralaw10.MappingAgain', WHERE WHAT IT READS IS OF BULK AT MOST 1048576: true; the input reads as it did. -/
def mappingAgainUptoRow : OpenClaim := { program := "ytcgogenmikakkaa", sum := "aa2266f17ffcce1ecbd40b02d886a3c0bd3e21a88d2532c25dc56d6506fdae86", func := "samara/samaralaw10.MappingAgain", spec := "mappingAgain", unfollowed := true, recurses := true, apart := false, narrowed := true }
def MappingAgainUptoSaid : Prop := mappingAgainUptoRow.holds Try.pinned (OpenSpec.upto mappingAgainSpec)

/-- 'samaralaw10.MappingHint', WHERE WHAT IT READS IS OF BULK AT MOST 1048576: true; the input reads as it did. -/
def mappingHintUptoRow : OpenClaim := { program := "ytcgogenmikakkaa", sum := "aa2266f17ffcce1ecbd40b02d886a3c0bd3e21a88d2532c25dc56d6506fdae86", func := "samara/samaralaw10.MappingHint", spec := "mappingHint", unfollowed := true, recurses := true, apart := false, narrowed := true }
def MappingHintUptoSaid : Prop := mappingHintUptoRow.holds Try.pinned (OpenSpec.upto mappingHintSpec)

/-- 'samaralaw10.MappingMaps', WHERE WHAT IT READS IS OF BULK AT MOST 1048576: true; the input reads as it did. -/
def mappingMapsUptoRow : OpenClaim := { program := "ytcgogenmikakkaa", sum := "aa2266f17ffcce1ecbd40b02d886a3c0bd3e21a88d2532c25dc56d6506fdae86", func := "samara/samaralaw10.MappingMaps", spec := "mappingMaps", unfollowed := true, recurses := true, apart := false, narrowed := true }
def MappingMapsUptoSaid : Prop := mappingMapsUptoRow.holds Try.pinned (OpenSpec.upto mappingMapsSpec)

/-- 'samaralaw10.MappingUnmaps', WHERE WHAT IT READS IS OF BULK AT MOST 1048576: true; the input reads as it did. -/
def mappingUnmapsUptoRow : OpenClaim := { program := "ytcgogenmikakkaa", sum := "aa2266f17ffcce1ecbd40b02d886a3c0bd3e21a88d2532c25dc56d6506fdae86", func := "samara/samaralaw10.MappingUnmaps", spec := "mappingUnmaps", unfollowed := true, recurses := true, apart := false, narrowed := true }
def MappingUnmapsUptoSaid : Prop := mappingUnmapsUptoRow.holds Try.pinned (OpenSpec.upto mappingUnmapsSpec)

/-- 'samaralaw10.MappingPlaces', WHERE WHAT IT READS IS OF BULK AT MOST 1048576: true; the input reads as it did. -/
def mappingPlacesUptoRow : OpenClaim := { program := "ytcgogenmikakkaa", sum := "aa2266f17ffcce1ecbd40b02d886a3c0bd3e21a88d2532c25dc56d6506fdae86", func := "samara/samaralaw10.MappingPlaces", spec := "mappingPlaces", unfollowed := true, recurses := true, apart := false, narrowed := true }
def MappingPlacesUptoSaid : Prop := mappingPlacesUptoRow.holds Try.pinned (OpenSpec.upto mappingPlacesSpec)

/-- 'samaralaw10.MappingFree', WHERE WHAT IT READS IS OF BULK AT MOST 1048576: true; the input reads as it did. -/
def mappingFreeUptoRow : OpenClaim := { program := "ytcgogenmikakkaa", sum := "aa2266f17ffcce1ecbd40b02d886a3c0bd3e21a88d2532c25dc56d6506fdae86", func := "samara/samaralaw10.MappingFree", spec := "mappingFree", unfollowed := true, recurses := true, apart := false, narrowed := true }
def MappingFreeUptoSaid : Prop := mappingFreeUptoRow.holds Try.pinned (OpenSpec.upto mappingFreeSpec)

end Rows
end Go.Proofs.Ytcgogenmikakkaa

/-
  No cell of these rows narrows 'for every input' (looked for: loops, veiled, ifaces, maps, wideKeys, modest, calm, conditions, laid).
  DERIVED. THE GIVEN ROWS OF THIS SEAT. 5 by the template 'for every input the law returns true; each argument reads behind the call as it read before'; 0 by the template 'total and deterministic' (their statements: YtnflgjhgegggcaaTotals.lean).
  GIVEN WITH THE SEED: the statements are not yours to turn. If you find one false, say at which input.
  Laid BY PROGRAM, IN A SANDBOX (cutbox-rows.mjs): the forced cells as the released guide's own fill.sh prints them over the translation c64d3b7cdc1336f5… (all of the seat's roots in one cut). By AI agents, Wed Nov 11 2026. No macro, syntax, notation, axiom, sorry.
-/
import Derived.Test.YtnflgjhgegggcaaChecked
import GoSem.Claim
import GoSem.ClaimJoined
import GoSem.ClaimMapViews
import Derived.JoinedTies
import Derived.KernelRfl
namespace Go.Proofs.Ytnflgjhgegggcaa
/- THE CELL 'sum', in the pinned program and in every row, IS THE sha256 OF THE DUMP (.gsa) THAT YtnflgjhgegggcaaProg.lean LOADS. Nothing in Lean hashes anything: it is a label: what it is worth is what the hold of that sum in a sandbox is worth. -/
noncomputable def Try.pinned : Pinned := { name := "ytnflgjhgegggcaa", sum := "c64d3b7cdc1336f552c7ddfd0aa894325a0ecfc0b3d6d019dd5aed7c20e30c5e", checked := Try.checked }
namespace Rows
def none {H : Type} : Left H := { results := [], args := [] }

/-- 'derricklaw07.SweepHeads': WHATEVER THE INPUT: true; the input reads as it did. -/
def sweepHeadsSpec : ChangeSpec := { name := "sweepHeads", fn := fun _ => fun
  | [d1, d2, d3] => { results := [.lit (.bool true)], args := [d1, d2, d3] }
  | _ => none }
def sweepHeadsRow : OpenClaim := { program := "ytnflgjhgegggcaa", sum := "c64d3b7cdc1336f552c7ddfd0aa894325a0ecfc0b3d6d019dd5aed7c20e30c5e", func := "derrick/derricklaw07.SweepHeads", spec := "sweepHeads", recurses := true, apart := false }
def SweepHeadsSaid : Prop := sweepHeadsRow.holds Try.pinned (OpenSpec.ofChange sweepHeadsSpec)

/-- ITS FALSE NEIGHBOUR: 'it returns false'. Refute it at one input. -/
def sweepHeadsWrong : ChangeSpec := { name := "sweepHeads", fn := fun _ => fun
  | [d1, d2, d3] => { results := [.lit (.bool false)], args := [d1, d2, d3] }
  | _ => none }
def SweepHeadsWrongFalsely : Prop := sweepHeadsRow.holds Try.pinned (OpenSpec.ofChange sweepHeadsWrong)

/-- 'derricklaw07.SweepFinds': WHATEVER THE INPUT: true; the input reads as it did. -/
def sweepFindsSpec : ChangeSpec := { name := "sweepFinds", fn := fun _ => fun
  | [d1, d2] => { results := [.lit (.bool true)], args := [d1, d2] }
  | _ => none }
def sweepFindsRow : OpenClaim := { program := "ytnflgjhgegggcaa", sum := "c64d3b7cdc1336f552c7ddfd0aa894325a0ecfc0b3d6d019dd5aed7c20e30c5e", func := "derrick/derricklaw07.SweepFinds", spec := "sweepFinds", recurses := true, apart := false }
def SweepFindsSaid : Prop := sweepFindsRow.holds Try.pinned (OpenSpec.ofChange sweepFindsSpec)

/-- ITS FALSE NEIGHBOUR: 'it returns false'. Refute it at one input. -/
def sweepFindsWrong : ChangeSpec := { name := "sweepFinds", fn := fun _ => fun
  | [d1, d2] => { results := [.lit (.bool false)], args := [d1, d2] }
  | _ => none }
def SweepFindsWrongFalsely : Prop := sweepFindsRow.holds Try.pinned (OpenSpec.ofChange sweepFindsWrong)

/-- 'derricklaw07.SweepRings': WHATEVER THE INPUT: true; the input reads as it did. -/
def sweepRingsSpec : ChangeSpec := { name := "sweepRings", fn := fun _ => fun
  | [d1, d2, d3] => { results := [.lit (.bool true)], args := [d1, d2, d3] }
  | _ => none }
def sweepRingsRow : OpenClaim := { program := "ytnflgjhgegggcaa", sum := "c64d3b7cdc1336f552c7ddfd0aa894325a0ecfc0b3d6d019dd5aed7c20e30c5e", func := "derrick/derricklaw07.SweepRings", spec := "sweepRings", recurses := true, apart := false }
def SweepRingsSaid : Prop := sweepRingsRow.holds Try.pinned (OpenSpec.ofChange sweepRingsSpec)

/-- ITS FALSE NEIGHBOUR: 'it returns false'. Refute it at one input. -/
def sweepRingsWrong : ChangeSpec := { name := "sweepRings", fn := fun _ => fun
  | [d1, d2, d3] => { results := [.lit (.bool false)], args := [d1, d2, d3] }
  | _ => none }
def SweepRingsWrongFalsely : Prop := sweepRingsRow.holds Try.pinned (OpenSpec.ofChange sweepRingsWrong)

/-- 'derricklaw07.SweepDeep': WHATEVER THE INPUT: true; the input reads as it did. -/
def sweepDeepSpec : ChangeSpec := { name := "sweepDeep", fn := fun _ => fun
  | [d1, d2] => { results := [.lit (.bool true)], args := [d1, d2] }
  | _ => none }
def sweepDeepRow : OpenClaim := { program := "ytnflgjhgegggcaa", sum := "c64d3b7cdc1336f552c7ddfd0aa894325a0ecfc0b3d6d019dd5aed7c20e30c5e", func := "derrick/derricklaw07.SweepDeep", spec := "sweepDeep", recurses := true, apart := false }
def SweepDeepSaid : Prop := sweepDeepRow.holds Try.pinned (OpenSpec.ofChange sweepDeepSpec)

/-- ITS FALSE NEIGHBOUR: 'it returns false'. Refute it at one input. -/
def sweepDeepWrong : ChangeSpec := { name := "sweepDeep", fn := fun _ => fun
  | [d1, d2] => { results := [.lit (.bool false)], args := [d1, d2] }
  | _ => none }
def SweepDeepWrongFalsely : Prop := sweepDeepRow.holds Try.pinned (OpenSpec.ofChange sweepDeepWrong)

/-- 'derricklaw07.SweepFrees': WHATEVER THE INPUT: true; the input reads as it did. -/
def sweepFreesSpec : ChangeSpec := { name := "sweepFrees", fn := fun _ => fun
  | [d1, d2, d3] => { results := [.lit (.bool true)], args := [d1, d2, d3] }
  | _ => none }
def sweepFreesRow : OpenClaim := { program := "ytnflgjhgegggcaa", sum := "c64d3b7cdc1336f552c7ddfd0aa894325a0ecfc0b3d6d019dd5aed7c20e30c5e", func := "derrick/derricklaw07.SweepFrees", spec := "sweepFrees", recurses := true, apart := false }
def SweepFreesSaid : Prop := sweepFreesRow.holds Try.pinned (OpenSpec.ofChange sweepFreesSpec)

/-- ITS FALSE NEIGHBOUR: 'it returns false'. Refute it at one input. -/
def sweepFreesWrong : ChangeSpec := { name := "sweepFrees", fn := fun _ => fun
  | [d1, d2, d3] => { results := [.lit (.bool false)], args := [d1, d2, d3] }
  | _ => none }
def SweepFreesWrongFalsely : Prop := sweepFreesRow.holds Try.pinned (OpenSpec.ofChange sweepFreesWrong)

/- THE SECOND FORM. 'bulk': how many values and letters a reading holds, each counted each time it is reached (what is shared counts as often as it is met; a slice's spare places count too). A statement '..UptoSaid' is the law's where the arguments, and the package variables that the reading takes, are together of bulk at most 1048576: NARROWER than '..Said'. Prove '..Said' where nothing that the law and all that it calls make is longer than what came in: it says more and counts as full. Else prove '..UptoSaid'. A law counts once. -/
mutual
def uptoBulk {H : Type} : DataW H → Nat
  | .lit (.string bytes) => bytes.length + 1
  | .lit _ => 1
  | .nil => 1
  | .ptr d => uptoBulk d + 1
  | .slice elems spare => uptoBulkAll elems + uptoBulkAll spare + 1
  | .agg parts => uptoBulkAll parts + 1
  | .iface _ d => uptoBulk d + 1
  | .map entries => uptoBulkEntries entries + 1
  | .held _ => 1
def uptoBulkAll {H : Type} : List (DataW H) → Nat
  | [] => 0
  | d :: r => uptoBulk d + uptoBulkAll r
def uptoBulkEntries {H : Type} : List (Lit × DataW H) → Nat
  | [] => 0
  | x :: r => uptoBulkEntry x + uptoBulkEntries r
def uptoBulkEntry {H : Type} : Lit × DataW H → Nat
  | (.string bytes, d) => bytes.length + uptoBulk d + 1
  | (_, d) => uptoBulk d + 1
 end
def uptoSmall : (H : Type) → List (DataW H) → Bool := fun _ ds => decide (uptoBulkAll ds ≤ 1048576)
def OpenSpec.upto (s : _root_.Go.ChangeSpec) : _root_.Go.OpenSpec := { _root_.Go.OpenSpec.ofChange s with cond := some uptoSmall }

/-- 'derricklaw07.SweepHeads', WHERE WHAT IT READS IS OF BULK AT MOST 1048576: true; the input reads as it did. -/
def sweepHeadsUptoRow : OpenClaim := { program := "ytnflgjhgegggcaa", sum := "c64d3b7cdc1336f552c7ddfd0aa894325a0ecfc0b3d6d019dd5aed7c20e30c5e", func := "derrick/derricklaw07.SweepHeads", spec := "sweepHeads", recurses := true, apart := false, narrowed := true }
def SweepHeadsUptoSaid : Prop := sweepHeadsUptoRow.holds Try.pinned (OpenSpec.upto sweepHeadsSpec)

/-- 'derricklaw07.SweepFinds', WHERE WHAT IT READS IS OF BULK AT MOST 1048576: true; the input reads as it did. -/
def sweepFindsUptoRow : OpenClaim := { program := "ytnflgjhgegggcaa", sum := "c64d3b7cdc1336f552c7ddfd0aa894325a0ecfc0b3d6d019dd5aed7c20e30c5e", func := "derrick/derricklaw07.SweepFinds", spec := "sweepFinds", recurses := true, apart := false, narrowed := true }
def SweepFindsUptoSaid : Prop := sweepFindsUptoRow.holds Try.pinned (OpenSpec.upto sweepFindsSpec)

/-- 'derricklaw07.SweepRings', WHERE WHAT IT READS IS OF BULK AT MOST 1048576: true; the input reads as it did. -/
def sweepRingsUptoRow : OpenClaim := { program := "ytnflgjhgegggcaa", sum := "c64d3b7cdc1336f552c7ddfd0aa894325a0ecfc0b3d6d019dd5aed7c20e30c5e", func := "derrick/derricklaw07.SweepRings", spec := "sweepRings", recurses := true, apart := false, narrowed := true }
def SweepRingsUptoSaid : Prop := sweepRingsUptoRow.holds Try.pinned (OpenSpec.upto sweepRingsSpec)

/-- 'derricklaw07.SweepDeep', WHERE WHAT IT READS IS OF BULK AT MOST 1048576: true; the input reads as it did. -/
def sweepDeepUptoRow : OpenClaim := { program := "ytnflgjhgegggcaa", sum := "c64d3b7cdc1336f552c7ddfd0aa894325a0ecfc0b3d6d019dd5aed7c20e30c5e", func := "derrick/derricklaw07.SweepDeep", spec := "sweepDeep", recurses := true, apart := false, narrowed := true }
def SweepDeepUptoSaid : Prop := sweepDeepUptoRow.holds Try.pinned (OpenSpec.upto sweepDeepSpec)

/-- 'derricklaw07.SweepFrees', WHERE WHAT IT READS IS OF BULK AT MOST 1048576: true; the input reads as it did. -/
def sweepFreesUptoRow : OpenClaim := { program := "ytnflgjhgegggcaa", sum := "c64d3b7cdc1336f552c7ddfd0aa894325a0ecfc0b3d6d019dd5aed7c20e30c5e", func := "derrick/derricklaw07.SweepFrees", spec := "sweepFrees", recurses := true, apart := false, narrowed := true }
def SweepFreesUptoSaid : Prop := sweepFreesUptoRow.holds Try.pinned (OpenSpec.upto sweepFreesSpec)

end Rows
end Go.Proofs.Ytnflgjhgegggcaa

/-
  No cell of these rows narrows 'for every input' (looked for: loops, veiled, ifaces, maps, wideKeys, modest, calm, conditions, laid).
  DERIVED. THE GIVEN ROWS OF THIS SEAT. 17 by the template 'for every input the law returns true; each argument reads behind the call as it read before'; 0 by the template 'total and deterministic' (their statements: YtnbiofcfphpikaaTotals.lean).
  GIVEN WITH THE SEED: the statements are not yours to turn. If you find one false, say at which input.
  Laid BY PROGRAM, IN A SANDBOX (cutbox-rows.mjs): the forced cells as the released guide's own fill.sh prints them over the translation 9bb55d191a717e10… (all of the seat's roots in one cut). By AI agents, Wed Nov 11 2026. No macro, syntax, notation, axiom, sorry.
-/
import Derived.Test.YtnbiofcfphpikaaChecked
import GoSem.Claim
import GoSem.ClaimJoined
import GoSem.ClaimMapViews
import Derived.JoinedTies
import Derived.KernelRfl
namespace Go.Proofs.Ytnbiofcfphpikaa
/- THE CELL 'sum', in the pinned program and in every row, IS THE sha256 OF THE DUMP (.gsa) THAT YtnbiofcfphpikaaProg.lean LOADS. Nothing in Lean hashes anything: it is a label: what it is worth is what the hold of that sum in a sandbox is worth. -/
noncomputable def Try.pinned : Pinned := { name := "ytnbiofcfphpikaa", sum := "9bb55d191a717e106dc337a1d572ad04929e1e7b7238c78653f5e94b6e9a77fe", checked := Try.checked }
namespace Rows
def none {H : Type} : Left H := { results := [], args := [] }

/-- 'derricklaw12.SpaceDrops': WHATEVER THE INPUT: true; the input reads as it did. -/
def spaceDropsSpec : ChangeSpec := { name := "spaceDrops", fn := fun _ => fun
  | [d1, d2] => { results := [.lit (.bool true)], args := [d1, d2] }
  | _ => none }
def spaceDropsRow : OpenClaim := { program := "ytnbiofcfphpikaa", sum := "9bb55d191a717e106dc337a1d572ad04929e1e7b7238c78653f5e94b6e9a77fe", func := "derrick/derricklaw12.SpaceDrops", spec := "spaceDrops", unfollowed := true, recurses := true, apart := false }
def SpaceDropsSaid : Prop := spaceDropsRow.holds Try.pinned (OpenSpec.ofChange spaceDropsSpec)

/-- ITS FALSE NEIGHBOUR: 'it returns false'. Refute it at one input. -/
def spaceDropsWrong : ChangeSpec := { name := "spaceDrops", fn := fun _ => fun
  | [d1, d2] => { results := [.lit (.bool false)], args := [d1, d2] }
  | _ => none }
def SpaceDropsWrongFalsely : Prop := spaceDropsRow.holds Try.pinned (OpenSpec.ofChange spaceDropsWrong)

/-- 'derricklaw12.SpaceHeads': WHATEVER THE INPUT: true; the input reads as it did. -/
def spaceHeadsSpec : ChangeSpec := { name := "spaceHeads", fn := fun _ => fun
  | [d] => { results := [.lit (.bool true)], args := [d] }
  | _ => none }
def spaceHeadsRow : OpenClaim := { program := "ytnbiofcfphpikaa", sum := "9bb55d191a717e106dc337a1d572ad04929e1e7b7238c78653f5e94b6e9a77fe", func := "derrick/derricklaw12.SpaceHeads", spec := "spaceHeads", unfollowed := true, recurses := true, apart := false }
def SpaceHeadsSaid : Prop := spaceHeadsRow.holds Try.pinned (OpenSpec.ofChange spaceHeadsSpec)

/-- ITS FALSE NEIGHBOUR: 'it returns false'. Refute it at one input. -/
def spaceHeadsWrong : ChangeSpec := { name := "spaceHeads", fn := fun _ => fun
  | [d] => { results := [.lit (.bool false)], args := [d] }
  | _ => none }
def SpaceHeadsWrongFalsely : Prop := spaceHeadsRow.holds Try.pinned (OpenSpec.ofChange spaceHeadsWrong)

/-- 'derricklaw12.SpacePlays': WHATEVER THE INPUT: true; the input reads as it did. -/
def spacePlaysSpec : ChangeSpec := { name := "spacePlays", fn := fun _ => fun
  | [d1, d2] => { results := [.lit (.bool true)], args := [d1, d2] }
  | _ => none }
def spacePlaysRow : OpenClaim := { program := "ytnbiofcfphpikaa", sum := "9bb55d191a717e106dc337a1d572ad04929e1e7b7238c78653f5e94b6e9a77fe", func := "derrick/derricklaw12.SpacePlays", spec := "spacePlays", unfollowed := true, recurses := true, apart := false }
def SpacePlaysSaid : Prop := spacePlaysRow.holds Try.pinned (OpenSpec.ofChange spacePlaysSpec)

/-- ITS FALSE NEIGHBOUR: 'it returns false'. Refute it at one input. -/
def spacePlaysWrong : ChangeSpec := { name := "spacePlays", fn := fun _ => fun
  | [d1, d2] => { results := [.lit (.bool false)], args := [d1, d2] }
  | _ => none }
def SpacePlaysWrongFalsely : Prop := spacePlaysRow.holds Try.pinned (OpenSpec.ofChange spacePlaysWrong)

/-- 'derricklaw12.SpaceKeeps': WHATEVER THE INPUT: true; the input reads as it did. -/
def spaceKeepsSpec : ChangeSpec := { name := "spaceKeeps", fn := fun _ => fun
  | [d1, d2] => { results := [.lit (.bool true)], args := [d1, d2] }
  | _ => none }
def spaceKeepsRow : OpenClaim := { program := "ytnbiofcfphpikaa", sum := "9bb55d191a717e106dc337a1d572ad04929e1e7b7238c78653f5e94b6e9a77fe", func := "derrick/derricklaw12.SpaceKeeps", spec := "spaceKeeps", unfollowed := true, recurses := true, apart := false }
def SpaceKeepsSaid : Prop := spaceKeepsRow.holds Try.pinned (OpenSpec.ofChange spaceKeepsSpec)

/-- ITS FALSE NEIGHBOUR: 'it returns false'. Refute it at one input. -/
def spaceKeepsWrong : ChangeSpec := { name := "spaceKeeps", fn := fun _ => fun
  | [d1, d2] => { results := [.lit (.bool false)], args := [d1, d2] }
  | _ => none }
def SpaceKeepsWrongFalsely : Prop := spaceKeepsRow.holds Try.pinned (OpenSpec.ofChange spaceKeepsWrong)

/-- 'derricklaw13.TextBack': WHATEVER THE INPUT: true; the input reads as it did. -/
def textBackSpec : ChangeSpec := { name := "textBack", fn := fun _ => fun
  | [d] => { results := [.lit (.bool true)], args := [d] }
  | _ => none }
def textBackRow : OpenClaim := { program := "ytnbiofcfphpikaa", sum := "9bb55d191a717e106dc337a1d572ad04929e1e7b7238c78653f5e94b6e9a77fe", func := "derrick/derricklaw13.TextBack", spec := "textBack", unfollowed := true, recurses := true, apart := false }
def TextBackSaid : Prop := textBackRow.holds Try.pinned (OpenSpec.ofChange textBackSpec)

/-- ITS FALSE NEIGHBOUR: 'it returns false'. Refute it at one input. -/
def textBackWrong : ChangeSpec := { name := "textBack", fn := fun _ => fun
  | [d] => { results := [.lit (.bool false)], args := [d] }
  | _ => none }
def TextBackWrongFalsely : Prop := textBackRow.holds Try.pinned (OpenSpec.ofChange textBackWrong)

/-- 'derricklaw15.MailTurns': WHATEVER THE INPUT: true; the input reads as it did. -/
def mailTurnsSpec : ChangeSpec := { name := "mailTurns", fn := fun _ => fun
  | [d1, d2] => { results := [.lit (.bool true)], args := [d1, d2] }
  | _ => none }
def mailTurnsRow : OpenClaim := { program := "ytnbiofcfphpikaa", sum := "9bb55d191a717e106dc337a1d572ad04929e1e7b7238c78653f5e94b6e9a77fe", func := "derrick/derricklaw15.MailTurns", spec := "mailTurns", unfollowed := true, recurses := true, apart := false }
def MailTurnsSaid : Prop := mailTurnsRow.holds Try.pinned (OpenSpec.ofChange mailTurnsSpec)

/-- ITS FALSE NEIGHBOUR: 'it returns false'. Refute it at one input. -/
def mailTurnsWrong : ChangeSpec := { name := "mailTurns", fn := fun _ => fun
  | [d1, d2] => { results := [.lit (.bool false)], args := [d1, d2] }
  | _ => none }
def MailTurnsWrongFalsely : Prop := mailTurnsRow.holds Try.pinned (OpenSpec.ofChange mailTurnsWrong)

/-- 'derricklaw15.MailPlays': WHATEVER THE INPUT: true; the input reads as it did. -/
def mailPlaysSpec : ChangeSpec := { name := "mailPlays", fn := fun _ => fun
  | [d1, d2, d3] => { results := [.lit (.bool true)], args := [d1, d2, d3] }
  | _ => none }
def mailPlaysRow : OpenClaim := { program := "ytnbiofcfphpikaa", sum := "9bb55d191a717e106dc337a1d572ad04929e1e7b7238c78653f5e94b6e9a77fe", func := "derrick/derricklaw15.MailPlays", spec := "mailPlays", unfollowed := true, recurses := true, apart := false }
def MailPlaysSaid : Prop := mailPlaysRow.holds Try.pinned (OpenSpec.ofChange mailPlaysSpec)

/-- ITS FALSE NEIGHBOUR: 'it returns false'. Refute it at one input. -/
def mailPlaysWrong : ChangeSpec := { name := "mailPlays", fn := fun _ => fun
  | [d1, d2, d3] => { results := [.lit (.bool false)], args := [d1, d2, d3] }
  | _ => none }
def MailPlaysWrongFalsely : Prop := mailPlaysRow.holds Try.pinned (OpenSpec.ofChange mailPlaysWrong)

/-- 'derricklaw15.MailNil': WHATEVER THE INPUT: true; the input reads as it did. -/
def mailNilSpec : ChangeSpec := { name := "mailNil", fn := fun _ => fun
  | [d] => { results := [.lit (.bool true)], args := [d] }
  | _ => none }
def mailNilRow : OpenClaim := { program := "ytnbiofcfphpikaa", sum := "9bb55d191a717e106dc337a1d572ad04929e1e7b7238c78653f5e94b6e9a77fe", func := "derrick/derricklaw15.MailNil", spec := "mailNil", unfollowed := true, recurses := true, apart := false }
def MailNilSaid : Prop := mailNilRow.holds Try.pinned (OpenSpec.ofChange mailNilSpec)

/-- ITS FALSE NEIGHBOUR: 'it returns false'. Refute it at one input. -/
def mailNilWrong : ChangeSpec := { name := "mailNil", fn := fun _ => fun
  | [d] => { results := [.lit (.bool false)], args := [d] }
  | _ => none }
def MailNilWrongFalsely : Prop := mailNilRow.holds Try.pinned (OpenSpec.ofChange mailNilWrong)

/-- 'derricklaw15.MailTwo': WHATEVER THE INPUT: true; the input reads as it did. -/
def mailTwoSpec : ChangeSpec := { name := "mailTwo", fn := fun _ => fun
  | [d1, d2] => { results := [.lit (.bool true)], args := [d1, d2] }
  | _ => none }
def mailTwoRow : OpenClaim := { program := "ytnbiofcfphpikaa", sum := "9bb55d191a717e106dc337a1d572ad04929e1e7b7238c78653f5e94b6e9a77fe", func := "derrick/derricklaw15.MailTwo", spec := "mailTwo", unfollowed := true, recurses := true, apart := false }
def MailTwoSaid : Prop := mailTwoRow.holds Try.pinned (OpenSpec.ofChange mailTwoSpec)

/-- ITS FALSE NEIGHBOUR: 'it returns false'. Refute it at one input. -/
def mailTwoWrong : ChangeSpec := { name := "mailTwo", fn := fun _ => fun
  | [d1, d2] => { results := [.lit (.bool false)], args := [d1, d2] }
  | _ => none }
def MailTwoWrongFalsely : Prop := mailTwoRow.holds Try.pinned (OpenSpec.ofChange mailTwoWrong)

/-- 'derricklaw13.TextFull': WHATEVER THE INPUT: true; the input reads as it did. -/
def textFullSpec : ChangeSpec := { name := "textFull", fn := fun _ => fun
  | [d1, d2] => { results := [.lit (.bool true)], args := [d1, d2] }
  | _ => none }
def textFullRow : OpenClaim := { program := "ytnbiofcfphpikaa", sum := "9bb55d191a717e106dc337a1d572ad04929e1e7b7238c78653f5e94b6e9a77fe", func := "derrick/derricklaw13.TextFull", spec := "textFull", unfollowed := true, recurses := true, apart := false }
def TextFullSaid : Prop := textFullRow.holds Try.pinned (OpenSpec.ofChange textFullSpec)

/-- ITS FALSE NEIGHBOUR: 'it returns false'. Refute it at one input. -/
def textFullWrong : ChangeSpec := { name := "textFull", fn := fun _ => fun
  | [d1, d2] => { results := [.lit (.bool false)], args := [d1, d2] }
  | _ => none }
def TextFullWrongFalsely : Prop := textFullRow.holds Try.pinned (OpenSpec.ofChange textFullWrong)

/-- 'derricklaw13.TextConstants': WHATEVER THE INPUT: true; the input reads as it did. -/
def textConstantsSpec : ChangeSpec := { name := "textConstants", fn := fun _ => fun
  | [d1, d2] => { results := [.lit (.bool true)], args := [d1, d2] }
  | _ => none }
def textConstantsRow : OpenClaim := { program := "ytnbiofcfphpikaa", sum := "9bb55d191a717e106dc337a1d572ad04929e1e7b7238c78653f5e94b6e9a77fe", func := "derrick/derricklaw13.TextConstants", spec := "textConstants", unfollowed := true, recurses := true, apart := false }
def TextConstantsSaid : Prop := textConstantsRow.holds Try.pinned (OpenSpec.ofChange textConstantsSpec)

/-- ITS FALSE NEIGHBOUR: 'it returns false'. Refute it at one input. -/
def textConstantsWrong : ChangeSpec := { name := "textConstants", fn := fun _ => fun
  | [d1, d2] => { results := [.lit (.bool false)], args := [d1, d2] }
  | _ => none }
def TextConstantsWrongFalsely : Prop := textConstantsRow.holds Try.pinned (OpenSpec.ofChange textConstantsWrong)

/-- 'derricklaw13.TextJoins': WHATEVER THE INPUT: true; the input reads as it did. -/
def textJoinsSpec : ChangeSpec := { name := "textJoins", fn := fun _ => fun
  | [d1, d2, d3] => { results := [.lit (.bool true)], args := [d1, d2, d3] }
  | _ => none }
def textJoinsRow : OpenClaim := { program := "ytnbiofcfphpikaa", sum := "9bb55d191a717e106dc337a1d572ad04929e1e7b7238c78653f5e94b6e9a77fe", func := "derrick/derricklaw13.TextJoins", spec := "textJoins", unfollowed := true, recurses := true, apart := false }
def TextJoinsSaid : Prop := textJoinsRow.holds Try.pinned (OpenSpec.ofChange textJoinsSpec)

/-- ITS FALSE NEIGHBOUR: 'it returns false'. Refute it at one input. -/
def textJoinsWrong : ChangeSpec := { name := "textJoins", fn := fun _ => fun
  | [d1, d2, d3] => { results := [.lit (.bool false)], args := [d1, d2, d3] }
  | _ => none }
def TextJoinsWrongFalsely : Prop := textJoinsRow.holds Try.pinned (OpenSpec.ofChange textJoinsWrong)

/-- 'derricklaw15.MailKeeps': WHATEVER THE INPUT: true; the input reads as it did. -/
def mailKeepsSpec : ChangeSpec := { name := "mailKeeps", fn := fun _ => fun
  | [d1, d2, d3, d4] => { results := [.lit (.bool true)], args := [d1, d2, d3, d4] }
  | _ => none }
def mailKeepsRow : OpenClaim := { program := "ytnbiofcfphpikaa", sum := "9bb55d191a717e106dc337a1d572ad04929e1e7b7238c78653f5e94b6e9a77fe", func := "derrick/derricklaw15.MailKeeps", spec := "mailKeeps", unfollowed := true, recurses := true, apart := false }
def MailKeepsSaid : Prop := mailKeepsRow.holds Try.pinned (OpenSpec.ofChange mailKeepsSpec)

/-- ITS FALSE NEIGHBOUR: 'it returns false'. Refute it at one input. -/
def mailKeepsWrong : ChangeSpec := { name := "mailKeeps", fn := fun _ => fun
  | [d1, d2, d3, d4] => { results := [.lit (.bool false)], args := [d1, d2, d3, d4] }
  | _ => none }
def MailKeepsWrongFalsely : Prop := mailKeepsRow.holds Try.pinned (OpenSpec.ofChange mailKeepsWrong)

/-- 'derricklaw14.ListGrows': WHATEVER THE INPUT: true; the input reads as it did. -/
def listGrowsSpec : ChangeSpec := { name := "listGrows", fn := fun _ => fun
  | [d] => { results := [.lit (.bool true)], args := [d] }
  | _ => none }
def listGrowsRow : OpenClaim := { program := "ytnbiofcfphpikaa", sum := "9bb55d191a717e106dc337a1d572ad04929e1e7b7238c78653f5e94b6e9a77fe", func := "derrick/derricklaw14.ListGrows", spec := "listGrows", unfollowed := true, recurses := true, apart := false }
def ListGrowsSaid : Prop := listGrowsRow.holds Try.pinned (OpenSpec.ofChange listGrowsSpec)

/-- ITS FALSE NEIGHBOUR: 'it returns false'. Refute it at one input. -/
def listGrowsWrong : ChangeSpec := { name := "listGrows", fn := fun _ => fun
  | [d] => { results := [.lit (.bool false)], args := [d] }
  | _ => none }
def ListGrowsWrongFalsely : Prop := listGrowsRow.holds Try.pinned (OpenSpec.ofChange listGrowsWrong)

/-- 'derricklaw14.ListFull': WHATEVER THE INPUT: true; the input reads as it did. -/
def listFullSpec : ChangeSpec := { name := "listFull", fn := fun _ => fun
  | [d1, d2] => { results := [.lit (.bool true)], args := [d1, d2] }
  | _ => none }
def listFullRow : OpenClaim := { program := "ytnbiofcfphpikaa", sum := "9bb55d191a717e106dc337a1d572ad04929e1e7b7238c78653f5e94b6e9a77fe", func := "derrick/derricklaw14.ListFull", spec := "listFull", unfollowed := true, recurses := true, apart := false }
def ListFullSaid : Prop := listFullRow.holds Try.pinned (OpenSpec.ofChange listFullSpec)

/-- ITS FALSE NEIGHBOUR: 'it returns false'. Refute it at one input. -/
def listFullWrong : ChangeSpec := { name := "listFull", fn := fun _ => fun
  | [d1, d2] => { results := [.lit (.bool false)], args := [d1, d2] }
  | _ => none }
def ListFullWrongFalsely : Prop := listFullRow.holds Try.pinned (OpenSpec.ofChange listFullWrong)

/-- 'derricklaw14.ListAlias': WHATEVER THE INPUT: true; the input reads as it did. -/
def listAliasSpec : ChangeSpec := { name := "listAlias", fn := fun _ => fun
  | [d1, d2, d3, d4, d5] => { results := [.lit (.bool true)], args := [d1, d2, d3, d4, d5] }
  | _ => none }
def listAliasRow : OpenClaim := { program := "ytnbiofcfphpikaa", sum := "9bb55d191a717e106dc337a1d572ad04929e1e7b7238c78653f5e94b6e9a77fe", func := "derrick/derricklaw14.ListAlias", spec := "listAlias", unfollowed := true, recurses := true, apart := false }
def ListAliasSaid : Prop := listAliasRow.holds Try.pinned (OpenSpec.ofChange listAliasSpec)

/-- ITS FALSE NEIGHBOUR: 'it returns false'. Refute it at one input. -/
def listAliasWrong : ChangeSpec := { name := "listAlias", fn := fun _ => fun
  | [d1, d2, d3, d4, d5] => { results := [.lit (.bool false)], args := [d1, d2, d3, d4, d5] }
  | _ => none }
def ListAliasWrongFalsely : Prop := listAliasRow.holds Try.pinned (OpenSpec.ofChange listAliasWrong)

/-- 'derricklaw14.ListKeeps': WHATEVER THE INPUT: true; the input reads as it did. -/
def listKeepsSpec : ChangeSpec := { name := "listKeeps", fn := fun _ => fun
  | [d1, d2] => { results := [.lit (.bool true)], args := [d1, d2] }
  | _ => none }
def listKeepsRow : OpenClaim := { program := "ytnbiofcfphpikaa", sum := "9bb55d191a717e106dc337a1d572ad04929e1e7b7238c78653f5e94b6e9a77fe", func := "derrick/derricklaw14.ListKeeps", spec := "listKeeps", unfollowed := true, recurses := true, apart := false }
def ListKeepsSaid : Prop := listKeepsRow.holds Try.pinned (OpenSpec.ofChange listKeepsSpec)

/-- ITS FALSE NEIGHBOUR: 'it returns false'. Refute it at one input. -/
def listKeepsWrong : ChangeSpec := { name := "listKeeps", fn := fun _ => fun
  | [d1, d2] => { results := [.lit (.bool false)], args := [d1, d2] }
  | _ => none }
def ListKeepsWrongFalsely : Prop := listKeepsRow.holds Try.pinned (OpenSpec.ofChange listKeepsWrong)

/- THE SECOND FORM. 'bulk': how many values and letters a reading holds, each counted each time it is reached (what is shared counts as often as it is met; a slice's spare places count too). A statement '..UptoSaid' is the law's where the arguments, and the package variables that the reading takes, are together of bulk at most 1048576: NARROWER than '..Said'. Prove '..Said' where nothing that the law and all that it calls make is longer than what came in: it says more and counts as full. Else prove '..UptoSaid'. A law counts once. -/
mutual
def uptoBulk {H : Type} : DataW H → Nat
  | .lit (.string bytes) => bytes.length + 1
  | .lit _ => 1
  | .nil => 1
  | .ptr d => uptoBulk d + 1
  | .slice elems spare => uptoBulkAll elems + uptoBulkAll spare + 1
  | .agg parts => uptoBulkAll parts + 1
  | .iface _ d => uptoBulk d + 1
  | .map entries => uptoBulkEntries entries + 1
  | .held _ => 1
def uptoBulkAll {H : Type} : List (DataW H) → Nat
  | [] => 0
  | d :: r => uptoBulk d + uptoBulkAll r
def uptoBulkEntries {H : Type} : List (Lit × DataW H) → Nat
  | [] => 0
  | x :: r => uptoBulkEntry x + uptoBulkEntries r
def uptoBulkEntry {H : Type} : Lit × DataW H → Nat
  | (.string bytes, d) => bytes.length + uptoBulk d + 1
  | (_, d) => uptoBulk d + 1
 end
def uptoSmall : (H : Type) → List (DataW H) → Bool := fun _ ds => decide (uptoBulkAll ds ≤ 1048576)
def OpenSpec.upto (s : _root_.Go.ChangeSpec) : _root_.Go.OpenSpec := { _root_.Go.OpenSpec.ofChange s with cond := some uptoSmall }

/-- 'derricklaw12.SpaceDrops', WHERE WHAT IT READS IS OF BULK AT MOST 1048576: true; the input reads as it did. -/
def spaceDropsUptoRow : OpenClaim := { program := "ytnbiofcfphpikaa", sum := "9bb55d191a717e106dc337a1d572ad04929e1e7b7238c78653f5e94b6e9a77fe", func := "derrick/derricklaw12.SpaceDrops", spec := "spaceDrops", unfollowed := true, recurses := true, apart := false, narrowed := true }
def SpaceDropsUptoSaid : Prop := spaceDropsUptoRow.holds Try.pinned (OpenSpec.upto spaceDropsSpec)

/-- 'derricklaw12.SpaceHeads', WHERE WHAT IT READS IS OF BULK AT MOST 1048576: true; the input reads as it did. -/
def spaceHeadsUptoRow : OpenClaim := { program := "ytnbiofcfphpikaa", sum := "9bb55d191a717e106dc337a1d572ad04929e1e7b7238c78653f5e94b6e9a77fe", func := "derrick/derricklaw12.SpaceHeads", spec := "spaceHeads", unfollowed := true, recurses := true, apart := false, narrowed := true }
def SpaceHeadsUptoSaid : Prop := spaceHeadsUptoRow.holds Try.pinned (OpenSpec.upto spaceHeadsSpec)

/-- 'derricklaw12.SpacePlays', WHERE WHAT IT READS IS OF BULK AT MOST 1048576: true; the input reads as it did. -/
def spacePlaysUptoRow : OpenClaim := { program := "ytnbiofcfphpikaa", sum := "9bb55d191a717e106dc337a1d572ad04929e1e7b7238c78653f5e94b6e9a77fe", func := "derrick/derricklaw12.SpacePlays", spec := "spacePlays", unfollowed := true, recurses := true, apart := false, narrowed := true }
def SpacePlaysUptoSaid : Prop := spacePlaysUptoRow.holds Try.pinned (OpenSpec.upto spacePlaysSpec)

/-- 'derricklaw12.SpaceKeeps', WHERE WHAT IT READS IS OF BULK AT MOST 1048576: true; the input reads as it did. -/
def spaceKeepsUptoRow : OpenClaim := { program := "ytnbiofcfphpikaa", sum := "9bb55d191a717e106dc337a1d572ad04929e1e7b7238c78653f5e94b6e9a77fe", func := "derrick/derricklaw12.SpaceKeeps", spec := "spaceKeeps", unfollowed := true, recurses := true, apart := false, narrowed := true }
def SpaceKeepsUptoSaid : Prop := spaceKeepsUptoRow.holds Try.pinned (OpenSpec.upto spaceKeepsSpec)

/-- 'derricklaw13.TextBack', WHERE WHAT IT READS IS OF BULK AT MOST 1048576: true; the input reads as it did. -/
def textBackUptoRow : OpenClaim := { program := "ytnbiofcfphpikaa", sum := "9bb55d191a717e106dc337a1d572ad04929e1e7b7238c78653f5e94b6e9a77fe", func := "derrick/derricklaw13.TextBack", spec := "textBack", unfollowed := true, recurses := true, apart := false, narrowed := true }
def TextBackUptoSaid : Prop := textBackUptoRow.holds Try.pinned (OpenSpec.upto textBackSpec)

/-- 'derricklaw15.MailTurns', WHERE WHAT IT READS IS OF BULK AT MOST 1048576: true; the input reads as it did. -/
def mailTurnsUptoRow : OpenClaim := { program := "ytnbiofcfphpikaa", sum := "9bb55d191a717e106dc337a1d572ad04929e1e7b7238c78653f5e94b6e9a77fe", func := "derrick/derricklaw15.MailTurns", spec := "mailTurns", unfollowed := true, recurses := true, apart := false, narrowed := true }
def MailTurnsUptoSaid : Prop := mailTurnsUptoRow.holds Try.pinned (OpenSpec.upto mailTurnsSpec)

/-- 'derricklaw15.MailPlays', WHERE WHAT IT READS IS OF BULK AT MOST 1048576: true; the input reads as it did. -/
def mailPlaysUptoRow : OpenClaim := { program := "ytnbiofcfphpikaa", sum := "9bb55d191a717e106dc337a1d572ad04929e1e7b7238c78653f5e94b6e9a77fe", func := "derrick/derricklaw15.MailPlays", spec := "mailPlays", unfollowed := true, recurses := true, apart := false, narrowed := true }
def MailPlaysUptoSaid : Prop := mailPlaysUptoRow.holds Try.pinned (OpenSpec.upto mailPlaysSpec)

/-- 'derricklaw15.MailNil', WHERE WHAT IT READS IS OF BULK AT MOST 1048576: true; the input reads as it did. -/
def mailNilUptoRow : OpenClaim := { program := "ytnbiofcfphpikaa", sum := "9bb55d191a717e106dc337a1d572ad04929e1e7b7238c78653f5e94b6e9a77fe", func := "derrick/derricklaw15.MailNil", spec := "mailNil", unfollowed := true, recurses := true, apart := false, narrowed := true }
def MailNilUptoSaid : Prop := mailNilUptoRow.holds Try.pinned (OpenSpec.upto mailNilSpec)

/-- 'derricklaw15.MailTwo', WHERE WHAT IT READS IS OF BULK AT MOST 1048576: true; the input reads as it did. -/
def mailTwoUptoRow : OpenClaim := { program := "ytnbiofcfphpikaa", sum := "9bb55d191a717e106dc337a1d572ad04929e1e7b7238c78653f5e94b6e9a77fe", func := "derrick/derricklaw15.MailTwo", spec := "mailTwo", unfollowed := true, recurses := true, apart := false, narrowed := true }
def MailTwoUptoSaid : Prop := mailTwoUptoRow.holds Try.pinned (OpenSpec.upto mailTwoSpec)

/-- 'derricklaw13.TextFull', WHERE WHAT IT READS IS OF BULK AT MOST 1048576: true; the input reads as it did. -/
def textFullUptoRow : OpenClaim := { program := "ytnbiofcfphpikaa", sum := "9bb55d191a717e106dc337a1d572ad04929e1e7b7238c78653f5e94b6e9a77fe", func := "derrick/derricklaw13.TextFull", spec := "textFull", unfollowed := true, recurses := true, apart := false, narrowed := true }
def TextFullUptoSaid : Prop := textFullUptoRow.holds Try.pinned (OpenSpec.upto textFullSpec)

/-- 'derricklaw13.TextConstants', WHERE WHAT IT READS IS OF BULK AT MOST 1048576: true; the input reads as it did. -/
def textConstantsUptoRow : OpenClaim := { program := "ytnbiofcfphpikaa", sum := "9bb55d191a717e106dc337a1d572ad04929e1e7b7238c78653f5e94b6e9a77fe", func := "derrick/derricklaw13.TextConstants", spec := "textConstants", unfollowed := true, recurses := true, apart := false, narrowed := true }
def TextConstantsUptoSaid : Prop := textConstantsUptoRow.holds Try.pinned (OpenSpec.upto textConstantsSpec)

/-- 'derricklaw13.TextJoins', WHERE WHAT IT READS IS OF BULK AT MOST 1048576: true; the input reads as it did. -/
def textJoinsUptoRow : OpenClaim := { program := "ytnbiofcfphpikaa", sum := "9bb55d191a717e106dc337a1d572ad04929e1e7b7238c78653f5e94b6e9a77fe", func := "derrick/derricklaw13.TextJoins", spec := "textJoins", unfollowed := true, recurses := true, apart := false, narrowed := true }
def TextJoinsUptoSaid : Prop := textJoinsUptoRow.holds Try.pinned (OpenSpec.upto textJoinsSpec)

/-- 'derricklaw15.MailKeeps', WHERE WHAT IT READS IS OF BULK AT MOST 1048576: true; the input reads as it did. -/
def mailKeepsUptoRow : OpenClaim := { program := "ytnbiofcfphpikaa", sum := "9bb55d191a717e106dc337a1d572ad04929e1e7b7238c78653f5e94b6e9a77fe", func := "derrick/derricklaw15.MailKeeps", spec := "mailKeeps", unfollowed := true, recurses := true, apart := false, narrowed := true }
def MailKeepsUptoSaid : Prop := mailKeepsUptoRow.holds Try.pinned (OpenSpec.upto mailKeepsSpec)

/-- 'derricklaw14.ListGrows', WHERE WHAT IT READS IS OF BULK AT MOST 1048576: true; the input reads as it did. -/
def listGrowsUptoRow : OpenClaim := { program := "ytnbiofcfphpikaa", sum := "9bb55d191a717e106dc337a1d572ad04929e1e7b7238c78653f5e94b6e9a77fe", func := "derrick/derricklaw14.ListGrows", spec := "listGrows", unfollowed := true, recurses := true, apart := false, narrowed := true }
def ListGrowsUptoSaid : Prop := listGrowsUptoRow.holds Try.pinned (OpenSpec.upto listGrowsSpec)

/-- 'derricklaw14.ListFull', WHERE WHAT IT READS IS OF BULK AT MOST 1048576: true; the input reads as it did. -/
def listFullUptoRow : OpenClaim := { program := "ytnbiofcfphpikaa", sum := "9bb55d191a717e106dc337a1d572ad04929e1e7b7238c78653f5e94b6e9a77fe", func := "derrick/derricklaw14.ListFull", spec := "listFull", unfollowed := true, recurses := true, apart := false, narrowed := true }
def ListFullUptoSaid : Prop := listFullUptoRow.holds Try.pinned (OpenSpec.upto listFullSpec)

/-- 'derricklaw14.ListAlias', WHERE WHAT IT READS IS OF BULK AT MOST 1048576: true; the input reads as it did. -/
def listAliasUptoRow : OpenClaim := { program := "ytnbiofcfphpikaa", sum := "9bb55d191a717e106dc337a1d572ad04929e1e7b7238c78653f5e94b6e9a77fe", func := "derrick/derricklaw14.ListAlias", spec := "listAlias", unfollowed := true, recurses := true, apart := false, narrowed := true }
def ListAliasUptoSaid : Prop := listAliasUptoRow.holds Try.pinned (OpenSpec.upto listAliasSpec)

/-- 'derricklaw14.ListKeeps', WHERE WHAT IT READS IS OF BULK AT MOST 1048576: true; the input reads as it did. -/
def listKeepsUptoRow : OpenClaim := { program := "ytnbiofcfphpikaa", sum := "9bb55d191a717e106dc337a1d572ad04929e1e7b7238c78653f5e94b6e9a77fe", func := "derrick/derricklaw14.ListKeeps", spec := "listKeeps", unfollowed := true, recurses := true, apart := false, narrowed := true }
def ListKeepsUptoSaid : Prop := listKeepsUptoRow.holds Try.pinned (OpenSpec.upto listKeepsSpec)

end Rows
end Go.Proofs.Ytnbiofcfphpikaa

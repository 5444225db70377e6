/-
  No cell of these rows narrows 'for every input' (looked for: loops, veiled, ifaces, maps, wideKeys, modest, calm, conditions, laid).
  DERIVED. THE GIVEN ROWS OF THIS SEAT. 5 by the template 'for every input the law returns true; each argument reads behind the call as it read before'; 0 by the template 'total and deterministic' (their statements: YtneoacbacflehaaTotals.lean).
  GIVEN WITH THE SEED: the statements are not yours to turn. If you find one false, say at which input.
  Laid BY PROGRAM, IN A SANDBOX (cutbox-rows.mjs): the forced cells as the released guide's own fill.sh prints them over the translation 316839d5e9dedc8d… (all of the seat's roots in one cut). By AI agents, Wed Nov 11 2026. No macro, syntax, notation, axiom, sorry.
-/
import Derived.Test.YtneoacbacflehaaChecked
import GoSem.Claim
import GoSem.ClaimJoined
import GoSem.ClaimMapViews
import Derived.JoinedTies
import Derived.KernelRfl
namespace Go.Proofs.Ytneoacbacflehaa
/- THE CELL 'sum', in the pinned program and in every row, IS THE sha256 OF THE DUMP (.gsa) THAT YtneoacbacflehaaProg.lean LOADS. Nothing in Lean hashes anything: it is a label: what it is worth is what the hold of that sum in a sandbox is worth. -/
noncomputable def Try.pinned : Pinned := { name := "ytneoacbacflehaa", sum := "316839d5e9dedc8dd94856f93756684b3f919b17f5832dc1ece1a59e7e524f15", checked := Try.checked }
namespace Rows
def none {H : Type} : Left H := { results := [], args := [] }

/-- 'limewashlaw17.ShelfDoes': WHATEVER THE INPUT: true; the input reads as it did. -/
def shelfDoesSpec : ChangeSpec := { name := "shelfDoes", fn := fun _ => fun
  | [d1, d2, d3, d4, d5, d6, d7, d8] => { results := [.lit (.bool true)], args := [d1, d2, d3, d4, d5, d6, d7, d8] }
  | _ => none }
def shelfDoesRow : OpenClaim := { program := "ytneoacbacflehaa", sum := "316839d5e9dedc8dd94856f93756684b3f919b17f5832dc1ece1a59e7e524f15", func := "limewash/limewashlaw17.ShelfDoes", spec := "shelfDoes", unfollowed := true, recurses := true, apart := false }
def ShelfDoesSaid : Prop := shelfDoesRow.holds Try.pinned (OpenSpec.ofChange shelfDoesSpec)

/-- ITS FALSE NEIGHBOUR: 'it returns false'. Refute it at one input. -/
def shelfDoesWrong : ChangeSpec := { name := "shelfDoes", fn := fun _ => fun
  | [d1, d2, d3, d4, d5, d6, d7, d8] => { results := [.lit (.bool false)], args := [d1, d2, d3, d4, d5, d6, d7, d8] }
  | _ => none }
def ShelfDoesWrongFalsely : Prop := shelfDoesRow.holds Try.pinned (OpenSpec.ofChange shelfDoesWrong)

/-- 'limewashlaw17.ShelfRight': WHATEVER THE INPUT: true; the input reads as it did. -/
def shelfRightSpec : ChangeSpec := { name := "shelfRight", fn := fun _ => fun
  | [d1, d2, d3] => { results := [.lit (.bool true)], args := [d1, d2, d3] }
  | _ => none }
def shelfRightRow : OpenClaim := { program := "ytneoacbacflehaa", sum := "316839d5e9dedc8dd94856f93756684b3f919b17f5832dc1ece1a59e7e524f15", func := "limewash/limewashlaw17.ShelfRight", spec := "shelfRight", unfollowed := true, recurses := true, apart := false }
def ShelfRightSaid : Prop := shelfRightRow.holds Try.pinned (OpenSpec.ofChange shelfRightSpec)

/-- ITS FALSE NEIGHBOUR: 'it returns false'. Refute it at one input. -/
def shelfRightWrong : ChangeSpec := { name := "shelfRight", fn := fun _ => fun
  | [d1, d2, d3] => { results := [.lit (.bool false)], args := [d1, d2, d3] }
  | _ => none }
def ShelfRightWrongFalsely : Prop := shelfRightRow.holds Try.pinned (OpenSpec.ofChange shelfRightWrong)

/-- 'limewashlaw17.ShelfRoom': WHATEVER THE INPUT: true; the input reads as it did. -/
def shelfRoomSpec : ChangeSpec := { name := "shelfRoom", fn := fun _ => fun
  | [d1, d2, d3] => { results := [.lit (.bool true)], args := [d1, d2, d3] }
  | _ => none }
def shelfRoomRow : OpenClaim := { program := "ytneoacbacflehaa", sum := "316839d5e9dedc8dd94856f93756684b3f919b17f5832dc1ece1a59e7e524f15", func := "limewash/limewashlaw17.ShelfRoom", spec := "shelfRoom", unfollowed := true, recurses := true, apart := false }
def ShelfRoomSaid : Prop := shelfRoomRow.holds Try.pinned (OpenSpec.ofChange shelfRoomSpec)

/-- ITS FALSE NEIGHBOUR: 'it returns false'. Refute it at one input. -/
def shelfRoomWrong : ChangeSpec := { name := "shelfRoom", fn := fun _ => fun
  | [d1, d2, d3] => { results := [.lit (.bool false)], args := [d1, d2, d3] }
  | _ => none }
def ShelfRoomWrongFalsely : Prop := shelfRoomRow.holds Try.pinned (OpenSpec.ofChange shelfRoomWrong)

/-- 'limewashlaw17.ShelfStands': WHATEVER THE INPUT: true; the input reads as it did. -/
def shelfStandsSpec : ChangeSpec := { name := "shelfStands", fn := fun _ => fun
  | [d1, d2, d3, d4] => { results := [.lit (.bool true)], args := [d1, d2, d3, d4] }
  | _ => none }
def shelfStandsRow : OpenClaim := { program := "ytneoacbacflehaa", sum := "316839d5e9dedc8dd94856f93756684b3f919b17f5832dc1ece1a59e7e524f15", func := "limewash/limewashlaw17.ShelfStands", spec := "shelfStands", unfollowed := true, recurses := true, apart := false }
def ShelfStandsSaid : Prop := shelfStandsRow.holds Try.pinned (OpenSpec.ofChange shelfStandsSpec)

/-- ITS FALSE NEIGHBOUR: 'it returns false'. Refute it at one input. -/
def shelfStandsWrong : ChangeSpec := { name := "shelfStands", fn := fun _ => fun
  | [d1, d2, d3, d4] => { results := [.lit (.bool false)], args := [d1, d2, d3, d4] }
  | _ => none }
def ShelfStandsWrongFalsely : Prop := shelfStandsRow.holds Try.pinned (OpenSpec.ofChange shelfStandsWrong)

/-- 'limewashlaw17.ShelfLowest': WHATEVER THE INPUT: true; the input reads as it did. -/
def shelfLowestSpec : ChangeSpec := { name := "shelfLowest", fn := fun _ => fun
  | [d1, d2, d3, d4] => { results := [.lit (.bool true)], args := [d1, d2, d3, d4] }
  | _ => none }
def shelfLowestRow : OpenClaim := { program := "ytneoacbacflehaa", sum := "316839d5e9dedc8dd94856f93756684b3f919b17f5832dc1ece1a59e7e524f15", func := "limewash/limewashlaw17.ShelfLowest", spec := "shelfLowest", unfollowed := true, recurses := true, apart := false }
def ShelfLowestSaid : Prop := shelfLowestRow.holds Try.pinned (OpenSpec.ofChange shelfLowestSpec)

/-- ITS FALSE NEIGHBOUR: 'it returns false'. Refute it at one input. -/
def shelfLowestWrong : ChangeSpec := { name := "shelfLowest", fn := fun _ => fun
  | [d1, d2, d3, d4] => { results := [.lit (.bool false)], args := [d1, d2, d3, d4] }
  | _ => none }
def ShelfLowestWrongFalsely : Prop := shelfLowestRow.holds Try.pinned (OpenSpec.ofChange shelfLowestWrong)

/- THE SECOND FORM. 'bulk': how many values and letters a reading holds, each counted each time it is reached (what is shared counts as often as it is met; a slice's spare places count too). A statement '..UptoSaid' is the law's where the arguments, and the package variables that the reading takes, are together of bulk at most 1048576: NARROWER than '..Said'. Prove '..Said' where nothing that the law and all that it calls make is longer than what came in: it says more and counts as full. Else prove '..UptoSaid'. A law counts once. -/
mutual
def uptoBulk {H : Type} : DataW H → Nat
  | .lit (.string bytes) => bytes.length + 1
  | .lit _ => 1
  | .nil => 1
  | .ptr d => uptoBulk d + 1
  | .slice elems spare => uptoBulkAll elems + uptoBulkAll spare + 1
  | .agg parts => uptoBulkAll parts + 1
  | .iface _ d => uptoBulk d + 1
  | .map entries => uptoBulkEntries entries + 1
  | .held _ => 1
def uptoBulkAll {H : Type} : List (DataW H) → Nat
  | [] => 0
  | d :: r => uptoBulk d + uptoBulkAll r
def uptoBulkEntries {H : Type} : List (Lit × DataW H) → Nat
  | [] => 0
  | x :: r => uptoBulkEntry x + uptoBulkEntries r
def uptoBulkEntry {H : Type} : Lit × DataW H → Nat
  | (.string bytes, d) => bytes.length + uptoBulk d + 1
  | (_, d) => uptoBulk d + 1
 end
def uptoSmall : (H : Type) → List (DataW H) → Bool := fun _ ds => decide (uptoBulkAll ds ≤ 1048576)
def OpenSpec.upto (s : _root_.Go.ChangeSpec) : _root_.Go.OpenSpec := { _root_.Go.OpenSpec.ofChange s with cond := some uptoSmall }

/-- 'limewashlaw17.ShelfDoes', WHERE WHAT IT READS IS OF BULK AT MOST 1048576: true; the input reads as it did. -/
def shelfDoesUptoRow : OpenClaim := { program := "ytneoacbacflehaa", sum := "316839d5e9dedc8dd94856f93756684b3f919b17f5832dc1ece1a59e7e524f15", func := "limewash/limewashlaw17.ShelfDoes", spec := "shelfDoes", unfollowed := true, recurses := true, apart := false, narrowed := true }
def ShelfDoesUptoSaid : Prop := shelfDoesUptoRow.holds Try.pinned (OpenSpec.upto shelfDoesSpec)

/-- 'limewashlaw17.ShelfRight', WHERE WHAT IT READS IS OF BULK AT MOST 1048576: true; the input reads as it did. -/
def shelfRightUptoRow : OpenClaim := { program := "ytneoacbacflehaa", sum := "316839d5e9dedc8dd94856f93756684b3f919b17f5832dc1ece1a59e7e524f15", func := "limewash/limewashlaw17.ShelfRight", spec := "shelfRight", unfollowed := true, recurses := true, apart := false, narrowed := true }
def ShelfRightUptoSaid : Prop := shelfRightUptoRow.holds Try.pinned (OpenSpec.upto shelfRightSpec)

/-- 'limewashlaw17.ShelfRoom', WHERE WHAT IT READS IS OF BULK AT MOST 1048576: true; the input reads as it did. -/
def shelfRoomUptoRow : OpenClaim := { program := "ytneoacbacflehaa", sum := "316839d5e9dedc8dd94856f93756684b3f919b17f5832dc1ece1a59e7e524f15", func := "limewash/limewashlaw17.ShelfRoom", spec := "shelfRoom", unfollowed := true, recurses := true, apart := false, narrowed := true }
def ShelfRoomUptoSaid : Prop := shelfRoomUptoRow.holds Try.pinned (OpenSpec.upto shelfRoomSpec)

/-- 'limewashlaw17.ShelfStands', WHERE WHAT IT READS IS OF BULK AT MOST 1048576: true; the input reads as it did. -/
def shelfStandsUptoRow : OpenClaim := { program := "ytneoacbacflehaa", sum := "316839d5e9dedc8dd94856f93756684b3f919b17f5832dc1ece1a59e7e524f15", func := "limewash/limewashlaw17.ShelfStands", spec := "shelfStands", unfollowed := true, recurses := true, apart := false, narrowed := true }
def ShelfStandsUptoSaid : Prop := shelfStandsUptoRow.holds Try.pinned (OpenSpec.upto shelfStandsSpec)

/-- 'limewashlaw17.ShelfLowest', WHERE WHAT IT READS IS OF BULK AT MOST 1048576: true; the input reads as it did. -/
def shelfLowestUptoRow : OpenClaim := { program := "ytneoacbacflehaa", sum := "316839d5e9dedc8dd94856f93756684b3f919b17f5832dc1ece1a59e7e524f15", func := "limewash/limewashlaw17.ShelfLowest", spec := "shelfLowest", unfollowed := true, recurses := true, apart := false, narrowed := true }
def ShelfLowestUptoSaid : Prop := shelfLowestUptoRow.holds Try.pinned (OpenSpec.upto shelfLowestSpec)

end Rows
end Go.Proofs.Ytneoacbacflehaa

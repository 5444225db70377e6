/-
  No cell of these rows narrows 'for every input' (looked for: loops, veiled, ifaces, maps, wideKeys, modest, calm, conditions, laid).
  DERIVED. THE GIVEN ROWS OF THIS SEAT. 5 by the template 'for every input the law returns true; each argument reads behind the call as it read before'; 0 by the template 'total and deterministic' (their statements: YtmkmmkpigpbkiaaTotals.lean).
  GIVEN WITH THE SEED: the statements are not yours to turn. If you find one false, say at which input.
  Laid BY PROGRAM, IN A SANDBOX (cutbox-rows.mjs): the forced cells as the released guide's own fill.sh prints them over the translation 4a7f40d834ba66d8… (all of the seat's roots in one cut). By AI agents, Wed Nov 11 2026. No macro, syntax, notation, axiom, sorry.
-/
import Derived.Test.YtmkmmkpigpbkiaaChecked
import GoSem.Claim
import GoSem.ClaimJoined
import GoSem.ClaimMapViews
import Derived.JoinedTies
import Derived.KernelRfl
namespace Go.Proofs.Ytmkmmkpigpbkiaa
/- THE CELL 'sum', in the pinned program and in every row, IS THE sha256 OF THE DUMP (.gsa) THAT YtmkmmkpigpbkiaaProg.lean LOADS. Nothing in Lean hashes anything: it is a label: what it is worth is what the hold of that sum in a sandbox is worth. -/
noncomputable def Try.pinned : Pinned := { name := "ytmkmmkpigpbkiaa", sum := "4a7f40d834ba66d8ffa75a509aeda09e1919002b411409c95b6661e26c366f15", checked := Try.checked }
namespace Rows
def none {H : Type} : Left H := { results := [], args := [] }

/-- 'limewashlaw28.DilateDoes': WHATEVER THE INPUT: true; the input reads as it did. -/
def dilateDoesSpec : ChangeSpec := { name := "dilateDoes", fn := fun _ => fun
  | [d1, d2, d3, d4, d5, d6, d7, d8] => { results := [.lit (.bool true)], args := [d1, d2, d3, d4, d5, d6, d7, d8] }
  | _ => none }
def dilateDoesRow : OpenClaim := { program := "ytmkmmkpigpbkiaa", sum := "4a7f40d834ba66d8ffa75a509aeda09e1919002b411409c95b6661e26c366f15", func := "limewash/limewashlaw28.DilateDoes", spec := "dilateDoes", unfollowed := true, recurses := true, apart := false }
def DilateDoesSaid : Prop := dilateDoesRow.holds Try.pinned (OpenSpec.ofChange dilateDoesSpec)

/-- ITS FALSE NEIGHBOUR: 'it returns false'. Refute it at one input. -/
def dilateDoesWrong : ChangeSpec := { name := "dilateDoes", fn := fun _ => fun
  | [d1, d2, d3, d4, d5, d6, d7, d8] => { results := [.lit (.bool false)], args := [d1, d2, d3, d4, d5, d6, d7, d8] }
  | _ => none }
def DilateDoesWrongFalsely : Prop := dilateDoesRow.holds Try.pinned (OpenSpec.ofChange dilateDoesWrong)

/-- 'limewashlaw28.DilateKeeps': WHATEVER THE INPUT: true; the input reads as it did. -/
def dilateKeepsSpec : ChangeSpec := { name := "dilateKeeps", fn := fun _ => fun
  | [d1, d2, d3] => { results := [.lit (.bool true)], args := [d1, d2, d3] }
  | _ => none }
def dilateKeepsRow : OpenClaim := { program := "ytmkmmkpigpbkiaa", sum := "4a7f40d834ba66d8ffa75a509aeda09e1919002b411409c95b6661e26c366f15", func := "limewash/limewashlaw28.DilateKeeps", spec := "dilateKeeps", unfollowed := true, recurses := true, apart := false }
def DilateKeepsSaid : Prop := dilateKeepsRow.holds Try.pinned (OpenSpec.ofChange dilateKeepsSpec)

/-- ITS FALSE NEIGHBOUR: 'it returns false'. Refute it at one input. -/
def dilateKeepsWrong : ChangeSpec := { name := "dilateKeeps", fn := fun _ => fun
  | [d1, d2, d3] => { results := [.lit (.bool false)], args := [d1, d2, d3] }
  | _ => none }
def DilateKeepsWrongFalsely : Prop := dilateKeepsRow.holds Try.pinned (OpenSpec.ofChange dilateKeepsWrong)

/-- 'limewashlaw28.DilateFarther': WHATEVER THE INPUT: true; the input reads as it did. -/
def dilateFartherSpec : ChangeSpec := { name := "dilateFarther", fn := fun _ => fun
  | [d1, d2, d3, d4] => { results := [.lit (.bool true)], args := [d1, d2, d3, d4] }
  | _ => none }
def dilateFartherRow : OpenClaim := { program := "ytmkmmkpigpbkiaa", sum := "4a7f40d834ba66d8ffa75a509aeda09e1919002b411409c95b6661e26c366f15", func := "limewash/limewashlaw28.DilateFarther", spec := "dilateFarther", unfollowed := true, recurses := true, apart := false }
def DilateFartherSaid : Prop := dilateFartherRow.holds Try.pinned (OpenSpec.ofChange dilateFartherSpec)

/-- ITS FALSE NEIGHBOUR: 'it returns false'. Refute it at one input. -/
def dilateFartherWrong : ChangeSpec := { name := "dilateFarther", fn := fun _ => fun
  | [d1, d2, d3, d4] => { results := [.lit (.bool false)], args := [d1, d2, d3, d4] }
  | _ => none }
def DilateFartherWrongFalsely : Prop := dilateFartherRow.holds Try.pinned (OpenSpec.ofChange dilateFartherWrong)

/-- 'limewashlaw28.DilateFar': WHATEVER THE INPUT: true; the input reads as it did. -/
def dilateFarSpec : ChangeSpec := { name := "dilateFar", fn := fun _ => fun
  | [d1, d2, d3] => { results := [.lit (.bool true)], args := [d1, d2, d3] }
  | _ => none }
def dilateFarRow : OpenClaim := { program := "ytmkmmkpigpbkiaa", sum := "4a7f40d834ba66d8ffa75a509aeda09e1919002b411409c95b6661e26c366f15", func := "limewash/limewashlaw28.DilateFar", spec := "dilateFar", unfollowed := true, recurses := true, apart := false }
def DilateFarSaid : Prop := dilateFarRow.holds Try.pinned (OpenSpec.ofChange dilateFarSpec)

/-- ITS FALSE NEIGHBOUR: 'it returns false'. Refute it at one input. -/
def dilateFarWrong : ChangeSpec := { name := "dilateFar", fn := fun _ => fun
  | [d1, d2, d3] => { results := [.lit (.bool false)], args := [d1, d2, d3] }
  | _ => none }
def DilateFarWrongFalsely : Prop := dilateFarRow.holds Try.pinned (OpenSpec.ofChange dilateFarWrong)

/-- 'limewashlaw28.DilateFill': WHATEVER THE INPUT: true; the input reads as it did. -/
def dilateFillSpec : ChangeSpec := { name := "dilateFill", fn := fun _ => fun
  | [d1, d2, d3] => { results := [.lit (.bool true)], args := [d1, d2, d3] }
  | _ => none }
def dilateFillRow : OpenClaim := { program := "ytmkmmkpigpbkiaa", sum := "4a7f40d834ba66d8ffa75a509aeda09e1919002b411409c95b6661e26c366f15", func := "limewash/limewashlaw28.DilateFill", spec := "dilateFill", unfollowed := true, recurses := true, apart := false }
def DilateFillSaid : Prop := dilateFillRow.holds Try.pinned (OpenSpec.ofChange dilateFillSpec)

/-- ITS FALSE NEIGHBOUR: 'it returns false'. Refute it at one input. -/
def dilateFillWrong : ChangeSpec := { name := "dilateFill", fn := fun _ => fun
  | [d1, d2, d3] => { results := [.lit (.bool false)], args := [d1, d2, d3] }
  | _ => none }
def DilateFillWrongFalsely : Prop := dilateFillRow.holds Try.pinned (OpenSpec.ofChange dilateFillWrong)

/- THE SECOND FORM. 'bulk': how many values and letters a reading holds, each counted each time it is reached (what is shared counts as often as it is met; a slice's spare places count too). A statement '..UptoSaid' is the law's where the arguments, and the package variables that the reading takes, are together of bulk at most 1048576: NARROWER than '..Said'. Prove '..Said' where nothing that the law and all that it calls make is longer than what came in: it says more and counts as full. Else prove '..UptoSaid'. A law counts once. -/
mutual
def uptoBulk {H : Type} : DataW H → Nat
  | .lit (.string bytes) => bytes.length + 1
  | .lit _ => 1
  | .nil => 1
  | .ptr d => uptoBulk d + 1
  | .slice elems spare => uptoBulkAll elems + uptoBulkAll spare + 1
  | .agg parts => uptoBulkAll parts + 1
  | .iface _ d => uptoBulk d + 1
  | .map entries => uptoBulkEntries entries + 1
  | .held _ => 1
def uptoBulkAll {H : Type} : List (DataW H) → Nat
  | [] => 0
  | d :: r => uptoBulk d + uptoBulkAll r
def uptoBulkEntries {H : Type} : List (Lit × DataW H) → Nat
  | [] => 0
  | x :: r => uptoBulkEntry x + uptoBulkEntries r
def uptoBulkEntry {H : Type} : Lit × DataW H → Nat
  | (.string bytes, d) => bytes.length + uptoBulk d + 1
  | (_, d) => uptoBulk d + 1
 end
def uptoSmall : (H : Type) → List (DataW H) → Bool := fun _ ds => decide (uptoBulkAll ds ≤ 1048576)
def OpenSpec.upto (s : _root_.Go.ChangeSpec) : _root_.Go.OpenSpec := { _root_.Go.OpenSpec.ofChange s with cond := some uptoSmall }

/-- 'limewashlaw28.DilateDoes', WHERE WHAT IT READS IS OF BULK AT MOST 1048576: true; the input reads as it did. -/
def dilateDoesUptoRow : OpenClaim := { program := "ytmkmmkpigpbkiaa", sum := "4a7f40d834ba66d8ffa75a509aeda09e1919002b411409c95b6661e26c366f15", func := "limewash/limewashlaw28.DilateDoes", spec := "dilateDoes", unfollowed := true, recurses := true, apart := false, narrowed := true }
def DilateDoesUptoSaid : Prop := dilateDoesUptoRow.holds Try.pinned (OpenSpec.upto dilateDoesSpec)

/-- 'limewashlaw28.DilateKeeps', WHERE WHAT IT READS IS OF BULK AT MOST 1048576: true; the input reads as it did. -/
def dilateKeepsUptoRow : OpenClaim := { program := "ytmkmmkpigpbkiaa", sum := "4a7f40d834ba66d8ffa75a509aeda09e1919002b411409c95b6661e26c366f15", func := "limewash/limewashlaw28.DilateKeeps", spec := "dilateKeeps", unfollowed := true, recurses := true, apart := false, narrowed := true }
def DilateKeepsUptoSaid : Prop := dilateKeepsUptoRow.holds Try.pinned (OpenSpec.upto dilateKeepsSpec)

/-- 'limewashlaw28.DilateFarther', WHERE WHAT IT READS IS OF BULK AT MOST 1048576: true; the input reads as it did. -/
def dilateFartherUptoRow : OpenClaim := { program := "ytmkmmkpigpbkiaa", sum := "4a7f40d834ba66d8ffa75a509aeda09e1919002b411409c95b6661e26c366f15", func := "limewash/limewashlaw28.DilateFarther", spec := "dilateFarther", unfollowed := true, recurses := true, apart := false, narrowed := true }
def DilateFartherUptoSaid : Prop := dilateFartherUptoRow.holds Try.pinned (OpenSpec.upto dilateFartherSpec)

/-- 'limewashlaw28.DilateFar', WHERE WHAT IT READS IS OF BULK AT MOST 1048576: true; the input reads as it did. -/
def dilateFarUptoRow : OpenClaim := { program := "ytmkmmkpigpbkiaa", sum := "4a7f40d834ba66d8ffa75a509aeda09e1919002b411409c95b6661e26c366f15", func := "limewash/limewashlaw28.DilateFar", spec := "dilateFar", unfollowed := true, recurses := true, apart := false, narrowed := true }
def DilateFarUptoSaid : Prop := dilateFarUptoRow.holds Try.pinned (OpenSpec.upto dilateFarSpec)

/-- 'limewashlaw28.DilateFill', WHERE WHAT IT READS IS OF BULK AT MOST 1048576: true; the input reads as it did. -/
def dilateFillUptoRow : OpenClaim := { program := "ytmkmmkpigpbkiaa", sum := "4a7f40d834ba66d8ffa75a509aeda09e1919002b411409c95b6661e26c366f15", func := "limewash/limewashlaw28.DilateFill", spec := "dilateFill", unfollowed := true, recurses := true, apart := false, narrowed := true }
def DilateFillUptoSaid : Prop := dilateFillUptoRow.holds Try.pinned (OpenSpec.upto dilateFillSpec)

end Rows
end Go.Proofs.Ytmkmmkpigpbkiaa

/-
  No cell of these rows narrows 'for every input' (looked for: loops, veiled, ifaces, maps, wideKeys, modest, calm, conditions, laid).
  DERIVED. THE GIVEN ROWS OF THIS SEAT. 6 by the template 'for every input the law returns true; each argument reads behind the call as it read before'; 0 by the template 'total and deterministic' (their statements: YtfkkppagbhllgaaTotals.lean).
  GIVEN WITH THE SEED: the statements are not yours to turn. If you find one false, say at which input.
  Laid BY PROGRAM, IN A SANDBOX (cutbox-rows.mjs): the forced cells as the released guide's own fill.sh prints them over the translation 0bc19dc8ab8b0b68… (all of the seat's roots in one cut). By AI agents, Wed Nov 11 2026. No macro, syntax, notation, axiom, sorry.
-/
import Derived.Test.YtfkkppagbhllgaaChecked
import GoSem.Claim
import GoSem.ClaimJoined
import GoSem.ClaimMapViews
import Derived.JoinedTies
import Derived.KernelRfl
namespace Go.Proofs.Ytfkkppagbhllgaa
/- THE CELL 'sum', in the pinned program and in every row, IS THE sha256 OF THE DUMP (.gsa) THAT YtfkkppagbhllgaaProg.lean LOADS. Nothing in Lean hashes anything: it is a label: what it is worth is what the hold of that sum in a sandbox is worth. -/
noncomputable def Try.pinned : Pinned := { name := "ytfkkppagbhllgaa", sum := "0bc19dc8ab8b0b68914ef967548d14848069d7cd57608f54c2b646297b77cbf8", checked := Try.checked }
namespace Rows
def none {H : Type} : Left H := { results := [], args := [] }

/-- 'limewashlaw29.TgaDoes': WHATEVER THE INPUT: true; the input reads as it did. -/
def tgaDoesSpec : ChangeSpec := { name := "tgaDoes", fn := fun _ => fun
  | [d1, d2, d3, d4, d5, d6, d7, d8, d9] => { results := [.lit (.bool true)], args := [d1, d2, d3, d4, d5, d6, d7, d8, d9] }
  | _ => none }
def tgaDoesRow : OpenClaim := { program := "ytfkkppagbhllgaa", sum := "0bc19dc8ab8b0b68914ef967548d14848069d7cd57608f54c2b646297b77cbf8", func := "limewash/limewashlaw29.TgaDoes", spec := "tgaDoes", inPlace := ["internal/abi.NoEscape", "internal/bytealg.MakeNoZero"], unfollowed := true, recurses := true, apart := false }
def TgaDoesSaid : Prop := tgaDoesRow.holds Try.pinned (OpenSpec.ofChange tgaDoesSpec)

/-- ITS FALSE NEIGHBOUR: 'it returns false'. Refute it at one input. -/
def tgaDoesWrong : ChangeSpec := { name := "tgaDoes", fn := fun _ => fun
  | [d1, d2, d3, d4, d5, d6, d7, d8, d9] => { results := [.lit (.bool false)], args := [d1, d2, d3, d4, d5, d6, d7, d8, d9] }
  | _ => none }
def TgaDoesWrongFalsely : Prop := tgaDoesRow.holds Try.pinned (OpenSpec.ofChange tgaDoesWrong)

/-- 'limewashlaw29.TgaGets': WHATEVER THE INPUT: true; the input reads as it did. -/
def tgaGetsSpec : ChangeSpec := { name := "tgaGets", fn := fun _ => fun
  | [d] => { results := [.lit (.bool true)], args := [d] }
  | _ => none }
def tgaGetsRow : OpenClaim := { program := "ytfkkppagbhllgaa", sum := "0bc19dc8ab8b0b68914ef967548d14848069d7cd57608f54c2b646297b77cbf8", func := "limewash/limewashlaw29.TgaGets", spec := "tgaGets", inPlace := ["internal/abi.NoEscape", "internal/bytealg.MakeNoZero"], unfollowed := true, recurses := true, apart := false }
def TgaGetsSaid : Prop := tgaGetsRow.holds Try.pinned (OpenSpec.ofChange tgaGetsSpec)

/-- ITS FALSE NEIGHBOUR: 'it returns false'. Refute it at one input. -/
def tgaGetsWrong : ChangeSpec := { name := "tgaGets", fn := fun _ => fun
  | [d] => { results := [.lit (.bool false)], args := [d] }
  | _ => none }
def TgaGetsWrongFalsely : Prop := tgaGetsRow.holds Try.pinned (OpenSpec.ofChange tgaGetsWrong)

/-- 'limewashlaw29.TgaBack': WHATEVER THE INPUT: true; the input reads as it did. -/
def tgaBackSpec : ChangeSpec := { name := "tgaBack", fn := fun _ => fun
  | [d1, d2, d3] => { results := [.lit (.bool true)], args := [d1, d2, d3] }
  | _ => none }
def tgaBackRow : OpenClaim := { program := "ytfkkppagbhllgaa", sum := "0bc19dc8ab8b0b68914ef967548d14848069d7cd57608f54c2b646297b77cbf8", func := "limewash/limewashlaw29.TgaBack", spec := "tgaBack", inPlace := ["internal/abi.NoEscape", "internal/bytealg.MakeNoZero"], unfollowed := true, recurses := true, apart := false }
def TgaBackSaid : Prop := tgaBackRow.holds Try.pinned (OpenSpec.ofChange tgaBackSpec)

/-- ITS FALSE NEIGHBOUR: 'it returns false'. Refute it at one input. -/
def tgaBackWrong : ChangeSpec := { name := "tgaBack", fn := fun _ => fun
  | [d1, d2, d3] => { results := [.lit (.bool false)], args := [d1, d2, d3] }
  | _ => none }
def TgaBackWrongFalsely : Prop := tgaBackRow.holds Try.pinned (OpenSpec.ofChange tgaBackWrong)

/-- 'limewashlaw29.TgaSame': WHATEVER THE INPUT: true; the input reads as it did. -/
def tgaSameSpec : ChangeSpec := { name := "tgaSame", fn := fun _ => fun
  | [d] => { results := [.lit (.bool true)], args := [d] }
  | _ => none }
def tgaSameRow : OpenClaim := { program := "ytfkkppagbhllgaa", sum := "0bc19dc8ab8b0b68914ef967548d14848069d7cd57608f54c2b646297b77cbf8", func := "limewash/limewashlaw29.TgaSame", spec := "tgaSame", inPlace := ["internal/abi.NoEscape", "internal/bytealg.MakeNoZero"], unfollowed := true, recurses := true, apart := false }
def TgaSameSaid : Prop := tgaSameRow.holds Try.pinned (OpenSpec.ofChange tgaSameSpec)

/-- ITS FALSE NEIGHBOUR: 'it returns false'. Refute it at one input. -/
def tgaSameWrong : ChangeSpec := { name := "tgaSame", fn := fun _ => fun
  | [d] => { results := [.lit (.bool false)], args := [d] }
  | _ => none }
def TgaSameWrongFalsely : Prop := tgaSameRow.holds Try.pinned (OpenSpec.ofChange tgaSameWrong)

/-- 'limewashlaw29.TgaPacks': WHATEVER THE INPUT: true; the input reads as it did. -/
def tgaPacksSpec : ChangeSpec := { name := "tgaPacks", fn := fun _ => fun
  | [d1, d2, d3] => { results := [.lit (.bool true)], args := [d1, d2, d3] }
  | _ => none }
def tgaPacksRow : OpenClaim := { program := "ytfkkppagbhllgaa", sum := "0bc19dc8ab8b0b68914ef967548d14848069d7cd57608f54c2b646297b77cbf8", func := "limewash/limewashlaw29.TgaPacks", spec := "tgaPacks", inPlace := ["internal/abi.NoEscape", "internal/bytealg.MakeNoZero"], unfollowed := true, recurses := true, apart := false }
def TgaPacksSaid : Prop := tgaPacksRow.holds Try.pinned (OpenSpec.ofChange tgaPacksSpec)

/-- ITS FALSE NEIGHBOUR: 'it returns false'. Refute it at one input. -/
def tgaPacksWrong : ChangeSpec := { name := "tgaPacks", fn := fun _ => fun
  | [d1, d2, d3] => { results := [.lit (.bool false)], args := [d1, d2, d3] }
  | _ => none }
def TgaPacksWrongFalsely : Prop := tgaPacksRow.holds Try.pinned (OpenSpec.ofChange tgaPacksWrong)

/-- 'limewashlaw29.TgaPieces': WHATEVER THE INPUT: true; the input reads as it did. -/
def tgaPiecesSpec : ChangeSpec := { name := "tgaPieces", fn := fun _ => fun
  | [d1, d2, d3] => { results := [.lit (.bool true)], args := [d1, d2, d3] }
  | _ => none }
def tgaPiecesRow : OpenClaim := { program := "ytfkkppagbhllgaa", sum := "0bc19dc8ab8b0b68914ef967548d14848069d7cd57608f54c2b646297b77cbf8", func := "limewash/limewashlaw29.TgaPieces", spec := "tgaPieces", inPlace := ["internal/abi.NoEscape", "internal/bytealg.MakeNoZero"], unfollowed := true, recurses := true, apart := false }
def TgaPiecesSaid : Prop := tgaPiecesRow.holds Try.pinned (OpenSpec.ofChange tgaPiecesSpec)

/-- ITS FALSE NEIGHBOUR: 'it returns false'. Refute it at one input. -/
def tgaPiecesWrong : ChangeSpec := { name := "tgaPieces", fn := fun _ => fun
  | [d1, d2, d3] => { results := [.lit (.bool false)], args := [d1, d2, d3] }
  | _ => none }
def TgaPiecesWrongFalsely : Prop := tgaPiecesRow.holds Try.pinned (OpenSpec.ofChange tgaPiecesWrong)

/- THE SECOND FORM. 'bulk': how many values and letters a reading holds, each counted each time it is reached (what is shared counts as often as it is met; a slice's spare places count too). A statement '..UptoSaid' is the law's where the arguments, and the package variables that the reading takes, are together of bulk at most 1048576: NARROWER than '..Said'. Prove '..Said' where nothing that the law and all that it calls make is longer than what came in: it says more and counts as full. Else prove '..UptoSaid'. A law counts once. -/
mutual
def uptoBulk {H : Type} : DataW H → Nat
  | .lit (.string bytes) => bytes.length + 1
  | .lit _ => 1
  | .nil => 1
  | .ptr d => uptoBulk d + 1
  | .slice elems spare => uptoBulkAll elems + uptoBulkAll spare + 1
  | .agg parts => uptoBulkAll parts + 1
  | .iface _ d => uptoBulk d + 1
  | .map entries => uptoBulkEntries entries + 1
  | .held _ => 1
def uptoBulkAll {H : Type} : List (DataW H) → Nat
  | [] => 0
  | d :: r => uptoBulk d + uptoBulkAll r
def uptoBulkEntries {H : Type} : List (Lit × DataW H) → Nat
  | [] => 0
  | x :: r => uptoBulkEntry x + uptoBulkEntries r
def uptoBulkEntry {H : Type} : Lit × DataW H → Nat
  | (.string bytes, d) => bytes.length + uptoBulk d + 1
  | (_, d) => uptoBulk d + 1
 end
def uptoSmall : (H : Type) → List (DataW H) → Bool := fun _ ds => decide (uptoBulkAll ds ≤ 1048576)
def OpenSpec.upto (s : _root_.Go.ChangeSpec) : _root_.Go.OpenSpec := { _root_.Go.OpenSpec.ofChange s with cond := some uptoSmall }

/-- 'limewashlaw29.TgaDoes', WHERE WHAT IT READS IS OF BULK AT MOST 1048576: true; the input reads as it did. -/
def tgaDoesUptoRow : OpenClaim := { program := "ytfkkppagbhllgaa", sum := "0bc19dc8ab8b0b68914ef967548d14848069d7cd57608f54c2b646297b77cbf8", func := "limewash/limewashlaw29.TgaDoes", spec := "tgaDoes", inPlace := ["internal/abi.NoEscape", "internal/bytealg.MakeNoZero"], unfollowed := true, recurses := true, apart := false, narrowed := true }
def TgaDoesUptoSaid : Prop := tgaDoesUptoRow.holds Try.pinned (OpenSpec.upto tgaDoesSpec)

/-- 'limewashlaw29.TgaGets', WHERE WHAT IT READS IS OF BULK AT MOST 1048576: true; the input reads as it did. -/
def tgaGetsUptoRow : OpenClaim := { program := "ytfkkppagbhllgaa", sum := "0bc19dc8ab8b0b68914ef967548d14848069d7cd57608f54c2b646297b77cbf8", func := "limewash/limewashlaw29.TgaGets", spec := "tgaGets", inPlace := ["internal/abi.NoEscape", "internal/bytealg.MakeNoZero"], unfollowed := true, recurses := true, apart := false, narrowed := true }
def TgaGetsUptoSaid : Prop := tgaGetsUptoRow.holds Try.pinned (OpenSpec.upto tgaGetsSpec)

/-- 'limewashlaw29.TgaBack', WHERE WHAT IT READS IS OF BULK AT MOST 1048576: true; the input reads as it did. -/
def tgaBackUptoRow : OpenClaim := { program := "ytfkkppagbhllgaa", sum := "0bc19dc8ab8b0b68914ef967548d14848069d7cd57608f54c2b646297b77cbf8", func := "limewash/limewashlaw29.TgaBack", spec := "tgaBack", inPlace := ["internal/abi.NoEscape", "internal/bytealg.MakeNoZero"], unfollowed := true, recurses := true, apart := false, narrowed := true }
def TgaBackUptoSaid : Prop := tgaBackUptoRow.holds Try.pinned (OpenSpec.upto tgaBackSpec)

/-- 'limewashlaw29.TgaSame', WHERE WHAT IT READS IS OF BULK AT MOST 1048576: true; the input reads as it did. -/
def tgaSameUptoRow : OpenClaim := { program := "ytfkkppagbhllgaa", sum := "0bc19dc8ab8b0b68914ef967548d14848069d7cd57608f54c2b646297b77cbf8", func := "limewash/limewashlaw29.TgaSame", spec := "tgaSame", inPlace := ["internal/abi.NoEscape", "internal/bytealg.MakeNoZero"], unfollowed := true, recurses := true, apart := false, narrowed := true }
def TgaSameUptoSaid : Prop := tgaSameUptoRow.holds Try.pinned (OpenSpec.upto tgaSameSpec)

/-- 'limewashlaw29.TgaPacks', WHERE WHAT IT READS IS OF BULK AT MOST 1048576: true; the input reads as it did. -/
def tgaPacksUptoRow : OpenClaim := { program := "ytfkkppagbhllgaa", sum := "0bc19dc8ab8b0b68914ef967548d14848069d7cd57608f54c2b646297b77cbf8", func := "limewash/limewashlaw29.TgaPacks", spec := "tgaPacks", inPlace := ["internal/abi.NoEscape", "internal/bytealg.MakeNoZero"], unfollowed := true, recurses := true, apart := false, narrowed := true }
def TgaPacksUptoSaid : Prop := tgaPacksUptoRow.holds Try.pinned (OpenSpec.upto tgaPacksSpec)

/-- 'limewashlaw29.TgaPieces', WHERE WHAT IT READS IS OF BULK AT MOST 1048576: true; the input reads as it did. -/
def tgaPiecesUptoRow : OpenClaim := { program := "ytfkkppagbhllgaa", sum := "0bc19dc8ab8b0b68914ef967548d14848069d7cd57608f54c2b646297b77cbf8", func := "limewash/limewashlaw29.TgaPieces", spec := "tgaPieces", inPlace := ["internal/abi.NoEscape", "internal/bytealg.MakeNoZero"], unfollowed := true, recurses := true, apart := false, narrowed := true }
def TgaPiecesUptoSaid : Prop := tgaPiecesUptoRow.holds Try.pinned (OpenSpec.upto tgaPiecesSpec)

end Rows
end Go.Proofs.Ytfkkppagbhllgaa

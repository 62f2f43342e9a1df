/-
  No cell of these rows narrows 'for every input' (looked for: loops, veiled, ifaces, maps, wideKeys, modest, calm, conditions, laid).
  DERIVED. THE GIVEN ROWS OF THIS SEAT. 5 by the template 'for every input the law returns true; each argument reads behind the call as it read before'; 0 by the template 'total and deterministic' (their statements: YtdaciolahgfhiaaTotals.lean).
  GIVEN WITH THE SEED: the statements are not yours to turn. If you find one false, say at which input.
  Laid BY PROGRAM, IN A SANDBOX (cutbox-rows.mjs): the forced cells as the released guide's own fill.sh prints them over the translation 1f7a81fc7d500f59… (all of the seat's roots in one cut). By AI agents, Wed Nov 11 2026. No macro, syntax, notation, axiom, sorry.
-/
import Derived.Test.YtdaciolahgfhiaaChecked
import GoSem.Claim
import GoSem.ClaimJoined
import GoSem.ClaimMapViews
import Derived.JoinedTies
import Derived.KernelRfl
namespace Go.Proofs.Ytdaciolahgfhiaa
/- THE CELL 'sum', in the pinned program and in every row, IS THE sha256 OF THE DUMP (.gsa) THAT YtdaciolahgfhiaaProg.lean LOADS. Nothing in Lean hashes anything: it is a label: what it is worth is what the hold of that sum in a sandbox is worth. -/
noncomputable def Try.pinned : Pinned := { name := "ytdaciolahgfhiaa", sum := "1f7a81fc7d500f59f55425475cfc495ac71c47f39175344609aaa376bdf8201c", checked := Try.checked }
namespace Rows
def none {H : Type} : Left H := { results := [], args := [] }

/-- 'gangwaylaw19.NeighNews': WHATEVER THE INPUT: true; the input reads as it did. -/
def neighNewsSpec : ChangeSpec := { name := "neighNews", fn := fun _ => fun
  | [d] => { results := [.lit (.bool true)], args := [d] }
  | _ => none }
def neighNewsRow : OpenClaim := { program := "ytdaciolahgfhiaa", sum := "1f7a81fc7d500f59f55425475cfc495ac71c47f39175344609aaa376bdf8201c", func := "gangway/gangwaylaw19.NeighNews", spec := "neighNews", inPlace := ["internal/abi.NoEscape", "slices.overlaps[gangway/api.Entry]"], unfollowed := true, recurses := true, apart := false }
def NeighNewsSaid : Prop := neighNewsRow.holds Try.pinned (OpenSpec.ofChange neighNewsSpec)

/-- ITS FALSE NEIGHBOUR: 'it returns false'. Refute it at one input. -/
def neighNewsWrong : ChangeSpec := { name := "neighNews", fn := fun _ => fun
  | [d] => { results := [.lit (.bool false)], args := [d] }
  | _ => none }
def NeighNewsWrongFalsely : Prop := neighNewsRow.holds Try.pinned (OpenSpec.ofChange neighNewsWrong)

/-- 'gangwaylaw19.NeighOnce': WHATEVER THE INPUT: true; the input reads as it did. -/
def neighOnceSpec : ChangeSpec := { name := "neighOnce", fn := fun _ => fun
  | [d1, d2] => { results := [.lit (.bool true)], args := [d1, d2] }
  | _ => none }
def neighOnceRow : OpenClaim := { program := "ytdaciolahgfhiaa", sum := "1f7a81fc7d500f59f55425475cfc495ac71c47f39175344609aaa376bdf8201c", func := "gangway/gangwaylaw19.NeighOnce", spec := "neighOnce", inPlace := ["internal/abi.NoEscape", "slices.overlaps[gangway/api.Entry]"], unfollowed := true, recurses := true, apart := false }
def NeighOnceSaid : Prop := neighOnceRow.holds Try.pinned (OpenSpec.ofChange neighOnceSpec)

/-- ITS FALSE NEIGHBOUR: 'it returns false'. Refute it at one input. -/
def neighOnceWrong : ChangeSpec := { name := "neighOnce", fn := fun _ => fun
  | [d1, d2] => { results := [.lit (.bool false)], args := [d1, d2] }
  | _ => none }
def NeighOnceWrongFalsely : Prop := neighOnceRow.holds Try.pinned (OpenSpec.ofChange neighOnceWrong)

/-- 'gangwaylaw19.NeighGives': WHATEVER THE INPUT: true; the input reads as it did. -/
def neighGivesSpec : ChangeSpec := { name := "neighGives", fn := fun _ => fun
  | [d1, d2] => { results := [.lit (.bool true)], args := [d1, d2] }
  | _ => none }
def neighGivesRow : OpenClaim := { program := "ytdaciolahgfhiaa", sum := "1f7a81fc7d500f59f55425475cfc495ac71c47f39175344609aaa376bdf8201c", func := "gangway/gangwaylaw19.NeighGives", spec := "neighGives", inPlace := ["internal/abi.NoEscape", "slices.overlaps[gangway/api.Entry]"], unfollowed := true, recurses := true, apart := false }
def NeighGivesSaid : Prop := neighGivesRow.holds Try.pinned (OpenSpec.ofChange neighGivesSpec)

/-- ITS FALSE NEIGHBOUR: 'it returns false'. Refute it at one input. -/
def neighGivesWrong : ChangeSpec := { name := "neighGives", fn := fun _ => fun
  | [d1, d2] => { results := [.lit (.bool false)], args := [d1, d2] }
  | _ => none }
def NeighGivesWrongFalsely : Prop := neighGivesRow.holds Try.pinned (OpenSpec.ofChange neighGivesWrong)

/-- 'gangwaylaw19.NeighHears': WHATEVER THE INPUT: true; the input reads as it did. -/
def neighHearsSpec : ChangeSpec := { name := "neighHears", fn := fun _ => fun
  | [d1, d2] => { results := [.lit (.bool true)], args := [d1, d2] }
  | _ => none }
def neighHearsRow : OpenClaim := { program := "ytdaciolahgfhiaa", sum := "1f7a81fc7d500f59f55425475cfc495ac71c47f39175344609aaa376bdf8201c", func := "gangway/gangwaylaw19.NeighHears", spec := "neighHears", inPlace := ["slices.overlaps[gangway/api.Entry]", "internal/abi.NoEscape"], unfollowed := true, recurses := true, apart := false }
def NeighHearsSaid : Prop := neighHearsRow.holds Try.pinned (OpenSpec.ofChange neighHearsSpec)

/-- ITS FALSE NEIGHBOUR: 'it returns false'. Refute it at one input. -/
def neighHearsWrong : ChangeSpec := { name := "neighHears", fn := fun _ => fun
  | [d1, d2] => { results := [.lit (.bool false)], args := [d1, d2] }
  | _ => none }
def NeighHearsWrongFalsely : Prop := neighHearsRow.holds Try.pinned (OpenSpec.ofChange neighHearsWrong)

/-- 'gangwaylaw19.NeighDoes': WHATEVER THE INPUT: true; the input reads as it did. -/
def neighDoesSpec : ChangeSpec := { name := "neighDoes", fn := fun _ => fun
  | [d1, d2] => { results := [.lit (.bool true)], args := [d1, d2] }
  | _ => none }
def neighDoesRow : OpenClaim := { program := "ytdaciolahgfhiaa", sum := "1f7a81fc7d500f59f55425475cfc495ac71c47f39175344609aaa376bdf8201c", func := "gangway/gangwaylaw19.NeighDoes", spec := "neighDoes", inPlace := ["internal/abi.NoEscape", "slices.overlaps[gangway/api.Entry]"], unfollowed := true, recurses := true, apart := false }
def NeighDoesSaid : Prop := neighDoesRow.holds Try.pinned (OpenSpec.ofChange neighDoesSpec)

/-- ITS FALSE NEIGHBOUR: 'it returns false'. Refute it at one input. -/
def neighDoesWrong : ChangeSpec := { name := "neighDoes", fn := fun _ => fun
  | [d1, d2] => { results := [.lit (.bool false)], args := [d1, d2] }
  | _ => none }
def NeighDoesWrongFalsely : Prop := neighDoesRow.holds Try.pinned (OpenSpec.ofChange neighDoesWrong)

/- THE SECOND FORM. 'bulk': how many values and letters a reading holds, each counted each time it is reached (what is shared counts as often as it is met; a slice's spare places count too). A statement '..UptoSaid' is the law's where the arguments, and the package variables that the reading takes, are together of bulk at most 1048576: NARROWER than '..Said'. Prove '..Said' where nothing that the law and all that it calls make is longer than what came in: it says more and counts as full. Else prove '..UptoSaid'. A law counts once. -/
mutual
def uptoBulk {H : Type} : DataW H → Nat
  | .lit (.string bytes) => bytes.length + 1
  | .lit _ => 1
  | .nil => 1
  | .ptr d => uptoBulk d + 1
  | .slice elems spare => uptoBulkAll elems + uptoBulkAll spare + 1
  | .agg parts => uptoBulkAll parts + 1
  | .iface _ d => uptoBulk d + 1
  | .map entries => uptoBulkEntries entries + 1
  | .held _ => 1
def uptoBulkAll {H : Type} : List (DataW H) → Nat
  | [] => 0
  | d :: r => uptoBulk d + uptoBulkAll r
def uptoBulkEntries {H : Type} : List (Lit × DataW H) → Nat
  | [] => 0
  | x :: r => uptoBulkEntry x + uptoBulkEntries r
def uptoBulkEntry {H : Type} : Lit × DataW H → Nat
  | (.string bytes, d) => bytes.length + uptoBulk d + 1
  | (_, d) => uptoBulk d + 1
 end
def uptoSmall : (H : Type) → List (DataW H) → Bool := fun _ ds => decide (uptoBulkAll ds ≤ 1048576)
def OpenSpec.upto (s : _root_.Go.ChangeSpec) : _root_.Go.OpenSpec := { _root_.Go.OpenSpec.ofChange s with cond := some uptoSmall }

/-- 'gangwaylaw19.NeighNews', WHERE WHAT IT READS IS OF BULK AT MOST 1048576: true; the input reads as it did. -/
def neighNewsUptoRow : OpenClaim := { program := "ytdaciolahgfhiaa", sum := "1f7a81fc7d500f59f55425475cfc495ac71c47f39175344609aaa376bdf8201c", func := "gangway/gangwaylaw19.NeighNews", spec := "neighNews", inPlace := ["internal/abi.NoEscape", "slices.overlaps[gangway/api.Entry]"], unfollowed := true, recurses := true, apart := false, narrowed := true }
def NeighNewsUptoSaid : Prop := neighNewsUptoRow.holds Try.pinned (OpenSpec.upto neighNewsSpec)

/-- 'gangwaylaw19.NeighOnce', WHERE WHAT IT READS IS OF BULK AT MOST 1048576: true; the input reads as it did. -/
def neighOnceUptoRow : OpenClaim := { program := "ytdaciolahgfhiaa", sum := "1f7a81fc7d500f59f55425475cfc495ac71c47f39175344609aaa376bdf8201c", func := "gangway/gangwaylaw19.NeighOnce", spec := "neighOnce", inPlace := ["internal/abi.NoEscape", "slices.overlaps[gangway/api.Entry]"], unfollowed := true, recurses := true, apart := false, narrowed := true }
def NeighOnceUptoSaid : Prop := neighOnceUptoRow.holds Try.pinned (OpenSpec.upto neighOnceSpec)

/-- 'gangwaylaw19.NeighGives', WHERE WHAT IT READS IS OF BULK AT MOST 1048576: true; the input reads as it did. -/
def neighGivesUptoRow : OpenClaim := { program := "ytdaciolahgfhiaa", sum := "1f7a81fc7d500f59f55425475cfc495ac71c47f39175344609aaa376bdf8201c", func := "gangway/gangwaylaw19.NeighGives", spec := "neighGives", inPlace := ["internal/abi.NoEscape", "slices.overlaps[gangway/api.Entry]"], unfollowed := true, recurses := true, apart := false, narrowed := true }
def NeighGivesUptoSaid : Prop := neighGivesUptoRow.holds Try.pinned (OpenSpec.upto neighGivesSpec)

/-- 'gangwaylaw19.NeighHears', WHERE WHAT IT READS IS OF BULK AT MOST 1048576: true; the input reads as it did. -/
def neighHearsUptoRow : OpenClaim := { program := "ytdaciolahgfhiaa", sum := "1f7a81fc7d500f59f55425475cfc495ac71c47f39175344609aaa376bdf8201c", func := "gangway/gangwaylaw19.NeighHears", spec := "neighHears", inPlace := ["slices.overlaps[gangway/api.Entry]", "internal/abi.NoEscape"], unfollowed := true, recurses := true, apart := false, narrowed := true }
def NeighHearsUptoSaid : Prop := neighHearsUptoRow.holds Try.pinned (OpenSpec.upto neighHearsSpec)

/-- 'gangwaylaw19.NeighDoes', WHERE WHAT IT READS IS OF BULK AT MOST 1048576: true; the input reads as it did. -/
def neighDoesUptoRow : OpenClaim := { program := "ytdaciolahgfhiaa", sum := "1f7a81fc7d500f59f55425475cfc495ac71c47f39175344609aaa376bdf8201c", func := "gangway/gangwaylaw19.NeighDoes", spec := "neighDoes", inPlace := ["internal/abi.NoEscape", "slices.overlaps[gangway/api.Entry]"], unfollowed := true, recurses := true, apart := false, narrowed := true }
def NeighDoesUptoSaid : Prop := neighDoesUptoRow.holds Try.pinned (OpenSpec.upto neighDoesSpec)

end Rows
end Go.Proofs.Ytdaciolahgfhiaa

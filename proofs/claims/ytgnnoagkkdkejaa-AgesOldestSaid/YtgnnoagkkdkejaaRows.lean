/-
  No cell of these rows narrows 'for every input' (looked for: loops, veiled, ifaces, maps, wideKeys, modest, calm, conditions, laid).
  DERIVED. THE GIVEN ROWS OF THIS SEAT. 10 by the template 'for every input the law returns true; each argument reads behind the call as it read before'; 0 by the template 'total and deterministic' (their statements: YtgnnoagkkdkejaaTotals.lean).
  GIVEN WITH THE SEED: the statements are not yours to turn. If you find one false, say at which input.
  Laid BY PROGRAM, IN A SANDBOX (cutbox-rows.mjs): the forced cells as the released guide's own fill.sh prints them over the translation 348d340814de8a8e… (all of the seat's roots in one cut). By AI agents, Wed Nov 11 2026. No macro, syntax, notation, axiom, sorry.
-/
import Derived.Test.YtgnnoagkkdkejaaChecked
import GoSem.Claim
import GoSem.ClaimJoined
import GoSem.ClaimMapViews
import Derived.JoinedTies
import Derived.KernelRfl
namespace Go.Proofs.Ytgnnoagkkdkejaa
/- THE CELL 'sum', in the pinned program and in every row, IS THE sha256 OF THE DUMP (.gsa) THAT YtgnnoagkkdkejaaProg.lean LOADS. Nothing in Lean hashes anything: it is a label: what it is worth is what the hold of that sum in a sandbox is worth. -/
noncomputable def Try.pinned : Pinned := { name := "ytgnnoagkkdkejaa", sum := "348d340814de8a8ef6ec354efdae49d0300681b5effe7bfb54e2de5d186e54bf", checked := Try.checked }
namespace Rows
def none {H : Type} : Left H := { results := [], args := [] }

/-- 'gangwaylaw10.AgesNews': WHATEVER THE INPUT: true; the input reads as it did. -/
def agesNewsSpec : ChangeSpec := { name := "agesNews", fn := fun _ => fun
  | [d] => { results := [.lit (.bool true)], args := [d] }
  | _ => none }
def agesNewsRow : OpenClaim := { program := "ytgnnoagkkdkejaa", sum := "348d340814de8a8ef6ec354efdae49d0300681b5effe7bfb54e2de5d186e54bf", func := "gangway/gangwaylaw10.AgesNews", spec := "agesNews", inPlace := ["slices.overlaps[gangway/api.Entry]"], unfollowed := true, recurses := true, apart := false }
def AgesNewsSaid : Prop := agesNewsRow.holds Try.pinned (OpenSpec.ofChange agesNewsSpec)

/-- ITS FALSE NEIGHBOUR: 'it returns false'. Refute it at one input. -/
def agesNewsWrong : ChangeSpec := { name := "agesNews", fn := fun _ => fun
  | [d] => { results := [.lit (.bool false)], args := [d] }
  | _ => none }
def AgesNewsWrongFalsely : Prop := agesNewsRow.holds Try.pinned (OpenSpec.ofChange agesNewsWrong)

/-- 'gangwaylaw10.AgesLives': WHATEVER THE INPUT: true; the input reads as it did. -/
def agesLivesSpec : ChangeSpec := { name := "agesLives", fn := fun _ => fun
  | [d1, d2, d3] => { results := [.lit (.bool true)], args := [d1, d2, d3] }
  | _ => none }
def agesLivesRow : OpenClaim := { program := "ytgnnoagkkdkejaa", sum := "348d340814de8a8ef6ec354efdae49d0300681b5effe7bfb54e2de5d186e54bf", func := "gangway/gangwaylaw10.AgesLives", spec := "agesLives", inPlace := ["slices.overlaps[gangway/api.Entry]"], unfollowed := true, recurses := true, apart := false }
def AgesLivesSaid : Prop := agesLivesRow.holds Try.pinned (OpenSpec.ofChange agesLivesSpec)

/-- ITS FALSE NEIGHBOUR: 'it returns false'. Refute it at one input. -/
def agesLivesWrong : ChangeSpec := { name := "agesLives", fn := fun _ => fun
  | [d1, d2, d3] => { results := [.lit (.bool false)], args := [d1, d2, d3] }
  | _ => none }
def AgesLivesWrongFalsely : Prop := agesLivesRow.holds Try.pinned (OpenSpec.ofChange agesLivesWrong)

/-- 'gangwaylaw10.AgesOldest': WHATEVER THE INPUT: true; the input reads as it did. -/
def agesOldestSpec : ChangeSpec := { name := "agesOldest", fn := fun _ => fun
  | [d1, d2] => { results := [.lit (.bool true)], args := [d1, d2] }
  | _ => none }
def agesOldestRow : OpenClaim := { program := "ytgnnoagkkdkejaa", sum := "348d340814de8a8ef6ec354efdae49d0300681b5effe7bfb54e2de5d186e54bf", func := "gangway/gangwaylaw10.AgesOldest", spec := "agesOldest", inPlace := ["slices.overlaps[gangway/api.Entry]"], unfollowed := true, recurses := true, apart := false }
def AgesOldestSaid : Prop := agesOldestRow.holds Try.pinned (OpenSpec.ofChange agesOldestSpec)

/-- ITS FALSE NEIGHBOUR: 'it returns false'. Refute it at one input. -/
def agesOldestWrong : ChangeSpec := { name := "agesOldest", fn := fun _ => fun
  | [d1, d2] => { results := [.lit (.bool false)], args := [d1, d2] }
  | _ => none }
def AgesOldestWrongFalsely : Prop := agesOldestRow.holds Try.pinned (OpenSpec.ofChange agesOldestWrong)

/-- 'gangwaylaw10.AgesBounds': WHATEVER THE INPUT: true; the input reads as it did. -/
def agesBoundsSpec : ChangeSpec := { name := "agesBounds", fn := fun _ => fun
  | [d1, d2] => { results := [.lit (.bool true)], args := [d1, d2] }
  | _ => none }
def agesBoundsRow : OpenClaim := { program := "ytgnnoagkkdkejaa", sum := "348d340814de8a8ef6ec354efdae49d0300681b5effe7bfb54e2de5d186e54bf", func := "gangway/gangwaylaw10.AgesBounds", spec := "agesBounds", inPlace := ["slices.overlaps[gangway/api.Entry]"], unfollowed := true, recurses := true, apart := false }
def AgesBoundsSaid : Prop := agesBoundsRow.holds Try.pinned (OpenSpec.ofChange agesBoundsSpec)

/-- ITS FALSE NEIGHBOUR: 'it returns false'. Refute it at one input. -/
def agesBoundsWrong : ChangeSpec := { name := "agesBounds", fn := fun _ => fun
  | [d1, d2] => { results := [.lit (.bool false)], args := [d1, d2] }
  | _ => none }
def AgesBoundsWrongFalsely : Prop := agesBoundsRow.holds Try.pinned (OpenSpec.ofChange agesBoundsWrong)

/-- 'gangwaylaw10.AgesClears': WHATEVER THE INPUT: true; the input reads as it did. -/
def agesClearsSpec : ChangeSpec := { name := "agesClears", fn := fun _ => fun
  | [d1, d2, d3] => { results := [.lit (.bool true)], args := [d1, d2, d3] }
  | _ => none }
def agesClearsRow : OpenClaim := { program := "ytgnnoagkkdkejaa", sum := "348d340814de8a8ef6ec354efdae49d0300681b5effe7bfb54e2de5d186e54bf", func := "gangway/gangwaylaw10.AgesClears", spec := "agesClears", inPlace := ["slices.overlaps[gangway/api.Entry]"], unfollowed := true, recurses := true, apart := false }
def AgesClearsSaid : Prop := agesClearsRow.holds Try.pinned (OpenSpec.ofChange agesClearsSpec)

/-- ITS FALSE NEIGHBOUR: 'it returns false'. Refute it at one input. -/
def agesClearsWrong : ChangeSpec := { name := "agesClears", fn := fun _ => fun
  | [d1, d2, d3] => { results := [.lit (.bool false)], args := [d1, d2, d3] }
  | _ => none }
def AgesClearsWrongFalsely : Prop := agesClearsRow.holds Try.pinned (OpenSpec.ofChange agesClearsWrong)

/-- 'gangwaylaw10.AgesDoes': WHATEVER THE INPUT: true; the input reads as it did. -/
def agesDoesSpec : ChangeSpec := { name := "agesDoes", fn := fun _ => fun
  | [d1, d2] => { results := [.lit (.bool true)], args := [d1, d2] }
  | _ => none }
def agesDoesRow : OpenClaim := { program := "ytgnnoagkkdkejaa", sum := "348d340814de8a8ef6ec354efdae49d0300681b5effe7bfb54e2de5d186e54bf", func := "gangway/gangwaylaw10.AgesDoes", spec := "agesDoes", inPlace := ["slices.overlaps[gangway/api.Entry]"], unfollowed := true, recurses := true, apart := false }
def AgesDoesSaid : Prop := agesDoesRow.holds Try.pinned (OpenSpec.ofChange agesDoesSpec)

/-- ITS FALSE NEIGHBOUR: 'it returns false'. Refute it at one input. -/
def agesDoesWrong : ChangeSpec := { name := "agesDoes", fn := fun _ => fun
  | [d1, d2] => { results := [.lit (.bool false)], args := [d1, d2] }
  | _ => none }
def AgesDoesWrongFalsely : Prop := agesDoesRow.holds Try.pinned (OpenSpec.ofChange agesDoesWrong)

/-- 'gangwaylaw11.FdbNews': WHATEVER THE INPUT: true; the input reads as it did. -/
def fdbNewsSpec : ChangeSpec := { name := "fdbNews", fn := fun _ => fun
  | [d] => { results := [.lit (.bool true)], args := [d] }
  | _ => none }
def fdbNewsRow : OpenClaim := { program := "ytgnnoagkkdkejaa", sum := "348d340814de8a8ef6ec354efdae49d0300681b5effe7bfb54e2de5d186e54bf", func := "gangway/gangwaylaw11.FdbNews", spec := "fdbNews", inPlace := ["slices.overlaps[gangway/api.Entry]"], unfollowed := true, recurses := true, apart := false }
def FdbNewsSaid : Prop := fdbNewsRow.holds Try.pinned (OpenSpec.ofChange fdbNewsSpec)

/-- ITS FALSE NEIGHBOUR: 'it returns false'. Refute it at one input. -/
def fdbNewsWrong : ChangeSpec := { name := "fdbNews", fn := fun _ => fun
  | [d] => { results := [.lit (.bool false)], args := [d] }
  | _ => none }
def FdbNewsWrongFalsely : Prop := fdbNewsRow.holds Try.pinned (OpenSpec.ofChange fdbNewsWrong)

/-- 'gangwaylaw11.FdbMoves': WHATEVER THE INPUT: true; the input reads as it did. -/
def fdbMovesSpec : ChangeSpec := { name := "fdbMoves", fn := fun _ => fun
  | [d1, d2] => { results := [.lit (.bool true)], args := [d1, d2] }
  | _ => none }
def fdbMovesRow : OpenClaim := { program := "ytgnnoagkkdkejaa", sum := "348d340814de8a8ef6ec354efdae49d0300681b5effe7bfb54e2de5d186e54bf", func := "gangway/gangwaylaw11.FdbMoves", spec := "fdbMoves", inPlace := ["slices.overlaps[gangway/api.Entry]"], unfollowed := true, recurses := true, apart := false }
def FdbMovesSaid : Prop := fdbMovesRow.holds Try.pinned (OpenSpec.ofChange fdbMovesSpec)

/-- ITS FALSE NEIGHBOUR: 'it returns false'. Refute it at one input. -/
def fdbMovesWrong : ChangeSpec := { name := "fdbMoves", fn := fun _ => fun
  | [d1, d2] => { results := [.lit (.bool false)], args := [d1, d2] }
  | _ => none }
def FdbMovesWrongFalsely : Prop := fdbMovesRow.holds Try.pinned (OpenSpec.ofChange fdbMovesWrong)

/-- 'gangwaylaw11.FdbApart': WHATEVER THE INPUT: true; the input reads as it did. -/
def fdbApartSpec : ChangeSpec := { name := "fdbApart", fn := fun _ => fun
  | [d1, d2] => { results := [.lit (.bool true)], args := [d1, d2] }
  | _ => none }
def fdbApartRow : OpenClaim := { program := "ytgnnoagkkdkejaa", sum := "348d340814de8a8ef6ec354efdae49d0300681b5effe7bfb54e2de5d186e54bf", func := "gangway/gangwaylaw11.FdbApart", spec := "fdbApart", inPlace := ["slices.overlaps[gangway/api.Entry]"], unfollowed := true, recurses := true, apart := false }
def FdbApartSaid : Prop := fdbApartRow.holds Try.pinned (OpenSpec.ofChange fdbApartSpec)

/-- ITS FALSE NEIGHBOUR: 'it returns false'. Refute it at one input. -/
def fdbApartWrong : ChangeSpec := { name := "fdbApart", fn := fun _ => fun
  | [d1, d2] => { results := [.lit (.bool false)], args := [d1, d2] }
  | _ => none }
def FdbApartWrongFalsely : Prop := fdbApartRow.holds Try.pinned (OpenSpec.ofChange fdbApartWrong)

/-- 'gangwaylaw11.FdbFixed': WHATEVER THE INPUT: true; the input reads as it did. -/
def fdbFixedSpec : ChangeSpec := { name := "fdbFixed", fn := fun _ => fun
  | [d1, d2] => { results := [.lit (.bool true)], args := [d1, d2] }
  | _ => none }
def fdbFixedRow : OpenClaim := { program := "ytgnnoagkkdkejaa", sum := "348d340814de8a8ef6ec354efdae49d0300681b5effe7bfb54e2de5d186e54bf", func := "gangway/gangwaylaw11.FdbFixed", spec := "fdbFixed", inPlace := ["slices.overlaps[gangway/api.Entry]"], unfollowed := true, recurses := true, apart := false }
def FdbFixedSaid : Prop := fdbFixedRow.holds Try.pinned (OpenSpec.ofChange fdbFixedSpec)

/-- ITS FALSE NEIGHBOUR: 'it returns false'. Refute it at one input. -/
def fdbFixedWrong : ChangeSpec := { name := "fdbFixed", fn := fun _ => fun
  | [d1, d2] => { results := [.lit (.bool false)], args := [d1, d2] }
  | _ => none }
def FdbFixedWrongFalsely : Prop := fdbFixedRow.holds Try.pinned (OpenSpec.ofChange fdbFixedWrong)

/- THE SECOND FORM. 'bulk': how many values and letters a reading holds, each counted each time it is reached (what is shared counts as often as it is met; a slice's spare places count too). A statement '..UptoSaid' is the law's where the arguments, and the package variables that the reading takes, are together of bulk at most 1048576: NARROWER than '..Said'. Prove '..Said' where nothing that the law and all that it calls make is longer than what came in: it says more and counts as full. Else prove '..UptoSaid'. A law counts once. -/
mutual
def uptoBulk {H : Type} : DataW H → Nat
  | .lit (.string bytes) => bytes.length + 1
  | .lit _ => 1
  | .nil => 1
  | .ptr d => uptoBulk d + 1
  | .slice elems spare => uptoBulkAll elems + uptoBulkAll spare + 1
  | .agg parts => uptoBulkAll parts + 1
  | .iface _ d => uptoBulk d + 1
  | .map entries => uptoBulkEntries entries + 1
  | .held _ => 1
def uptoBulkAll {H : Type} : List (DataW H) → Nat
  | [] => 0
  | d :: r => uptoBulk d + uptoBulkAll r
def uptoBulkEntries {H : Type} : List (Lit × DataW H) → Nat
  | [] => 0
  | x :: r => uptoBulkEntry x + uptoBulkEntries r
def uptoBulkEntry {H : Type} : Lit × DataW H → Nat
  | (.string bytes, d) => bytes.length + uptoBulk d + 1
  | (_, d) => uptoBulk d + 1
 end
def uptoSmall : (H : Type) → List (DataW H) → Bool := fun _ ds => decide (uptoBulkAll ds ≤ 1048576)
def OpenSpec.upto (s : _root_.Go.ChangeSpec) : _root_.Go.OpenSpec := { _root_.Go.OpenSpec.ofChange s with cond := some uptoSmall }

/-- 'gangwaylaw10.AgesNews', WHERE WHAT IT READS IS OF BULK AT MOST 1048576: true; the input reads as it did. -/
def agesNewsUptoRow : OpenClaim := { program := "ytgnnoagkkdkejaa", sum := "348d340814de8a8ef6ec354efdae49d0300681b5effe7bfb54e2de5d186e54bf", func := "gangway/gangwaylaw10.AgesNews", spec := "agesNews", inPlace := ["slices.overlaps[gangway/api.Entry]"], unfollowed := true, recurses := true, apart := false, narrowed := true }
def AgesNewsUptoSaid : Prop := agesNewsUptoRow.holds Try.pinned (OpenSpec.upto agesNewsSpec)

/-- 'gangwaylaw10.AgesLives', WHERE WHAT IT READS IS OF BULK AT MOST 1048576: true; the input reads as it did. -/
def agesLivesUptoRow : OpenClaim := { program := "ytgnnoagkkdkejaa", sum := "348d340814de8a8ef6ec354efdae49d0300681b5effe7bfb54e2de5d186e54bf", func := "gangway/gangwaylaw10.AgesLives", spec := "agesLives", inPlace := ["slices.overlaps[gangway/api.Entry]"], unfollowed := true, recurses := true, apart := false, narrowed := true }
def AgesLivesUptoSaid : Prop := agesLivesUptoRow.holds Try.pinned (OpenSpec.upto agesLivesSpec)

/-- 'gangwaylaw10.AgesOldest', WHERE WHAT IT READS IS OF BULK AT MOST 1048576: true; the input reads as it did. -/
def agesOldestUptoRow : OpenClaim := { program := "ytgnnoagkkdkejaa", sum := "348d340814de8a8ef6ec354efdae49d0300681b5effe7bfb54e2de5d186e54bf", func := "gangway/gangwaylaw10.AgesOldest", spec := "agesOldest", inPlace := ["slices.overlaps[gangway/api.Entry]"], unfollowed := true, recurses := true, apart := false, narrowed := true }
def AgesOldestUptoSaid : Prop := agesOldestUptoRow.holds Try.pinned (OpenSpec.upto agesOldestSpec)

/-- 'gangwaylaw10.AgesBounds', WHERE WHAT IT READS IS OF BULK AT MOST 1048576: true; the input reads as it did. -/
def agesBoundsUptoRow : OpenClaim := { program := "ytgnnoagkkdkejaa", sum := "348d340814de8a8ef6ec354efdae49d0300681b5effe7bfb54e2de5d186e54bf", func := "gangway/gangwaylaw10.AgesBounds", spec := "agesBounds", inPlace := ["slices.overlaps[gangway/api.Entry]"], unfollowed := true, recurses := true, apart := false, narrowed := true }
def AgesBoundsUptoSaid : Prop := agesBoundsUptoRow.holds Try.pinned (OpenSpec.upto agesBoundsSpec)

/-- 'gangwaylaw10.AgesClears', WHERE WHAT IT READS IS OF BULK AT MOST 1048576: true; the input reads as it did. -/
def agesClearsUptoRow : OpenClaim := { program := "ytgnnoagkkdkejaa", sum := "348d340814de8a8ef6ec354efdae49d0300681b5effe7bfb54e2de5d186e54bf", func := "gangway/gangwaylaw10.AgesClears", spec := "agesClears", inPlace := ["slices.overlaps[gangway/api.Entry]"], unfollowed := true, recurses := true, apart := false, narrowed := true }
def AgesClearsUptoSaid : Prop := agesClearsUptoRow.holds Try.pinned (OpenSpec.upto agesClearsSpec)

/-- 'gangwaylaw10.AgesDoes', WHERE WHAT IT READS IS OF BULK AT MOST 1048576: true; the input reads as it did. -/
def agesDoesUptoRow : OpenClaim := { program := "ytgnnoagkkdkejaa", sum := "348d340814de8a8ef6ec354efdae49d0300681b5effe7bfb54e2de5d186e54bf", func := "gangway/gangwaylaw10.AgesDoes", spec := "agesDoes", inPlace := ["slices.overlaps[gangway/api.Entry]"], unfollowed := true, recurses := true, apart := false, narrowed := true }
def AgesDoesUptoSaid : Prop := agesDoesUptoRow.holds Try.pinned (OpenSpec.upto agesDoesSpec)

/-- 'gangwaylaw11.FdbNews', WHERE WHAT IT READS IS OF BULK AT MOST 1048576: true; the input reads as it did. -/
def fdbNewsUptoRow : OpenClaim := { program := "ytgnnoagkkdkejaa", sum := "348d340814de8a8ef6ec354efdae49d0300681b5effe7bfb54e2de5d186e54bf", func := "gangway/gangwaylaw11.FdbNews", spec := "fdbNews", inPlace := ["slices.overlaps[gangway/api.Entry]"], unfollowed := true, recurses := true, apart := false, narrowed := true }
def FdbNewsUptoSaid : Prop := fdbNewsUptoRow.holds Try.pinned (OpenSpec.upto fdbNewsSpec)

/-- 'gangwaylaw11.FdbMoves', WHERE WHAT IT READS IS OF BULK AT MOST 1048576: true; the input reads as it did. -/
def fdbMovesUptoRow : OpenClaim := { program := "ytgnnoagkkdkejaa", sum := "348d340814de8a8ef6ec354efdae49d0300681b5effe7bfb54e2de5d186e54bf", func := "gangway/gangwaylaw11.FdbMoves", spec := "fdbMoves", inPlace := ["slices.overlaps[gangway/api.Entry]"], unfollowed := true, recurses := true, apart := false, narrowed := true }
def FdbMovesUptoSaid : Prop := fdbMovesUptoRow.holds Try.pinned (OpenSpec.upto fdbMovesSpec)

/-- 'gangwaylaw11.FdbApart', WHERE WHAT IT READS IS OF BULK AT MOST 1048576: true; the input reads as it did. -/
def fdbApartUptoRow : OpenClaim := { program := "ytgnnoagkkdkejaa", sum := "348d340814de8a8ef6ec354efdae49d0300681b5effe7bfb54e2de5d186e54bf", func := "gangway/gangwaylaw11.FdbApart", spec := "fdbApart", inPlace := ["slices.overlaps[gangway/api.Entry]"], unfollowed := true, recurses := true, apart := false, narrowed := true }
def FdbApartUptoSaid : Prop := fdbApartUptoRow.holds Try.pinned (OpenSpec.upto fdbApartSpec)

/-- 'gangwaylaw11.FdbFixed', WHERE WHAT IT READS IS OF BULK AT MOST 1048576: true; the input reads as it did. -/
def fdbFixedUptoRow : OpenClaim := { program := "ytgnnoagkkdkejaa", sum := "348d340814de8a8ef6ec354efdae49d0300681b5effe7bfb54e2de5d186e54bf", func := "gangway/gangwaylaw11.FdbFixed", spec := "fdbFixed", inPlace := ["slices.overlaps[gangway/api.Entry]"], unfollowed := true, recurses := true, apart := false, narrowed := true }
def FdbFixedUptoSaid : Prop := fdbFixedUptoRow.holds Try.pinned (OpenSpec.upto fdbFixedSpec)

end Rows
end Go.Proofs.Ytgnnoagkkdkejaa

/-
  No cell of these rows narrows 'for every input' (looked for: loops, veiled, ifaces, maps, wideKeys, modest, calm, conditions, laid).
  DERIVED. THE GIVEN ROWS OF THIS SEAT. 4 by the template 'for every input the law returns true; each argument reads behind the call as it read before'; 0 by the template 'total and deterministic' (their statements: YtbhddlllpgfgiaaTotals.lean).
  GIVEN WITH THE SEED: the statements are not yours to turn. If you find one false, say at which input.
  Laid BY PROGRAM, IN A SANDBOX (cutbox-rows.mjs): the forced cells as the released guide's own fill.sh prints them over the translation c1856e3f3d6cbbc6… (all of the seat's roots in one cut). By AI agents, Wed Nov 11 2026. No macro, syntax, notation, axiom, sorry.
-/
import Derived.Test.YtbhddlllpgfgiaaChecked
import GoSem.Claim
import GoSem.ClaimJoined
import GoSem.ClaimMapViews
import Derived.JoinedTies
import Derived.KernelRfl
namespace Go.Proofs.Ytbhddlllpgfgiaa
/- THE CELL 'sum', in the pinned program and in every row, IS THE sha256 OF THE DUMP (.gsa) THAT YtbhddlllpgfgiaaProg.lean LOADS. Nothing in Lean hashes anything: it is a label: what it is worth is what the hold of that sum in a sandbox is worth. -/
noncomputable def Try.pinned : Pinned := { name := "ytbhddlllpgfgiaa", sum := "c1856e3f3d6cbbc698742121e19c4f0256703a6c7549525903e23059fb6d65dd", checked := Try.checked }
namespace Rows
def none {H : Type} : Left H := { results := [], args := [] }

/-- 'gangwaylaw11.FdbNews': WHATEVER THE INPUT: true; the input reads as it did. -/
def fdbNewsSpec : ChangeSpec := { name := "fdbNews", fn := fun _ => fun
  | [d] => { results := [.lit (.bool true)], args := [d] }
  | _ => none }
def fdbNewsRow : OpenClaim := { program := "ytbhddlllpgfgiaa", sum := "c1856e3f3d6cbbc698742121e19c4f0256703a6c7549525903e23059fb6d65dd", func := "gangway/gangwaylaw11.FdbNews", spec := "fdbNews", inPlace := ["slices.overlaps[gangway/api.Entry]"], unfollowed := true, recurses := true, apart := false }
def FdbNewsSaid : Prop := fdbNewsRow.holds Try.pinned (OpenSpec.ofChange fdbNewsSpec)

/-- ITS FALSE NEIGHBOUR: 'it returns false'. Refute it at one input. -/
def fdbNewsWrong : ChangeSpec := { name := "fdbNews", fn := fun _ => fun
  | [d] => { results := [.lit (.bool false)], args := [d] }
  | _ => none }
def FdbNewsWrongFalsely : Prop := fdbNewsRow.holds Try.pinned (OpenSpec.ofChange fdbNewsWrong)

/-- 'gangwaylaw11.FdbMoves': WHATEVER THE INPUT: true; the input reads as it did. -/
def fdbMovesSpec : ChangeSpec := { name := "fdbMoves", fn := fun _ => fun
  | [d1, d2] => { results := [.lit (.bool true)], args := [d1, d2] }
  | _ => none }
def fdbMovesRow : OpenClaim := { program := "ytbhddlllpgfgiaa", sum := "c1856e3f3d6cbbc698742121e19c4f0256703a6c7549525903e23059fb6d65dd", func := "gangway/gangwaylaw11.FdbMoves", spec := "fdbMoves", inPlace := ["slices.overlaps[gangway/api.Entry]"], unfollowed := true, recurses := true, apart := false }
def FdbMovesSaid : Prop := fdbMovesRow.holds Try.pinned (OpenSpec.ofChange fdbMovesSpec)

/-- ITS FALSE NEIGHBOUR: 'it returns false'. Refute it at one input. -/
def fdbMovesWrong : ChangeSpec := { name := "fdbMoves", fn := fun _ => fun
  | [d1, d2] => { results := [.lit (.bool false)], args := [d1, d2] }
  | _ => none }
def FdbMovesWrongFalsely : Prop := fdbMovesRow.holds Try.pinned (OpenSpec.ofChange fdbMovesWrong)

/-- 'gangwaylaw11.FdbApart': WHATEVER THE INPUT: true; the input reads as it did. -/
def fdbApartSpec : ChangeSpec := { name := "fdbApart", fn := fun _ => fun
  | [d1, d2] => { results := [.lit (.bool true)], args := [d1, d2] }
  | _ => none }
def fdbApartRow : OpenClaim := { program := "ytbhddlllpgfgiaa", sum := "c1856e3f3d6cbbc698742121e19c4f0256703a6c7549525903e23059fb6d65dd", func := "gangway/gangwaylaw11.FdbApart", spec := "fdbApart", inPlace := ["slices.overlaps[gangway/api.Entry]"], unfollowed := true, recurses := true, apart := false }
def FdbApartSaid : Prop := fdbApartRow.holds Try.pinned (OpenSpec.ofChange fdbApartSpec)

/-- ITS FALSE NEIGHBOUR: 'it returns false'. Refute it at one input. -/
def fdbApartWrong : ChangeSpec := { name := "fdbApart", fn := fun _ => fun
  | [d1, d2] => { results := [.lit (.bool false)], args := [d1, d2] }
  | _ => none }
def FdbApartWrongFalsely : Prop := fdbApartRow.holds Try.pinned (OpenSpec.ofChange fdbApartWrong)

/-- 'gangwaylaw11.FdbFixed': WHATEVER THE INPUT: true; the input reads as it did. -/
def fdbFixedSpec : ChangeSpec := { name := "fdbFixed", fn := fun _ => fun
  | [d1, d2] => { results := [.lit (.bool true)], args := [d1, d2] }
  | _ => none }
def fdbFixedRow : OpenClaim := { program := "ytbhddlllpgfgiaa", sum := "c1856e3f3d6cbbc698742121e19c4f0256703a6c7549525903e23059fb6d65dd", func := "gangway/gangwaylaw11.FdbFixed", spec := "fdbFixed", inPlace := ["slices.overlaps[gangway/api.Entry]"], unfollowed := true, recurses := true, apart := false }
def FdbFixedSaid : Prop := fdbFixedRow.holds Try.pinned (OpenSpec.ofChange fdbFixedSpec)

/-- ITS FALSE NEIGHBOUR: 'it returns false'. Refute it at one input. -/
def fdbFixedWrong : ChangeSpec := { name := "fdbFixed", fn := fun _ => fun
  | [d1, d2] => { results := [.lit (.bool false)], args := [d1, d2] }
  | _ => none }
def FdbFixedWrongFalsely : Prop := fdbFixedRow.holds Try.pinned (OpenSpec.ofChange fdbFixedWrong)

/- THE SECOND FORM. 'bulk': how many values and letters a reading holds, each counted each time it is reached (what is shared counts as often as it is met; a slice's spare places count too). A statement '..UptoSaid' is the law's where the arguments, and the package variables that the reading takes, are together of bulk at most 1048576: NARROWER than '..Said'. Prove '..Said' where nothing that the law and all that it calls make is longer than what came in: it says more and counts as full. Else prove '..UptoSaid'. A law counts once. -/
mutual
def uptoBulk {H : Type} : DataW H → Nat
  | .lit (.string bytes) => bytes.length + 1
  | .lit _ => 1
  | .nil => 1
  | .ptr d => uptoBulk d + 1
  | .slice elems spare => uptoBulkAll elems + uptoBulkAll spare + 1
  | .agg parts => uptoBulkAll parts + 1
  | .iface _ d => uptoBulk d + 1
  | .map entries => uptoBulkEntries entries + 1
  | .held _ => 1
def uptoBulkAll {H : Type} : List (DataW H) → Nat
  | [] => 0
  | d :: r => uptoBulk d + uptoBulkAll r
def uptoBulkEntries {H : Type} : List (Lit × DataW H) → Nat
  | [] => 0
  | x :: r => uptoBulkEntry x + uptoBulkEntries r
def uptoBulkEntry {H : Type} : Lit × DataW H → Nat
  | (.string bytes, d) => bytes.length + uptoBulk d + 1
  | (_, d) => uptoBulk d + 1
 end
def uptoSmall : (H : Type) → List (DataW H) → Bool := fun _ ds => decide (uptoBulkAll ds ≤ 1048576)
def OpenSpec.upto (s : _root_.Go.ChangeSpec) : _root_.Go.OpenSpec := { _root_.Go.OpenSpec.ofChange s with cond := some uptoSmall }

/-- 'gangwaylaw11.FdbNews', WHERE WHAT IT READS IS OF BULK AT MOST 1048576: true; the input reads as it did. -/
def fdbNewsUptoRow : OpenClaim := { program := "ytbhddlllpgfgiaa", sum := "c1856e3f3d6cbbc698742121e19c4f0256703a6c7549525903e23059fb6d65dd", func := "gangway/gangwaylaw11.FdbNews", spec := "fdbNews", inPlace := ["slices.overlaps[gangway/api.Entry]"], unfollowed := true, recurses := true, apart := false, narrowed := true }
def FdbNewsUptoSaid : Prop := fdbNewsUptoRow.holds Try.pinned (OpenSpec.upto fdbNewsSpec)

/-- 'gangwaylaw11.FdbMoves', WHERE WHAT IT READS IS OF BULK AT MOST 1048576: true; the input reads as it did. -/
def fdbMovesUptoRow : OpenClaim := { program := "ytbhddlllpgfgiaa", sum := "c1856e3f3d6cbbc698742121e19c4f0256703a6c7549525903e23059fb6d65dd", func := "gangway/gangwaylaw11.FdbMoves", spec := "fdbMoves", inPlace := ["slices.overlaps[gangway/api.Entry]"], unfollowed := true, recurses := true, apart := false, narrowed := true }
def FdbMovesUptoSaid : Prop := fdbMovesUptoRow.holds Try.pinned (OpenSpec.upto fdbMovesSpec)

/-- 'gangwaylaw11.FdbApart', WHERE WHAT IT READS IS OF BULK AT MOST 1048576: true; the input reads as it did. -/
def fdbApartUptoRow : OpenClaim := { program := "ytbhddlllpgfgiaa", sum := "c1856e3f3d6cbbc698742121e19c4f0256703a6c7549525903e23059fb6d65dd", func := "gangway/gangwaylaw11.FdbApart", spec := "fdbApart", inPlace := ["slices.overlaps[gangway/api.Entry]"], unfollowed := true, recurses := true, apart := false, narrowed := true }
def FdbApartUptoSaid : Prop := fdbApartUptoRow.holds Try.pinned (OpenSpec.upto fdbApartSpec)

/-- 'gangwaylaw11.FdbFixed', WHERE WHAT IT READS IS OF BULK AT MOST 1048576: true; the input reads as it did. -/
def fdbFixedUptoRow : OpenClaim := { program := "ytbhddlllpgfgiaa", sum := "c1856e3f3d6cbbc698742121e19c4f0256703a6c7549525903e23059fb6d65dd", func := "gangway/gangwaylaw11.FdbFixed", spec := "fdbFixed", inPlace := ["slices.overlaps[gangway/api.Entry]"], unfollowed := true, recurses := true, apart := false, narrowed := true }
def FdbFixedUptoSaid : Prop := fdbFixedUptoRow.holds Try.pinned (OpenSpec.upto fdbFixedSpec)

end Rows
end Go.Proofs.Ytbhddlllpgfgiaa

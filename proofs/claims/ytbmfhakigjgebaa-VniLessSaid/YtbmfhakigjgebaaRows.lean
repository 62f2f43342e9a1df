/-
  No cell of these rows narrows 'for every input' (looked for: loops, veiled, ifaces, maps, wideKeys, modest, calm, conditions, laid).
  DERIVED. THE GIVEN ROWS OF THIS SEAT. 4 by the template 'for every input the law returns true; each argument reads behind the call as it read before'; 0 by the template 'total and deterministic' (their statements: YtbmfhakigjgebaaTotals.lean).
  GIVEN WITH THE SEED: the statements are not yours to turn. If you find one false, say at which input.
  Laid BY PROGRAM, IN A SANDBOX (cutbox-rows.mjs): the forced cells as the released guide's own fill.sh prints them over the translation c5d09f13334e1947… (all of the seat's roots in one cut). By AI agents, Wed Nov 11 2026. No macro, syntax, notation, axiom, sorry.
-/
import Derived.Test.YtbmfhakigjgebaaChecked
import GoSem.Claim
import GoSem.ClaimJoined
import GoSem.ClaimMapViews
import Derived.JoinedTies
import Derived.KernelRfl
namespace Go.Proofs.Ytbmfhakigjgebaa
/- THE CELL 'sum', in the pinned program and in every row, IS THE sha256 OF THE DUMP (.gsa) THAT YtbmfhakigjgebaaProg.lean LOADS. Nothing in Lean hashes anything: it is a label: what it is worth is what the hold of that sum in a sandbox is worth. -/
noncomputable def Try.pinned : Pinned := { name := "ytbmfhakigjgebaa", sum := "c5d09f13334e1947a9842c5041d985bfdee824d5a0d20875bf87ce2cdcf4c83c", checked := Try.checked }
namespace Rows
def none {H : Type} : Left H := { results := [], args := [] }

/-- 'gangwaylaw21.VniTells': WHATEVER THE INPUT: true; the input reads as it did. -/
def vniTellsSpec : ChangeSpec := { name := "vniTells", fn := fun _ => fun
  | [d1, d2, d3] => { results := [.lit (.bool true)], args := [d1, d2, d3] }
  | _ => none }
def vniTellsRow : OpenClaim := { program := "ytbmfhakigjgebaa", sum := "c5d09f13334e1947a9842c5041d985bfdee824d5a0d20875bf87ce2cdcf4c83c", func := "gangway/gangwaylaw21.VniTells", spec := "vniTells", unfollowed := true, recurses := true, apart := false }
def VniTellsSaid : Prop := vniTellsRow.holds Try.pinned (OpenSpec.ofChange vniTellsSpec)

/-- ITS FALSE NEIGHBOUR: 'it returns false'. Refute it at one input. -/
def vniTellsWrong : ChangeSpec := { name := "vniTells", fn := fun _ => fun
  | [d1, d2, d3] => { results := [.lit (.bool false)], args := [d1, d2, d3] }
  | _ => none }
def VniTellsWrongFalsely : Prop := vniTellsRow.holds Try.pinned (OpenSpec.ofChange vniTellsWrong)

/-- 'gangwaylaw21.VniOne': WHATEVER THE INPUT: true; the input reads as it did. -/
def vniOneSpec : ChangeSpec := { name := "vniOne", fn := fun _ => fun
  | [d1, d2] => { results := [.lit (.bool true)], args := [d1, d2] }
  | _ => none }
def vniOneRow : OpenClaim := { program := "ytbmfhakigjgebaa", sum := "c5d09f13334e1947a9842c5041d985bfdee824d5a0d20875bf87ce2cdcf4c83c", func := "gangway/gangwaylaw21.VniOne", spec := "vniOne", unfollowed := true, recurses := true, apart := false }
def VniOneSaid : Prop := vniOneRow.holds Try.pinned (OpenSpec.ofChange vniOneSpec)

/-- ITS FALSE NEIGHBOUR: 'it returns false'. Refute it at one input. -/
def vniOneWrong : ChangeSpec := { name := "vniOne", fn := fun _ => fun
  | [d1, d2] => { results := [.lit (.bool false)], args := [d1, d2] }
  | _ => none }
def VniOneWrongFalsely : Prop := vniOneRow.holds Try.pinned (OpenSpec.ofChange vniOneWrong)

/-- 'gangwaylaw21.VniLess': WHATEVER THE INPUT: true; the input reads as it did. -/
def vniLessSpec : ChangeSpec := { name := "vniLess", fn := fun _ => fun
  | [d1, d2, d3] => { results := [.lit (.bool true)], args := [d1, d2, d3] }
  | _ => none }
def vniLessRow : OpenClaim := { program := "ytbmfhakigjgebaa", sum := "c5d09f13334e1947a9842c5041d985bfdee824d5a0d20875bf87ce2cdcf4c83c", func := "gangway/gangwaylaw21.VniLess", spec := "vniLess", unfollowed := true, recurses := true, apart := false }
def VniLessSaid : Prop := vniLessRow.holds Try.pinned (OpenSpec.ofChange vniLessSpec)

/-- ITS FALSE NEIGHBOUR: 'it returns false'. Refute it at one input. -/
def vniLessWrong : ChangeSpec := { name := "vniLess", fn := fun _ => fun
  | [d1, d2, d3] => { results := [.lit (.bool false)], args := [d1, d2, d3] }
  | _ => none }
def VniLessWrongFalsely : Prop := vniLessRow.holds Try.pinned (OpenSpec.ofChange vniLessWrong)

/-- 'gangwaylaw21.VniNone': WHATEVER THE INPUT: true; the input reads as it did. -/
def vniNoneSpec : ChangeSpec := { name := "vniNone", fn := fun _ => fun
  | [d1, d2, d3] => { results := [.lit (.bool true)], args := [d1, d2, d3] }
  | _ => none }
def vniNoneRow : OpenClaim := { program := "ytbmfhakigjgebaa", sum := "c5d09f13334e1947a9842c5041d985bfdee824d5a0d20875bf87ce2cdcf4c83c", func := "gangway/gangwaylaw21.VniNone", spec := "vniNone", unfollowed := true, recurses := true, apart := false }
def VniNoneSaid : Prop := vniNoneRow.holds Try.pinned (OpenSpec.ofChange vniNoneSpec)

/-- ITS FALSE NEIGHBOUR: 'it returns false'. Refute it at one input. -/
def vniNoneWrong : ChangeSpec := { name := "vniNone", fn := fun _ => fun
  | [d1, d2, d3] => { results := [.lit (.bool false)], args := [d1, d2, d3] }
  | _ => none }
def VniNoneWrongFalsely : Prop := vniNoneRow.holds Try.pinned (OpenSpec.ofChange vniNoneWrong)

/- THE SECOND FORM. 'bulk': how many values and letters a reading holds, each counted each time it is reached (what is shared counts as often as it is met; a slice's spare places count too). A statement '..UptoSaid' is the law's where the arguments, and the package variables that the reading takes, are together of bulk at most 1048576: NARROWER than '..Said'. Prove '..Said' where nothing that the law and all that it calls make is longer than what came in: it says more and counts as full. Else prove '..UptoSaid'. A law counts once. -/
mutual
def uptoBulk {H : Type} : DataW H → Nat
  | .lit (.string bytes) => bytes.length + 1
  | .lit _ => 1
  | .nil => 1
  | .ptr d => uptoBulk d + 1
  | .slice elems spare => uptoBulkAll elems + uptoBulkAll spare + 1
  | .agg parts => uptoBulkAll parts + 1
  | .iface _ d => uptoBulk d + 1
  | .map entries => uptoBulkEntries entries + 1
  | .held _ => 1
def uptoBulkAll {H : Type} : List (DataW H) → Nat
  | [] => 0
  | d :: r => uptoBulk d + uptoBulkAll r
def uptoBulkEntries {H : Type} : List (Lit × DataW H) → Nat
  | [] => 0
  | x :: r => uptoBulkEntry x + uptoBulkEntries r
def uptoBulkEntry {H : Type} : Lit × DataW H → Nat
  | (.string bytes, d) => bytes.length + uptoBulk d + 1
  | (_, d) => uptoBulk d + 1
 end
def uptoSmall : (H : Type) → List (DataW H) → Bool := fun _ ds => decide (uptoBulkAll ds ≤ 1048576)
def OpenSpec.upto (s : _root_.Go.ChangeSpec) : _root_.Go.OpenSpec := { _root_.Go.OpenSpec.ofChange s with cond := some uptoSmall }

/-- 'gangwaylaw21.VniTells', WHERE WHAT IT READS IS OF BULK AT MOST 1048576: true; the input reads as it did. -/
def vniTellsUptoRow : OpenClaim := { program := "ytbmfhakigjgebaa", sum := "c5d09f13334e1947a9842c5041d985bfdee824d5a0d20875bf87ce2cdcf4c83c", func := "gangway/gangwaylaw21.VniTells", spec := "vniTells", unfollowed := true, recurses := true, apart := false, narrowed := true }
def VniTellsUptoSaid : Prop := vniTellsUptoRow.holds Try.pinned (OpenSpec.upto vniTellsSpec)

/-- 'gangwaylaw21.VniOne', WHERE WHAT IT READS IS OF BULK AT MOST 1048576: true; the input reads as it did. -/
def vniOneUptoRow : OpenClaim := { program := "ytbmfhakigjgebaa", sum := "c5d09f13334e1947a9842c5041d985bfdee824d5a0d20875bf87ce2cdcf4c83c", func := "gangway/gangwaylaw21.VniOne", spec := "vniOne", unfollowed := true, recurses := true, apart := false, narrowed := true }
def VniOneUptoSaid : Prop := vniOneUptoRow.holds Try.pinned (OpenSpec.upto vniOneSpec)

/-- 'gangwaylaw21.VniLess', WHERE WHAT IT READS IS OF BULK AT MOST 1048576: true; the input reads as it did. -/
def vniLessUptoRow : OpenClaim := { program := "ytbmfhakigjgebaa", sum := "c5d09f13334e1947a9842c5041d985bfdee824d5a0d20875bf87ce2cdcf4c83c", func := "gangway/gangwaylaw21.VniLess", spec := "vniLess", unfollowed := true, recurses := true, apart := false, narrowed := true }
def VniLessUptoSaid : Prop := vniLessUptoRow.holds Try.pinned (OpenSpec.upto vniLessSpec)

/-- 'gangwaylaw21.VniNone', WHERE WHAT IT READS IS OF BULK AT MOST 1048576: true; the input reads as it did. -/
def vniNoneUptoRow : OpenClaim := { program := "ytbmfhakigjgebaa", sum := "c5d09f13334e1947a9842c5041d985bfdee824d5a0d20875bf87ce2cdcf4c83c", func := "gangway/gangwaylaw21.VniNone", spec := "vniNone", unfollowed := true, recurses := true, apart := false, narrowed := true }
def VniNoneUptoSaid : Prop := vniNoneUptoRow.holds Try.pinned (OpenSpec.upto vniNoneSpec)

end Rows
end Go.Proofs.Ytbmfhakigjgebaa

/-
  No cell of these rows narrows 'for every input' (looked for: loops, veiled, ifaces, maps, wideKeys, modest, calm, conditions, laid).
  DERIVED. THE GIVEN ROWS OF THIS SEAT. 4 by the template 'for every input the law returns true; each argument reads behind the call as it read before'; 0 by the template 'total and deterministic' (their statements: YtgfhpkoabliamaaTotals.lean).
  GIVEN WITH THE SEED: the statements are not yours to turn. If you find one false, say at which input.
  Laid BY PROGRAM, IN A SANDBOX (cutbox-rows.mjs): the forced cells as the released guide's own fill.sh prints them over the translation c8bfd99fb890e8e6… (all of the seat's roots in one cut). By AI agents, Wed Nov 11 2026. No macro, syntax, notation, axiom, sorry.
-/
import Derived.Test.YtgfhpkoabliamaaChecked
import GoSem.Claim
import GoSem.ClaimJoined
import GoSem.ClaimMapViews
import Derived.JoinedTies
import Derived.KernelRfl
namespace Go.Proofs.Ytgfhpkoabliamaa
/- THE CELL 'sum', in the pinned program and in every row, IS THE sha256 OF THE DUMP (.gsa) THAT YtgfhpkoabliamaaProg.lean LOADS. Nothing in Lean hashes anything: it is a label: what it is worth is what the hold of that sum in a sandbox is worth. -/
noncomputable def Try.pinned : Pinned := { name := "ytgfhpkoabliamaa", sum := "c8bfd99fb890e8e66f54decfc56fe6c3ac0631651d03e11c359e7cd022f04147", checked := Try.checked }
namespace Rows
def none {H : Type} : Left H := { results := [], args := [] }

/-- 'gangwaylaw25.WiresNews': WHATEVER THE INPUT: true; the input reads as it did. -/
def wiresNewsSpec : ChangeSpec := { name := "wiresNews", fn := fun _ => fun
  | [d] => { results := [.lit (.bool true)], args := [d] }
  | _ => none }
def wiresNewsRow : OpenClaim := { program := "ytgfhpkoabliamaa", sum := "c8bfd99fb890e8e66f54decfc56fe6c3ac0631651d03e11c359e7cd022f04147", func := "gangway/gangwaylaw25.WiresNews", spec := "wiresNews", inPlace := ["slices.overlaps[gangway/api.Packet]"], apart := false }
def WiresNewsSaid : Prop := wiresNewsRow.holds Try.pinned (OpenSpec.ofChange wiresNewsSpec)

/-- ITS FALSE NEIGHBOUR: 'it returns false'. Refute it at one input. -/
def wiresNewsWrong : ChangeSpec := { name := "wiresNews", fn := fun _ => fun
  | [d] => { results := [.lit (.bool false)], args := [d] }
  | _ => none }
def WiresNewsWrongFalsely : Prop := wiresNewsRow.holds Try.pinned (OpenSpec.ofChange wiresNewsWrong)

/-- 'gangwaylaw25.WiresOrder': WHATEVER THE INPUT: true; the input reads as it did. -/
def wiresOrderSpec : ChangeSpec := { name := "wiresOrder", fn := fun _ => fun
  | [d1, d2, d3] => { results := [.lit (.bool true)], args := [d1, d2, d3] }
  | _ => none }
def wiresOrderRow : OpenClaim := { program := "ytgfhpkoabliamaa", sum := "c8bfd99fb890e8e66f54decfc56fe6c3ac0631651d03e11c359e7cd022f04147", func := "gangway/gangwaylaw25.WiresOrder", spec := "wiresOrder", inPlace := ["slices.overlaps[gangway/api.Packet]"], apart := false }
def WiresOrderSaid : Prop := wiresOrderRow.holds Try.pinned (OpenSpec.ofChange wiresOrderSpec)

/-- ITS FALSE NEIGHBOUR: 'it returns false'. Refute it at one input. -/
def wiresOrderWrong : ChangeSpec := { name := "wiresOrder", fn := fun _ => fun
  | [d1, d2, d3] => { results := [.lit (.bool false)], args := [d1, d2, d3] }
  | _ => none }
def WiresOrderWrongFalsely : Prop := wiresOrderRow.holds Try.pinned (OpenSpec.ofChange wiresOrderWrong)

/-- 'gangwaylaw25.WiresFlow': WHATEVER THE INPUT: true; the input reads as it did. -/
def wiresFlowSpec : ChangeSpec := { name := "wiresFlow", fn := fun _ => fun
  | [d] => { results := [.lit (.bool true)], args := [d] }
  | _ => none }
def wiresFlowRow : OpenClaim := { program := "ytgfhpkoabliamaa", sum := "c8bfd99fb890e8e66f54decfc56fe6c3ac0631651d03e11c359e7cd022f04147", func := "gangway/gangwaylaw25.WiresFlow", spec := "wiresFlow", inPlace := ["slices.overlaps[gangway/api.Packet]"], apart := false }
def WiresFlowSaid : Prop := wiresFlowRow.holds Try.pinned (OpenSpec.ofChange wiresFlowSpec)

/-- ITS FALSE NEIGHBOUR: 'it returns false'. Refute it at one input. -/
def wiresFlowWrong : ChangeSpec := { name := "wiresFlow", fn := fun _ => fun
  | [d] => { results := [.lit (.bool false)], args := [d] }
  | _ => none }
def WiresFlowWrongFalsely : Prop := wiresFlowRow.holds Try.pinned (OpenSpec.ofChange wiresFlowWrong)

/-- 'gangwaylaw25.WiresDoes': WHATEVER THE INPUT: true; the input reads as it did. -/
def wiresDoesSpec : ChangeSpec := { name := "wiresDoes", fn := fun _ => fun
  | [d1, d2] => { results := [.lit (.bool true)], args := [d1, d2] }
  | _ => none }
def wiresDoesRow : OpenClaim := { program := "ytgfhpkoabliamaa", sum := "c8bfd99fb890e8e66f54decfc56fe6c3ac0631651d03e11c359e7cd022f04147", func := "gangway/gangwaylaw25.WiresDoes", spec := "wiresDoes", inPlace := ["slices.overlaps[gangway/api.Packet]"], apart := false }
def WiresDoesSaid : Prop := wiresDoesRow.holds Try.pinned (OpenSpec.ofChange wiresDoesSpec)

/-- ITS FALSE NEIGHBOUR: 'it returns false'. Refute it at one input. -/
def wiresDoesWrong : ChangeSpec := { name := "wiresDoes", fn := fun _ => fun
  | [d1, d2] => { results := [.lit (.bool false)], args := [d1, d2] }
  | _ => none }
def WiresDoesWrongFalsely : Prop := wiresDoesRow.holds Try.pinned (OpenSpec.ofChange wiresDoesWrong)

/- THE SECOND FORM. 'bulk': how many values and letters a reading holds, each counted each time it is reached (what is shared counts as often as it is met; a slice's spare places count too). A statement '..UptoSaid' is the law's where the arguments, and the package variables that the reading takes, are together of bulk at most 1048576: NARROWER than '..Said'. Prove '..Said' where nothing that the law and all that it calls make is longer than what came in: it says more and counts as full. Else prove '..UptoSaid'. A law counts once. -/
mutual
def uptoBulk {H : Type} : DataW H → Nat
  | .lit (.string bytes) => bytes.length + 1
  | .lit _ => 1
  | .nil => 1
  | .ptr d => uptoBulk d + 1
  | .slice elems spare => uptoBulkAll elems + uptoBulkAll spare + 1
  | .agg parts => uptoBulkAll parts + 1
  | .iface _ d => uptoBulk d + 1
  | .map entries => uptoBulkEntries entries + 1
  | .held _ => 1
def uptoBulkAll {H : Type} : List (DataW H) → Nat
  | [] => 0
  | d :: r => uptoBulk d + uptoBulkAll r
def uptoBulkEntries {H : Type} : List (Lit × DataW H) → Nat
  | [] => 0
  | x :: r => uptoBulkEntry x + uptoBulkEntries r
def uptoBulkEntry {H : Type} : Lit × DataW H → Nat
  | (.string bytes, d) => bytes.length + uptoBulk d + 1
  | (_, d) => uptoBulk d + 1
 end
def uptoSmall : (H : Type) → List (DataW H) → Bool := fun _ ds => decide (uptoBulkAll ds ≤ 1048576)
def OpenSpec.upto (s : _root_.Go.ChangeSpec) : _root_.Go.OpenSpec := { _root_.Go.OpenSpec.ofChange s with cond := some uptoSmall }

/-- 'gangwaylaw25.WiresNews', WHERE WHAT IT READS IS OF BULK AT MOST 1048576: true; the input reads as it did. -/
def wiresNewsUptoRow : OpenClaim := { program := "ytgfhpkoabliamaa", sum := "c8bfd99fb890e8e66f54decfc56fe6c3ac0631651d03e11c359e7cd022f04147", func := "gangway/gangwaylaw25.WiresNews", spec := "wiresNews", inPlace := ["slices.overlaps[gangway/api.Packet]"], apart := false, narrowed := true }
def WiresNewsUptoSaid : Prop := wiresNewsUptoRow.holds Try.pinned (OpenSpec.upto wiresNewsSpec)

/-- 'gangwaylaw25.WiresOrder', WHERE WHAT IT READS IS OF BULK AT MOST 1048576: true; the input reads as it did. -/
def wiresOrderUptoRow : OpenClaim := { program := "ytgfhpkoabliamaa", sum := "c8bfd99fb890e8e66f54decfc56fe6c3ac0631651d03e11c359e7cd022f04147", func := "gangway/gangwaylaw25.WiresOrder", spec := "wiresOrder", inPlace := ["slices.overlaps[gangway/api.Packet]"], apart := false, narrowed := true }
def WiresOrderUptoSaid : Prop := wiresOrderUptoRow.holds Try.pinned (OpenSpec.upto wiresOrderSpec)

/-- 'gangwaylaw25.WiresFlow', WHERE WHAT IT READS IS OF BULK AT MOST 1048576: true; the input reads as it did. -/
def wiresFlowUptoRow : OpenClaim := { program := "ytgfhpkoabliamaa", sum := "c8bfd99fb890e8e66f54decfc56fe6c3ac0631651d03e11c359e7cd022f04147", func := "gangway/gangwaylaw25.WiresFlow", spec := "wiresFlow", inPlace := ["slices.overlaps[gangway/api.Packet]"], apart := false, narrowed := true }
def WiresFlowUptoSaid : Prop := wiresFlowUptoRow.holds Try.pinned (OpenSpec.upto wiresFlowSpec)

/-- 'gangwaylaw25.WiresDoes', WHERE WHAT IT READS IS OF BULK AT MOST 1048576: true; the input reads as it did. -/
def wiresDoesUptoRow : OpenClaim := { program := "ytgfhpkoabliamaa", sum := "c8bfd99fb890e8e66f54decfc56fe6c3ac0631651d03e11c359e7cd022f04147", func := "gangway/gangwaylaw25.WiresDoes", spec := "wiresDoes", inPlace := ["slices.overlaps[gangway/api.Packet]"], apart := false, narrowed := true }
def WiresDoesUptoSaid : Prop := wiresDoesUptoRow.holds Try.pinned (OpenSpec.upto wiresDoesSpec)

end Rows
end Go.Proofs.Ytgfhpkoabliamaa

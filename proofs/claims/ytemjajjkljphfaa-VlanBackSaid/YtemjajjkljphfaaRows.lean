/-
  No cell of these rows narrows 'for every input' (looked for: loops, veiled, ifaces, maps, wideKeys, modest, calm, conditions, laid).
  DERIVED. THE GIVEN ROWS OF THIS SEAT. 4 by the template 'for every input the law returns true; each argument reads behind the call as it read before'; 0 by the template 'total and deterministic' (their statements: YtemjajjkljphfaaTotals.lean).
  GIVEN WITH THE SEED: the statements are not yours to turn. If you find one false, say at which input.
  Laid BY PROGRAM, IN A SANDBOX (cutbox-rows.mjs): the forced cells as the released guide's own fill.sh prints them over the translation 4d1147d09fa7aebe… (all of the seat's roots in one cut). By AI agents, Wed Nov 11 2026. No macro, syntax, notation, axiom, sorry.
-/
import Derived.Test.YtemjajjkljphfaaChecked
import GoSem.Claim
import GoSem.ClaimJoined
import GoSem.ClaimMapViews
import Derived.JoinedTies
import Derived.KernelRfl
namespace Go.Proofs.Ytemjajjkljphfaa
/- THE CELL 'sum', in the pinned program and in every row, IS THE sha256 OF THE DUMP (.gsa) THAT YtemjajjkljphfaaProg.lean LOADS. Nothing in Lean hashes anything: it is a label: what it is worth is what the hold of that sum in a sandbox is worth. -/
noncomputable def Try.pinned : Pinned := { name := "ytemjajjkljphfaa", sum := "4d1147d09fa7aebe469fb998be3b6edc1a11316829f11960241e577faa080569", checked := Try.checked }
namespace Rows
def none {H : Type} : Left H := { results := [], args := [] }

/-- 'gangwaylaw16.VlanTells': WHATEVER THE INPUT: true; the input reads as it did. -/
def vlanTellsSpec : ChangeSpec := { name := "vlanTells", fn := fun _ => fun
  | [d1, d2, d3] => { results := [.lit (.bool true)], args := [d1, d2, d3] }
  | _ => none }
def vlanTellsRow : OpenClaim := { program := "ytemjajjkljphfaa", sum := "4d1147d09fa7aebe469fb998be3b6edc1a11316829f11960241e577faa080569", func := "gangway/gangwaylaw16.VlanTells", spec := "vlanTells", unfollowed := true, recurses := true, apart := false }
def VlanTellsSaid : Prop := vlanTellsRow.holds Try.pinned (OpenSpec.ofChange vlanTellsSpec)

/-- ITS FALSE NEIGHBOUR: 'it returns false'. Refute it at one input. -/
def vlanTellsWrong : ChangeSpec := { name := "vlanTells", fn := fun _ => fun
  | [d1, d2, d3] => { results := [.lit (.bool false)], args := [d1, d2, d3] }
  | _ => none }
def VlanTellsWrongFalsely : Prop := vlanTellsRow.holds Try.pinned (OpenSpec.ofChange vlanTellsWrong)

/-- 'gangwaylaw16.VlanPorts': WHATEVER THE INPUT: true; the input reads as it did. -/
def vlanPortsSpec : ChangeSpec := { name := "vlanPorts", fn := fun _ => fun
  | [d1, d2] => { results := [.lit (.bool true)], args := [d1, d2] }
  | _ => none }
def vlanPortsRow : OpenClaim := { program := "ytemjajjkljphfaa", sum := "4d1147d09fa7aebe469fb998be3b6edc1a11316829f11960241e577faa080569", func := "gangway/gangwaylaw16.VlanPorts", spec := "vlanPorts", unfollowed := true, recurses := true, apart := false }
def VlanPortsSaid : Prop := vlanPortsRow.holds Try.pinned (OpenSpec.ofChange vlanPortsSpec)

/-- ITS FALSE NEIGHBOUR: 'it returns false'. Refute it at one input. -/
def vlanPortsWrong : ChangeSpec := { name := "vlanPorts", fn := fun _ => fun
  | [d1, d2] => { results := [.lit (.bool false)], args := [d1, d2] }
  | _ => none }
def VlanPortsWrongFalsely : Prop := vlanPortsRow.holds Try.pinned (OpenSpec.ofChange vlanPortsWrong)

/-- 'gangwaylaw16.VlanBack': WHATEVER THE INPUT: true; the input reads as it did. -/
def vlanBackSpec : ChangeSpec := { name := "vlanBack", fn := fun _ => fun
  | [d1, d2, d3] => { results := [.lit (.bool true)], args := [d1, d2, d3] }
  | _ => none }
def vlanBackRow : OpenClaim := { program := "ytemjajjkljphfaa", sum := "4d1147d09fa7aebe469fb998be3b6edc1a11316829f11960241e577faa080569", func := "gangway/gangwaylaw16.VlanBack", spec := "vlanBack", unfollowed := true, recurses := true, apart := false }
def VlanBackSaid : Prop := vlanBackRow.holds Try.pinned (OpenSpec.ofChange vlanBackSpec)

/-- ITS FALSE NEIGHBOUR: 'it returns false'. Refute it at one input. -/
def vlanBackWrong : ChangeSpec := { name := "vlanBack", fn := fun _ => fun
  | [d1, d2, d3] => { results := [.lit (.bool false)], args := [d1, d2, d3] }
  | _ => none }
def VlanBackWrongFalsely : Prop := vlanBackRow.holds Try.pinned (OpenSpec.ofChange vlanBackWrong)

/-- 'gangwaylaw16.VlanOnly': WHATEVER THE INPUT: true; the input reads as it did. -/
def vlanOnlySpec : ChangeSpec := { name := "vlanOnly", fn := fun _ => fun
  | [d1, d2] => { results := [.lit (.bool true)], args := [d1, d2] }
  | _ => none }
def vlanOnlyRow : OpenClaim := { program := "ytemjajjkljphfaa", sum := "4d1147d09fa7aebe469fb998be3b6edc1a11316829f11960241e577faa080569", func := "gangway/gangwaylaw16.VlanOnly", spec := "vlanOnly", unfollowed := true, recurses := true, apart := false }
def VlanOnlySaid : Prop := vlanOnlyRow.holds Try.pinned (OpenSpec.ofChange vlanOnlySpec)

/-- ITS FALSE NEIGHBOUR: 'it returns false'. Refute it at one input. -/
def vlanOnlyWrong : ChangeSpec := { name := "vlanOnly", fn := fun _ => fun
  | [d1, d2] => { results := [.lit (.bool false)], args := [d1, d2] }
  | _ => none }
def VlanOnlyWrongFalsely : Prop := vlanOnlyRow.holds Try.pinned (OpenSpec.ofChange vlanOnlyWrong)

/- THE SECOND FORM. 'bulk': how many values and letters a reading holds, each counted each time it is reached (what is shared counts as often as it is met; a slice's spare places count too). A statement '..UptoSaid' is the law's where the arguments, and the package variables that the reading takes, are together of bulk at most 1048576: NARROWER than '..Said'. Prove '..Said' where nothing that the law and all that it calls make is longer than what came in: it says more and counts as full. Else prove '..UptoSaid'. A law counts once. -/
mutual
def uptoBulk {H : Type} : DataW H → Nat
  | .lit (.string bytes) => bytes.length + 1
  | .lit _ => 1
  | .nil => 1
  | .ptr d => uptoBulk d + 1
  | .slice elems spare => uptoBulkAll elems + uptoBulkAll spare + 1
  | .agg parts => uptoBulkAll parts + 1
  | .iface _ d => uptoBulk d + 1
  | .map entries => uptoBulkEntries entries + 1
  | .held _ => 1
def uptoBulkAll {H : Type} : List (DataW H) → Nat
  | [] => 0
  | d :: r => uptoBulk d + uptoBulkAll r
def uptoBulkEntries {H : Type} : List (Lit × DataW H) → Nat
  | [] => 0
  | x :: r => uptoBulkEntry x + uptoBulkEntries r
def uptoBulkEntry {H : Type} : Lit × DataW H → Nat
  | (.string bytes, d) => bytes.length + uptoBulk d + 1
  | (_, d) => uptoBulk d + 1
 end
def uptoSmall : (H : Type) → List (DataW H) → Bool := fun _ ds => decide (uptoBulkAll ds ≤ 1048576)
def OpenSpec.upto (s : _root_.Go.ChangeSpec) : _root_.Go.OpenSpec := { _root_.Go.OpenSpec.ofChange s with cond := some uptoSmall }

/-- 'gangwaylaw16.VlanTells', WHERE WHAT IT READS IS OF BULK AT MOST 1048576: true; the input reads as it did. -/
def vlanTellsUptoRow : OpenClaim := { program := "ytemjajjkljphfaa", sum := "4d1147d09fa7aebe469fb998be3b6edc1a11316829f11960241e577faa080569", func := "gangway/gangwaylaw16.VlanTells", spec := "vlanTells", unfollowed := true, recurses := true, apart := false, narrowed := true }
def VlanTellsUptoSaid : Prop := vlanTellsUptoRow.holds Try.pinned (OpenSpec.upto vlanTellsSpec)

/-- 'gangwaylaw16.VlanPorts', WHERE WHAT IT READS IS OF BULK AT MOST 1048576: true; the input reads as it did. -/
def vlanPortsUptoRow : OpenClaim := { program := "ytemjajjkljphfaa", sum := "4d1147d09fa7aebe469fb998be3b6edc1a11316829f11960241e577faa080569", func := "gangway/gangwaylaw16.VlanPorts", spec := "vlanPorts", unfollowed := true, recurses := true, apart := false, narrowed := true }
def VlanPortsUptoSaid : Prop := vlanPortsUptoRow.holds Try.pinned (OpenSpec.upto vlanPortsSpec)

/-- 'gangwaylaw16.VlanBack', WHERE WHAT IT READS IS OF BULK AT MOST 1048576: true; the input reads as it did. -/
def vlanBackUptoRow : OpenClaim := { program := "ytemjajjkljphfaa", sum := "4d1147d09fa7aebe469fb998be3b6edc1a11316829f11960241e577faa080569", func := "gangway/gangwaylaw16.VlanBack", spec := "vlanBack", unfollowed := true, recurses := true, apart := false, narrowed := true }
def VlanBackUptoSaid : Prop := vlanBackUptoRow.holds Try.pinned (OpenSpec.upto vlanBackSpec)

/-- 'gangwaylaw16.VlanOnly', WHERE WHAT IT READS IS OF BULK AT MOST 1048576: true; the input reads as it did. -/
def vlanOnlyUptoRow : OpenClaim := { program := "ytemjajjkljphfaa", sum := "4d1147d09fa7aebe469fb998be3b6edc1a11316829f11960241e577faa080569", func := "gangway/gangwaylaw16.VlanOnly", spec := "vlanOnly", unfollowed := true, recurses := true, apart := false, narrowed := true }
def VlanOnlyUptoSaid : Prop := vlanOnlyUptoRow.holds Try.pinned (OpenSpec.upto vlanOnlySpec)

end Rows
end Go.Proofs.Ytemjajjkljphfaa

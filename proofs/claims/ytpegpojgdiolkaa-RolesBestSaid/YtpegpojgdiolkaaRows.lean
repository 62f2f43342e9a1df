/-
  No cell of these rows narrows 'for every input' (looked for: loops, veiled, ifaces, maps, wideKeys, modest, calm, conditions, laid).
  DERIVED. THE GIVEN ROWS OF THIS SEAT. 10 by the template 'for every input the law returns true; each argument reads behind the call as it read before'; 0 by the template 'total and deterministic' (their statements: YtpegpojgdiolkaaTotals.lean).
  GIVEN WITH THE SEED: the statements are not yours to turn. If you find one false, say at which input.
  Laid BY PROGRAM, IN A SANDBOX (cutbox-rows.mjs): the forced cells as the released guide's own fill.sh prints them over the translation b733f0dee59fe5dd… (all of the seat's roots in one cut). By AI agents, Wed Nov 11 2026. No macro, syntax, notation, axiom, sorry.
-/
import Derived.Test.YtpegpojgdiolkaaChecked
import GoSem.Claim
import GoSem.ClaimJoined
import GoSem.ClaimMapViews
import Derived.JoinedTies
import Derived.KernelRfl
namespace Go.Proofs.Ytpegpojgdiolkaa
/- THE CELL 'sum', in the pinned program and in every row, IS THE sha256 OF THE DUMP (.gsa) THAT YtpegpojgdiolkaaProg.lean LOADS. Nothing in Lean hashes anything: it is a label: what it is worth is what the hold of that sum in a sandbox is worth. -/
noncomputable def Try.pinned : Pinned := { name := "ytpegpojgdiolkaa", sum := "b733f0dee59fe5dd537a71f3b18a8ece9ac824066f0d33c9c8ffbdb556ad45dd", checked := Try.checked }
namespace Rows
def none {H : Type} : Left H := { results := [], args := [] }

/-- 'gangwaylaw13.VectorsCompare': WHATEVER THE INPUT: true; the input reads as it did. -/
def vectorsCompareSpec : ChangeSpec := { name := "vectorsCompare", fn := fun _ => fun
  | [d1, d2] => { results := [.lit (.bool true)], args := [d1, d2] }
  | _ => none }
def vectorsCompareRow : OpenClaim := { program := "ytpegpojgdiolkaa", sum := "b733f0dee59fe5dd537a71f3b18a8ece9ac824066f0d33c9c8ffbdb556ad45dd", func := "gangway/gangwaylaw13.VectorsCompare", spec := "vectorsCompare", apart := false }
def VectorsCompareSaid : Prop := vectorsCompareRow.holds Try.pinned (OpenSpec.ofChange vectorsCompareSpec)

/-- ITS FALSE NEIGHBOUR: 'it returns false'. Refute it at one input. -/
def vectorsCompareWrong : ChangeSpec := { name := "vectorsCompare", fn := fun _ => fun
  | [d1, d2] => { results := [.lit (.bool false)], args := [d1, d2] }
  | _ => none }
def VectorsCompareWrongFalsely : Prop := vectorsCompareRow.holds Try.pinned (OpenSpec.ofChange vectorsCompareWrong)

/-- 'gangwaylaw13.VectorsMake': WHATEVER THE INPUT: true; the input reads as it did. -/
def vectorsMakeSpec : ChangeSpec := { name := "vectorsMake", fn := fun _ => fun
  | [d1, d2, d3] => { results := [.lit (.bool true)], args := [d1, d2, d3] }
  | _ => none }
def vectorsMakeRow : OpenClaim := { program := "ytpegpojgdiolkaa", sum := "b733f0dee59fe5dd537a71f3b18a8ece9ac824066f0d33c9c8ffbdb556ad45dd", func := "gangway/gangwaylaw13.VectorsMake", spec := "vectorsMake", apart := false }
def VectorsMakeSaid : Prop := vectorsMakeRow.holds Try.pinned (OpenSpec.ofChange vectorsMakeSpec)

/-- ITS FALSE NEIGHBOUR: 'it returns false'. Refute it at one input. -/
def vectorsMakeWrong : ChangeSpec := { name := "vectorsMake", fn := fun _ => fun
  | [d1, d2, d3] => { results := [.lit (.bool false)], args := [d1, d2, d3] }
  | _ => none }
def VectorsMakeWrongFalsely : Prop := vectorsMakeRow.holds Try.pinned (OpenSpec.ofChange vectorsMakeWrong)

/-- 'gangwaylaw13.VectorsOrder': WHATEVER THE INPUT: true; the input reads as it did. -/
def vectorsOrderSpec : ChangeSpec := { name := "vectorsOrder", fn := fun _ => fun
  | [d1, d2, d3] => { results := [.lit (.bool true)], args := [d1, d2, d3] }
  | _ => none }
def vectorsOrderRow : OpenClaim := { program := "ytpegpojgdiolkaa", sum := "b733f0dee59fe5dd537a71f3b18a8ece9ac824066f0d33c9c8ffbdb556ad45dd", func := "gangway/gangwaylaw13.VectorsOrder", spec := "vectorsOrder", apart := false }
def VectorsOrderSaid : Prop := vectorsOrderRow.holds Try.pinned (OpenSpec.ofChange vectorsOrderSpec)

/-- ITS FALSE NEIGHBOUR: 'it returns false'. Refute it at one input. -/
def vectorsOrderWrong : ChangeSpec := { name := "vectorsOrder", fn := fun _ => fun
  | [d1, d2, d3] => { results := [.lit (.bool false)], args := [d1, d2, d3] }
  | _ => none }
def VectorsOrderWrongFalsely : Prop := vectorsOrderRow.holds Try.pinned (OpenSpec.ofChange vectorsOrderWrong)

/-- 'gangwaylaw13.VectorsFar': WHATEVER THE INPUT: true; the input reads as it did. -/
def vectorsFarSpec : ChangeSpec := { name := "vectorsFar", fn := fun _ => fun
  | [d1, d2, d3] => { results := [.lit (.bool true)], args := [d1, d2, d3] }
  | _ => none }
def vectorsFarRow : OpenClaim := { program := "ytpegpojgdiolkaa", sum := "b733f0dee59fe5dd537a71f3b18a8ece9ac824066f0d33c9c8ffbdb556ad45dd", func := "gangway/gangwaylaw13.VectorsFar", spec := "vectorsFar", apart := false }
def VectorsFarSaid : Prop := vectorsFarRow.holds Try.pinned (OpenSpec.ofChange vectorsFarSpec)

/-- ITS FALSE NEIGHBOUR: 'it returns false'. Refute it at one input. -/
def vectorsFarWrong : ChangeSpec := { name := "vectorsFar", fn := fun _ => fun
  | [d1, d2, d3] => { results := [.lit (.bool false)], args := [d1, d2, d3] }
  | _ => none }
def VectorsFarWrongFalsely : Prop := vectorsFarRow.holds Try.pinned (OpenSpec.ofChange vectorsFarWrong)

/-- 'gangwaylaw13.VectorsRoot': WHATEVER THE INPUT: true; the input reads as it did. -/
def vectorsRootSpec : ChangeSpec := { name := "vectorsRoot", fn := fun _ => fun
  | [d1, d2] => { results := [.lit (.bool true)], args := [d1, d2] }
  | _ => none }
def vectorsRootRow : OpenClaim := { program := "ytpegpojgdiolkaa", sum := "b733f0dee59fe5dd537a71f3b18a8ece9ac824066f0d33c9c8ffbdb556ad45dd", func := "gangway/gangwaylaw13.VectorsRoot", spec := "vectorsRoot", apart := false }
def VectorsRootSaid : Prop := vectorsRootRow.holds Try.pinned (OpenSpec.ofChange vectorsRootSpec)

/-- ITS FALSE NEIGHBOUR: 'it returns false'. Refute it at one input. -/
def vectorsRootWrong : ChangeSpec := { name := "vectorsRoot", fn := fun _ => fun
  | [d1, d2] => { results := [.lit (.bool false)], args := [d1, d2] }
  | _ => none }
def VectorsRootWrongFalsely : Prop := vectorsRootRow.holds Try.pinned (OpenSpec.ofChange vectorsRootWrong)

/-- 'gangwaylaw14.RolesAll': WHATEVER THE INPUT: true; the input reads as it did. -/
def rolesAllSpec : ChangeSpec := { name := "rolesAll", fn := fun _ => fun
  | [d1, d2, d3] => { results := [.lit (.bool true)], args := [d1, d2, d3] }
  | _ => none }
def rolesAllRow : OpenClaim := { program := "ytpegpojgdiolkaa", sum := "b733f0dee59fe5dd537a71f3b18a8ece9ac824066f0d33c9c8ffbdb556ad45dd", func := "gangway/gangwaylaw14.RolesAll", spec := "rolesAll", apart := false }
def RolesAllSaid : Prop := rolesAllRow.holds Try.pinned (OpenSpec.ofChange rolesAllSpec)

/-- ITS FALSE NEIGHBOUR: 'it returns false'. Refute it at one input. -/
def rolesAllWrong : ChangeSpec := { name := "rolesAll", fn := fun _ => fun
  | [d1, d2, d3] => { results := [.lit (.bool false)], args := [d1, d2, d3] }
  | _ => none }
def RolesAllWrongFalsely : Prop := rolesAllRow.holds Try.pinned (OpenSpec.ofChange rolesAllWrong)

/-- 'gangwaylaw14.RolesOne': WHATEVER THE INPUT: true; the input reads as it did. -/
def rolesOneSpec : ChangeSpec := { name := "rolesOne", fn := fun _ => fun
  | [d1, d2] => { results := [.lit (.bool true)], args := [d1, d2] }
  | _ => none }
def rolesOneRow : OpenClaim := { program := "ytpegpojgdiolkaa", sum := "b733f0dee59fe5dd537a71f3b18a8ece9ac824066f0d33c9c8ffbdb556ad45dd", func := "gangway/gangwaylaw14.RolesOne", spec := "rolesOne", apart := false }
def RolesOneSaid : Prop := rolesOneRow.holds Try.pinned (OpenSpec.ofChange rolesOneSpec)

/-- ITS FALSE NEIGHBOUR: 'it returns false'. Refute it at one input. -/
def rolesOneWrong : ChangeSpec := { name := "rolesOne", fn := fun _ => fun
  | [d1, d2] => { results := [.lit (.bool false)], args := [d1, d2] }
  | _ => none }
def RolesOneWrongFalsely : Prop := rolesOneRow.holds Try.pinned (OpenSpec.ofChange rolesOneWrong)

/-- 'gangwaylaw14.RolesLess': WHATEVER THE INPUT: true; the input reads as it did. -/
def rolesLessSpec : ChangeSpec := { name := "rolesLess", fn := fun _ => fun
  | [d1, d2, d3] => { results := [.lit (.bool true)], args := [d1, d2, d3] }
  | _ => none }
def rolesLessRow : OpenClaim := { program := "ytpegpojgdiolkaa", sum := "b733f0dee59fe5dd537a71f3b18a8ece9ac824066f0d33c9c8ffbdb556ad45dd", func := "gangway/gangwaylaw14.RolesLess", spec := "rolesLess", apart := false }
def RolesLessSaid : Prop := rolesLessRow.holds Try.pinned (OpenSpec.ofChange rolesLessSpec)

/-- ITS FALSE NEIGHBOUR: 'it returns false'. Refute it at one input. -/
def rolesLessWrong : ChangeSpec := { name := "rolesLess", fn := fun _ => fun
  | [d1, d2, d3] => { results := [.lit (.bool false)], args := [d1, d2, d3] }
  | _ => none }
def RolesLessWrongFalsely : Prop := rolesLessRow.holds Try.pinned (OpenSpec.ofChange rolesLessWrong)

/-- 'gangwaylaw14.RolesSays': WHATEVER THE INPUT: true; the input reads as it did. -/
def rolesSaysSpec : ChangeSpec := { name := "rolesSays", fn := fun _ => fun
  | [d1, d2] => { results := [.lit (.bool true)], args := [d1, d2] }
  | _ => none }
def rolesSaysRow : OpenClaim := { program := "ytpegpojgdiolkaa", sum := "b733f0dee59fe5dd537a71f3b18a8ece9ac824066f0d33c9c8ffbdb556ad45dd", func := "gangway/gangwaylaw14.RolesSays", spec := "rolesSays", apart := false }
def RolesSaysSaid : Prop := rolesSaysRow.holds Try.pinned (OpenSpec.ofChange rolesSaysSpec)

/-- ITS FALSE NEIGHBOUR: 'it returns false'. Refute it at one input. -/
def rolesSaysWrong : ChangeSpec := { name := "rolesSays", fn := fun _ => fun
  | [d1, d2] => { results := [.lit (.bool false)], args := [d1, d2] }
  | _ => none }
def RolesSaysWrongFalsely : Prop := rolesSaysRow.holds Try.pinned (OpenSpec.ofChange rolesSaysWrong)

/-- 'gangwaylaw14.RolesBest': WHATEVER THE INPUT: true; the input reads as it did. -/
def rolesBestSpec : ChangeSpec := { name := "rolesBest", fn := fun _ => fun
  | [d1, d2, d3] => { results := [.lit (.bool true)], args := [d1, d2, d3] }
  | _ => none }
def rolesBestRow : OpenClaim := { program := "ytpegpojgdiolkaa", sum := "b733f0dee59fe5dd537a71f3b18a8ece9ac824066f0d33c9c8ffbdb556ad45dd", func := "gangway/gangwaylaw14.RolesBest", spec := "rolesBest", apart := false }
def RolesBestSaid : Prop := rolesBestRow.holds Try.pinned (OpenSpec.ofChange rolesBestSpec)

/-- ITS FALSE NEIGHBOUR: 'it returns false'. Refute it at one input. -/
def rolesBestWrong : ChangeSpec := { name := "rolesBest", fn := fun _ => fun
  | [d1, d2, d3] => { results := [.lit (.bool false)], args := [d1, d2, d3] }
  | _ => none }
def RolesBestWrongFalsely : Prop := rolesBestRow.holds Try.pinned (OpenSpec.ofChange rolesBestWrong)

/- THE SECOND FORM. 'bulk': how many values and letters a reading holds, each counted each time it is reached (what is shared counts as often as it is met; a slice's spare places count too). A statement '..UptoSaid' is the law's where the arguments, and the package variables that the reading takes, are together of bulk at most 1048576: NARROWER than '..Said'. Prove '..Said' where nothing that the law and all that it calls make is longer than what came in: it says more and counts as full. Else prove '..UptoSaid'. A law counts once. -/
mutual
def uptoBulk {H : Type} : DataW H → Nat
  | .lit (.string bytes) => bytes.length + 1
  | .lit _ => 1
  | .nil => 1
  | .ptr d => uptoBulk d + 1
  | .slice elems spare => uptoBulkAll elems + uptoBulkAll spare + 1
  | .agg parts => uptoBulkAll parts + 1
  | .iface _ d => uptoBulk d + 1
  | .map entries => uptoBulkEntries entries + 1
  | .held _ => 1
def uptoBulkAll {H : Type} : List (DataW H) → Nat
  | [] => 0
  | d :: r => uptoBulk d + uptoBulkAll r
def uptoBulkEntries {H : Type} : List (Lit × DataW H) → Nat
  | [] => 0
  | x :: r => uptoBulkEntry x + uptoBulkEntries r
def uptoBulkEntry {H : Type} : Lit × DataW H → Nat
  | (.string bytes, d) => bytes.length + uptoBulk d + 1
  | (_, d) => uptoBulk d + 1
 end
def uptoSmall : (H : Type) → List (DataW H) → Bool := fun _ ds => decide (uptoBulkAll ds ≤ 1048576)
def OpenSpec.upto (s : _root_.Go.ChangeSpec) : _root_.Go.OpenSpec := { _root_.Go.OpenSpec.ofChange s with cond := some uptoSmall }

/-- 'gangwaylaw13.VectorsCompare', WHERE WHAT IT READS IS OF BULK AT MOST 1048576: true; the input reads as it did. -/
def vectorsCompareUptoRow : OpenClaim := { program := "ytpegpojgdiolkaa", sum := "b733f0dee59fe5dd537a71f3b18a8ece9ac824066f0d33c9c8ffbdb556ad45dd", func := "gangway/gangwaylaw13.VectorsCompare", spec := "vectorsCompare", apart := false, narrowed := true }
def VectorsCompareUptoSaid : Prop := vectorsCompareUptoRow.holds Try.pinned (OpenSpec.upto vectorsCompareSpec)

/-- 'gangwaylaw13.VectorsMake', WHERE WHAT IT READS IS OF BULK AT MOST 1048576: true; the input reads as it did. -/
def vectorsMakeUptoRow : OpenClaim := { program := "ytpegpojgdiolkaa", sum := "b733f0dee59fe5dd537a71f3b18a8ece9ac824066f0d33c9c8ffbdb556ad45dd", func := "gangway/gangwaylaw13.VectorsMake", spec := "vectorsMake", apart := false, narrowed := true }
def VectorsMakeUptoSaid : Prop := vectorsMakeUptoRow.holds Try.pinned (OpenSpec.upto vectorsMakeSpec)

/-- 'gangwaylaw13.VectorsOrder', WHERE WHAT IT READS IS OF BULK AT MOST 1048576: true; the input reads as it did. -/
def vectorsOrderUptoRow : OpenClaim := { program := "ytpegpojgdiolkaa", sum := "b733f0dee59fe5dd537a71f3b18a8ece9ac824066f0d33c9c8ffbdb556ad45dd", func := "gangway/gangwaylaw13.VectorsOrder", spec := "vectorsOrder", apart := false, narrowed := true }
def VectorsOrderUptoSaid : Prop := vectorsOrderUptoRow.holds Try.pinned (OpenSpec.upto vectorsOrderSpec)

/-- 'gangwaylaw13.VectorsFar', WHERE WHAT IT READS IS OF BULK AT MOST 1048576: true; the input reads as it did. -/
def vectorsFarUptoRow : OpenClaim := { program := "ytpegpojgdiolkaa", sum := "b733f0dee59fe5dd537a71f3b18a8ece9ac824066f0d33c9c8ffbdb556ad45dd", func := "gangway/gangwaylaw13.VectorsFar", spec := "vectorsFar", apart := false, narrowed := true }
def VectorsFarUptoSaid : Prop := vectorsFarUptoRow.holds Try.pinned (OpenSpec.upto vectorsFarSpec)

/-- 'gangwaylaw13.VectorsRoot', WHERE WHAT IT READS IS OF BULK AT MOST 1048576: true; the input reads as it did. -/
def vectorsRootUptoRow : OpenClaim := { program := "ytpegpojgdiolkaa", sum := "b733f0dee59fe5dd537a71f3b18a8ece9ac824066f0d33c9c8ffbdb556ad45dd", func := "gangway/gangwaylaw13.VectorsRoot", spec := "vectorsRoot", apart := false, narrowed := true }
def VectorsRootUptoSaid : Prop := vectorsRootUptoRow.holds Try.pinned (OpenSpec.upto vectorsRootSpec)

/-- 'gangwaylaw14.RolesAll', WHERE WHAT IT READS IS OF BULK AT MOST 1048576: true; the input reads as it did. -/
def rolesAllUptoRow : OpenClaim := { program := "ytpegpojgdiolkaa", sum := "b733f0dee59fe5dd537a71f3b18a8ece9ac824066f0d33c9c8ffbdb556ad45dd", func := "gangway/gangwaylaw14.RolesAll", spec := "rolesAll", apart := false, narrowed := true }
def RolesAllUptoSaid : Prop := rolesAllUptoRow.holds Try.pinned (OpenSpec.upto rolesAllSpec)

/-- 'gangwaylaw14.RolesOne', WHERE WHAT IT READS IS OF BULK AT MOST 1048576: true; the input reads as it did. -/
def rolesOneUptoRow : OpenClaim := { program := "ytpegpojgdiolkaa", sum := "b733f0dee59fe5dd537a71f3b18a8ece9ac824066f0d33c9c8ffbdb556ad45dd", func := "gangway/gangwaylaw14.RolesOne", spec := "rolesOne", apart := false, narrowed := true }
def RolesOneUptoSaid : Prop := rolesOneUptoRow.holds Try.pinned (OpenSpec.upto rolesOneSpec)

/-- 'gangwaylaw14.RolesLess', WHERE WHAT IT READS IS OF BULK AT MOST 1048576: true; the input reads as it did. -/
def rolesLessUptoRow : OpenClaim := { program := "ytpegpojgdiolkaa", sum := "b733f0dee59fe5dd537a71f3b18a8ece9ac824066f0d33c9c8ffbdb556ad45dd", func := "gangway/gangwaylaw14.RolesLess", spec := "rolesLess", apart := false, narrowed := true }
def RolesLessUptoSaid : Prop := rolesLessUptoRow.holds Try.pinned (OpenSpec.upto rolesLessSpec)

/-- 'gangwaylaw14.RolesSays', WHERE WHAT IT READS IS OF BULK AT MOST 1048576: true; the input reads as it did. -/
def rolesSaysUptoRow : OpenClaim := { program := "ytpegpojgdiolkaa", sum := "b733f0dee59fe5dd537a71f3b18a8ece9ac824066f0d33c9c8ffbdb556ad45dd", func := "gangway/gangwaylaw14.RolesSays", spec := "rolesSays", apart := false, narrowed := true }
def RolesSaysUptoSaid : Prop := rolesSaysUptoRow.holds Try.pinned (OpenSpec.upto rolesSaysSpec)

/-- 'gangwaylaw14.RolesBest', WHERE WHAT IT READS IS OF BULK AT MOST 1048576: true; the input reads as it did. -/
def rolesBestUptoRow : OpenClaim := { program := "ytpegpojgdiolkaa", sum := "b733f0dee59fe5dd537a71f3b18a8ece9ac824066f0d33c9c8ffbdb556ad45dd", func := "gangway/gangwaylaw14.RolesBest", spec := "rolesBest", apart := false, narrowed := true }
def RolesBestUptoSaid : Prop := rolesBestUptoRow.holds Try.pinned (OpenSpec.upto rolesBestSpec)

end Rows
end Go.Proofs.Ytpegpojgdiolkaa

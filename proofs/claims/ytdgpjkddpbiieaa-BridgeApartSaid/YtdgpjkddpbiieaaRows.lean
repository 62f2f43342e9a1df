/-
  No cell of these rows narrows 'for every input' (looked for: loops, veiled, ifaces, maps, wideKeys, modest, calm, conditions, laid).
  DERIVED. THE GIVEN ROWS OF THIS SEAT. 5 by the template 'for every input the law returns true; each argument reads behind the call as it read before'; 0 by the template 'total and deterministic' (their statements: YtdgpjkddpbiieaaTotals.lean).
  GIVEN WITH THE SEED: the statements are not yours to turn. If you find one false, say at which input.
  Laid BY PROGRAM, IN A SANDBOX (cutbox-rows.mjs): the forced cells as the released guide's own fill.sh prints them over the translation 02f0c01ade88b781… (all of the seat's roots in one cut). By AI agents, Wed Nov 11 2026. No macro, syntax, notation, axiom, sorry.
-/
import Derived.Test.YtdgpjkddpbiieaaChecked
import GoSem.Claim
import GoSem.ClaimJoined
import GoSem.ClaimMapViews
import Derived.JoinedTies
import Derived.KernelRfl
namespace Go.Proofs.Ytdgpjkddpbiieaa
/- THE CELL 'sum', in the pinned program and in every row, IS THE sha256 OF THE DUMP (.gsa) THAT YtdgpjkddpbiieaaProg.lean LOADS. Nothing in Lean hashes anything: it is a label: what it is worth is what the hold of that sum in a sandbox is worth. -/
noncomputable def Try.pinned : Pinned := { name := "ytdgpjkddpbiieaa", sum := "02f0c01ade88b7818802cdeed27140c28004b75d35757dca2592282114744a04", checked := Try.checked }
namespace Rows
def none {H : Type} : Left H := { results := [], args := [] }

/-- 'gangwaylaw17.BridgeApart': WHATEVER THE INPUT: true; the input reads as it did. -/
def bridgeApartSpec : ChangeSpec := { name := "bridgeApart", fn := fun _ => fun
  | [d1, d2] => { results := [.lit (.bool true)], args := [d1, d2] }
  | _ => none }
def bridgeApartRow : OpenClaim := { program := "ytdgpjkddpbiieaa", sum := "02f0c01ade88b7818802cdeed27140c28004b75d35757dca2592282114744a04", func := "gangway/gangwaylaw17.BridgeApart", spec := "bridgeApart", inPlace := ["slices.overlaps[gangway/api.Entry]"], unfollowed := true, recurses := true, apart := false }
def BridgeApartSaid : Prop := bridgeApartRow.holds Try.pinned (OpenSpec.ofChange bridgeApartSpec)

/-- ITS FALSE NEIGHBOUR: 'it returns false'. Refute it at one input. -/
def bridgeApartWrong : ChangeSpec := { name := "bridgeApart", fn := fun _ => fun
  | [d1, d2] => { results := [.lit (.bool false)], args := [d1, d2] }
  | _ => none }
def BridgeApartWrongFalsely : Prop := bridgeApartRow.holds Try.pinned (OpenSpec.ofChange bridgeApartWrong)

/-- 'gangwaylaw17.BridgeTalks': WHATEVER THE INPUT: true; the input reads as it did. -/
def bridgeTalksSpec : ChangeSpec := { name := "bridgeTalks", fn := fun _ => fun
  | [d1, d2, d3] => { results := [.lit (.bool true)], args := [d1, d2, d3] }
  | _ => none }
def bridgeTalksRow : OpenClaim := { program := "ytdgpjkddpbiieaa", sum := "02f0c01ade88b7818802cdeed27140c28004b75d35757dca2592282114744a04", func := "gangway/gangwaylaw17.BridgeTalks", spec := "bridgeTalks", inPlace := ["slices.overlaps[gangway/api.Entry]"], unfollowed := true, recurses := true, apart := false }
def BridgeTalksSaid : Prop := bridgeTalksRow.holds Try.pinned (OpenSpec.ofChange bridgeTalksSpec)

/-- ITS FALSE NEIGHBOUR: 'it returns false'. Refute it at one input. -/
def bridgeTalksWrong : ChangeSpec := { name := "bridgeTalks", fn := fun _ => fun
  | [d1, d2, d3] => { results := [.lit (.bool false)], args := [d1, d2, d3] }
  | _ => none }
def BridgeTalksWrongFalsely : Prop := bridgeTalksRow.holds Try.pinned (OpenSpec.ofChange bridgeTalksWrong)

/-- 'gangwaylaw17.BridgeForgets': WHATEVER THE INPUT: true; the input reads as it did. -/
def bridgeForgetsSpec : ChangeSpec := { name := "bridgeForgets", fn := fun _ => fun
  | [d1, d2] => { results := [.lit (.bool true)], args := [d1, d2] }
  | _ => none }
def bridgeForgetsRow : OpenClaim := { program := "ytdgpjkddpbiieaa", sum := "02f0c01ade88b7818802cdeed27140c28004b75d35757dca2592282114744a04", func := "gangway/gangwaylaw17.BridgeForgets", spec := "bridgeForgets", inPlace := ["slices.overlaps[gangway/api.Entry]"], unfollowed := true, recurses := true, apart := false }
def BridgeForgetsSaid : Prop := bridgeForgetsRow.holds Try.pinned (OpenSpec.ofChange bridgeForgetsSpec)

/-- ITS FALSE NEIGHBOUR: 'it returns false'. Refute it at one input. -/
def bridgeForgetsWrong : ChangeSpec := { name := "bridgeForgets", fn := fun _ => fun
  | [d1, d2] => { results := [.lit (.bool false)], args := [d1, d2] }
  | _ => none }
def BridgeForgetsWrongFalsely : Prop := bridgeForgetsRow.holds Try.pinned (OpenSpec.ofChange bridgeForgetsWrong)

/-- 'gangwaylaw17.BridgeNews': WHATEVER THE INPUT: true; the input reads as it did. -/
def bridgeNewsSpec : ChangeSpec := { name := "bridgeNews", fn := fun _ => fun
  | [d] => { results := [.lit (.bool true)], args := [d] }
  | _ => none }
def bridgeNewsRow : OpenClaim := { program := "ytdgpjkddpbiieaa", sum := "02f0c01ade88b7818802cdeed27140c28004b75d35757dca2592282114744a04", func := "gangway/gangwaylaw17.BridgeNews", spec := "bridgeNews", inPlace := ["slices.overlaps[gangway/api.Entry]"], unfollowed := true, recurses := true, apart := false }
def BridgeNewsSaid : Prop := bridgeNewsRow.holds Try.pinned (OpenSpec.ofChange bridgeNewsSpec)

/-- ITS FALSE NEIGHBOUR: 'it returns false'. Refute it at one input. -/
def bridgeNewsWrong : ChangeSpec := { name := "bridgeNews", fn := fun _ => fun
  | [d] => { results := [.lit (.bool false)], args := [d] }
  | _ => none }
def BridgeNewsWrongFalsely : Prop := bridgeNewsRow.holds Try.pinned (OpenSpec.ofChange bridgeNewsWrong)

/-- 'gangwaylaw17.BridgeShuts': WHATEVER THE INPUT: true; the input reads as it did. -/
def bridgeShutsSpec : ChangeSpec := { name := "bridgeShuts", fn := fun _ => fun
  | [d1, d2] => { results := [.lit (.bool true)], args := [d1, d2] }
  | _ => none }
def bridgeShutsRow : OpenClaim := { program := "ytdgpjkddpbiieaa", sum := "02f0c01ade88b7818802cdeed27140c28004b75d35757dca2592282114744a04", func := "gangway/gangwaylaw17.BridgeShuts", spec := "bridgeShuts", inPlace := ["slices.overlaps[gangway/api.Entry]"], unfollowed := true, recurses := true, apart := false }
def BridgeShutsSaid : Prop := bridgeShutsRow.holds Try.pinned (OpenSpec.ofChange bridgeShutsSpec)

/-- ITS FALSE NEIGHBOUR: 'it returns false'. Refute it at one input. -/
def bridgeShutsWrong : ChangeSpec := { name := "bridgeShuts", fn := fun _ => fun
  | [d1, d2] => { results := [.lit (.bool false)], args := [d1, d2] }
  | _ => none }
def BridgeShutsWrongFalsely : Prop := bridgeShutsRow.holds Try.pinned (OpenSpec.ofChange bridgeShutsWrong)

/- THE SECOND FORM. 'bulk': how many values and letters a reading holds, each counted each time it is reached (what is shared counts as often as it is met; a slice's spare places count too). A statement '..UptoSaid' is the law's where the arguments, and the package variables that the reading takes, are together of bulk at most 1048576: NARROWER than '..Said'. Prove '..Said' where nothing that the law and all that it calls make is longer than what came in: it says more and counts as full. Else prove '..UptoSaid'. A law counts once. -/
mutual
def uptoBulk {H : Type} : DataW H → Nat
  | .lit (.string bytes) => bytes.length + 1
  | .lit _ => 1
  | .nil => 1
  | .ptr d => uptoBulk d + 1
  | .slice elems spare => uptoBulkAll elems + uptoBulkAll spare + 1
  | .agg parts => uptoBulkAll parts + 1
  | .iface _ d => uptoBulk d + 1
  | .map entries => uptoBulkEntries entries + 1
  | .held _ => 1
def uptoBulkAll {H : Type} : List (DataW H) → Nat
  | [] => 0
  | d :: r => uptoBulk d + uptoBulkAll r
def uptoBulkEntries {H : Type} : List (Lit × DataW H) → Nat
  | [] => 0
  | x :: r => uptoBulkEntry x + uptoBulkEntries r
def uptoBulkEntry {H : Type} : Lit × DataW H → Nat
  | (.string bytes, d) => bytes.length + uptoBulk d + 1
  | (_, d) => uptoBulk d + 1
 end
def uptoSmall : (H : Type) → List (DataW H) → Bool := fun _ ds => decide (uptoBulkAll ds ≤ 1048576)
def OpenSpec.upto (s : _root_.Go.ChangeSpec) : _root_.Go.OpenSpec := { _root_.Go.OpenSpec.ofChange s with cond := some uptoSmall }

/-- 'gangwaylaw17.BridgeApart', WHERE WHAT IT READS IS OF BULK AT MOST 1048576: true; the input reads as it did. -/
def bridgeApartUptoRow : OpenClaim := { program := "ytdgpjkddpbiieaa", sum := "02f0c01ade88b7818802cdeed27140c28004b75d35757dca2592282114744a04", func := "gangway/gangwaylaw17.BridgeApart", spec := "bridgeApart", inPlace := ["slices.overlaps[gangway/api.Entry]"], unfollowed := true, recurses := true, apart := false, narrowed := true }
def BridgeApartUptoSaid : Prop := bridgeApartUptoRow.holds Try.pinned (OpenSpec.upto bridgeApartSpec)

/-- 'gangwaylaw17.BridgeTalks', WHERE WHAT IT READS IS OF BULK AT MOST 1048576: true; the input reads as it did. -/
def bridgeTalksUptoRow : OpenClaim := { program := "ytdgpjkddpbiieaa", sum := "02f0c01ade88b7818802cdeed27140c28004b75d35757dca2592282114744a04", func := "gangway/gangwaylaw17.BridgeTalks", spec := "bridgeTalks", inPlace := ["slices.overlaps[gangway/api.Entry]"], unfollowed := true, recurses := true, apart := false, narrowed := true }
def BridgeTalksUptoSaid : Prop := bridgeTalksUptoRow.holds Try.pinned (OpenSpec.upto bridgeTalksSpec)

/-- 'gangwaylaw17.BridgeForgets', WHERE WHAT IT READS IS OF BULK AT MOST 1048576: true; the input reads as it did. -/
def bridgeForgetsUptoRow : OpenClaim := { program := "ytdgpjkddpbiieaa", sum := "02f0c01ade88b7818802cdeed27140c28004b75d35757dca2592282114744a04", func := "gangway/gangwaylaw17.BridgeForgets", spec := "bridgeForgets", inPlace := ["slices.overlaps[gangway/api.Entry]"], unfollowed := true, recurses := true, apart := false, narrowed := true }
def BridgeForgetsUptoSaid : Prop := bridgeForgetsUptoRow.holds Try.pinned (OpenSpec.upto bridgeForgetsSpec)

/-- 'gangwaylaw17.BridgeNews', WHERE WHAT IT READS IS OF BULK AT MOST 1048576: true; the input reads as it did. -/
def bridgeNewsUptoRow : OpenClaim := { program := "ytdgpjkddpbiieaa", sum := "02f0c01ade88b7818802cdeed27140c28004b75d35757dca2592282114744a04", func := "gangway/gangwaylaw17.BridgeNews", spec := "bridgeNews", inPlace := ["slices.overlaps[gangway/api.Entry]"], unfollowed := true, recurses := true, apart := false, narrowed := true }
def BridgeNewsUptoSaid : Prop := bridgeNewsUptoRow.holds Try.pinned (OpenSpec.upto bridgeNewsSpec)

/-- 'gangwaylaw17.BridgeShuts', WHERE WHAT IT READS IS OF BULK AT MOST 1048576: true; the input reads as it did. -/
def bridgeShutsUptoRow : OpenClaim := { program := "ytdgpjkddpbiieaa", sum := "02f0c01ade88b7818802cdeed27140c28004b75d35757dca2592282114744a04", func := "gangway/gangwaylaw17.BridgeShuts", spec := "bridgeShuts", inPlace := ["slices.overlaps[gangway/api.Entry]"], unfollowed := true, recurses := true, apart := false, narrowed := true }
def BridgeShutsUptoSaid : Prop := bridgeShutsUptoRow.holds Try.pinned (OpenSpec.upto bridgeShutsSpec)

end Rows
end Go.Proofs.Ytdgpjkddpbiieaa

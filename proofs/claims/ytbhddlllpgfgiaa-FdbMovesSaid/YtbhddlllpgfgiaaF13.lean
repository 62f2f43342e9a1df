/- DERIVED. Layer 11: FdbMoves: the call. No condition. -/
import Derived.Test.YtbhddlllpgfgiaaF12
namespace Go.Proofs.Ytbhddlllpgfgiaa
open Go.RowKit Go.Sx Go.Proofs.YtbhddlllpgfgiaaTy Go.Proofs.YtbhddlllpgfgiaaOp
set_option linter.unusedVariables false
set_option linter.unusedSimpArgs false
set_option maxRecDepth 100000
attribute [local irreducible] Oper.wp Code.wp wpList wpAnyH Calls bodyPost Exit.then Exit.inBlock Code.rounds
set_option maxHeartbeats 1000000
def opOf (x : Int × Int × Int × (Int × Int) × Int) : Op11 := ⟨x.1, x.2.1, x.2.2.1, x.2.2.2.1.1, x.2.2.2.1.2, x.2.2.2.2⟩
theorem ops_cells {W : World} {x : T35} {A : Option Addr} {n c : Nat} (K : kd35.K W x [.slice A n c]) : n = (x.map opOf).length ∧ (x.map opOf).length ≤ c ∧ Rd W A ((x.map opOf).flatMap Op11.cells) := by
  obtain ⟨A', c', rs, e, hle, hr, hR⟩ := K
  cases e
  rw [Kn.Rows.flat (f := fun x => Op11.cells (opOf x)) (fun x r h => by obtain ⟨_, _, rfl, rfl, _, _, rfl, rfl, _, _, rfl, rfl, _, _, rfl, ⟨_, _, rfl, rfl, rfl⟩, rfl⟩ := h; rfl) x rs hr] at hR
  refine ⟨by simp, by simpa using hle, ?_⟩
  rwa [List.flatMap_map]
theorem fdbMoves_call (W : World) (x0 : T23) (cs0 : List Value) (K0 : kd23.K W x0 cs0) (w0 : wf23 x0) (x1 : T35) (A1 : Option Addr) (len1 cap1 : Nat) (K1 : kd35.K W x1 [.slice A1 len1 cap1]) (w1 : wf35 x1) : Calls Try.prog 4 #[.agg cs0.toArray, .slice A1 len1 cap1] W fun e w' => ∃ r, e = .returned r ∧ r = .bool true ∧ Sep W w' [] := by
  obtain ⟨rfl, hc, hR⟩ := ops_cells K1
  rw [keep_cells K0]
  exact moves_law ⟨x0.1, x0.2.1, x0.2.2.1, x0.2.2.2⟩ A1 cap1 _ W hc hR (by rw [List.length_map]; exact w1.1)
end Go.Proofs.Ytbhddlllpgfgiaa

/- DERIVED. The law VectorsMake at readable data. No condition. -/
import Derived.Test.YtpegpojgdiolkaaV11
import Derived.Test.YtpegpojgdiolkaaOp
namespace Go.Proofs.Ytpegpojgdiolkaa
open Go.RowKit Go.Sx Go.Proofs.YtpegpojgdiolkaaTy Go.Proofs.YtpegpojgdiolkaaOp
set_option linter.unusedVariables false
set_option linter.unusedSimpArgs false
set_option maxRecDepth 100000
attribute [local irreducible] Oper.wp Code.wp wpList wpAnyH Calls bodyPost Exit.then Exit.inBlock Code.rounds
set_option maxHeartbeats 1000000
def vecOf (x : T24) : Vec := ⟨x.1, x.2.1, x.2.2.1, x.2.2.2.1, x.2.2.2.2⟩
theorem vecs_cells {W : World} {x : T29} {A : Option Addr} {n c : Nat} (K : kd29.K W x [.slice A n c]) : n = (x.map vecOf).length ∧ (x.map vecOf).length ≤ c ∧ Rd W A ((x.map vecOf).flatMap Vec.cells) := by
  obtain ⟨A', c', rs, e, hle, hr, hR⟩ := K
  cases e
  rw [Kn.Rows.flat (f := fun x => Vec.cells (vecOf x)) (fun x r h => vec_cells h) x rs hr] at hR
  refine ⟨by simp, by simpa using hle, ?_⟩
  rwa [List.flatMap_map]
theorem vecs_ok {x : T29} (w : wf29 x) : ∀ v ∈ x.map vecOf, v.ok := fun v hv => by
  obtain ⟨y, hy, rfl⟩ := List.mem_map.1 hv
  have := w.2 y hy
  exact ⟨wf64 this.2.1, wf64 this.2.2.2.1, wf64 this.2.2.2.2⟩
theorem bpdu_cells {w : World} {x : T31} {cs : List Value} (h : kd31.K w x cs) : cs = [.int .i64 x.1, .bool x.2.1, .bool x.2.2.1, .bool x.2.2.2.1, .bool x.2.2.2.2.1, .bool x.2.2.2.2.2.1, .bool x.2.2.2.2.2.2.1, .int .i64 x.2.2.2.2.2.2.2.1, .int .u64 x.2.2.2.2.2.2.2.2.1, .int .i64 x.2.2.2.2.2.2.2.2.2.1, .int .u64 x.2.2.2.2.2.2.2.2.2.2.1, .int .i64 x.2.2.2.2.2.2.2.2.2.2.2.1, .int .i64 x.2.2.2.2.2.2.2.2.2.2.2.2.1, .int .i64 x.2.2.2.2.2.2.2.2.2.2.2.2.2.1, .int .i64 x.2.2.2.2.2.2.2.2.2.2.2.2.2.2.1, .int .i64 x.2.2.2.2.2.2.2.2.2.2.2.2.2.2.2] := by
  obtain ⟨_, _, rfl, rfl, _, _, rfl, rfl, _, _, rfl, rfl, _, _, rfl, rfl, _, _, rfl, rfl, _, _, rfl, rfl, _, _, rfl, rfl, _, _, rfl, rfl, _, _, rfl, rfl, _, _, rfl, rfl, _, _, rfl, rfl, _, _, rfl, rfl, _, _, rfl, rfl, _, _, rfl, rfl, _, _, rfl, rfl, rfl⟩ := h
  rfl
theorem vectorsMake_call (W : World) (x0 : T29) (A0 : Option Addr) (len0 cap0 : Nat) (K0 : kd29.K W x0 [.slice A0 len0 cap0]) (w0 : wf29 x0) (a1 : Int) (w1 : (Lit.int .i64 a1).wf = true) (x2 : T31) (cs2 : List Value) (K2 : kd31.K W x2 cs2) (w2 : wf31 x2) : Calls Try.prog 4 #[.slice A0 len0 cap0, .int .i64 a1, .agg cs2.toArray] W fun e w' => ∃ r, e = .returned r ∧ r = .bool true ∧ Sep W w' [] := by
  obtain rfl := bpdu_cells K2
  obtain ⟨rfl, hc, hR⟩ := vecs_cells K0
  exact make_law A0 cap0 _ a1 _ _ _ _ _ _ _ _ _ _ _ _ _ _ _ _ W hc hR (vecs_ok w0) rfl
end Go.Proofs.Ytpegpojgdiolkaa

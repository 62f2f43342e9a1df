/- DERIVED. The law VectorsCompare at readable data. No condition. -/
import Derived.Test.YtpegpojgdiolkaaV5
import Derived.Test.YtpegpojgdiolkaaOp
namespace Go.Proofs.Ytpegpojgdiolkaa
open Go.RowKit Go.Sx Go.Proofs.YtpegpojgdiolkaaTy Go.Proofs.YtpegpojgdiolkaaOp
set_option linter.unusedVariables false
set_option linter.unusedSimpArgs false
theorem wf64 {n : Int} (h : (Lit.int .i64 n).wf = true) : in64 n := by
  simp [Lit.wf, IntKind.min, IntKind.max, IntKind.bits, IntKind.signed] at h
  unfold in64
  omega
theorem vec_cells {w : World} {x : T24} {cs : List Value} (h : kd24.K w x cs) : cs = [.int .u64 x.1, .int .i64 x.2.1, .int .u64 x.2.2.1, .int .i64 x.2.2.2.1, .int .i64 x.2.2.2.2] := by
  obtain ⟨_, _, rfl, rfl, _, _, rfl, rfl, _, _, rfl, rfl, _, _, rfl, rfl, rfl⟩ := h
  rfl
theorem vectorsCompare_call (W : World) (x0 : T24) (cs0 : List Value) (K0 : kd24.K W x0 cs0) (w0 : wf24 x0) (x1 : T24) (cs1 : List Value) (K1 : kd24.K W x1 cs1) (w1 : wf24 x1) : Calls Try.prog 3 #[.agg cs0.toArray, .agg cs1.toArray] W fun e w' => ∃ r, e = .returned r ∧ r = .bool true ∧ Sep W w' [] := by
  obtain rfl := vec_cells K0
  obtain rfl := vec_cells K1
  exact compare_law _ _ _ _ _ _ _ _ _ _ W (wf64 w0.2.1) (wf64 w0.2.2.2.1) (wf64 w0.2.2.2.2) (wf64 w1.2.1) (wf64 w1.2.2.2.1) (wf64 w1.2.2.2.2)
end Go.Proofs.Ytpegpojgdiolkaa

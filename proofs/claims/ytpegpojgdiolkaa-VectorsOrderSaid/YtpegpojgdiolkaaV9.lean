/- DERIVED. The law VectorsOrder at readable data. No condition. -/
import Derived.Test.YtpegpojgdiolkaaV8
import Derived.Test.YtpegpojgdiolkaaOp
namespace Go.Proofs.Ytpegpojgdiolkaa
open Go.RowKit Go.Sx Go.Proofs.YtpegpojgdiolkaaTy Go.Proofs.YtpegpojgdiolkaaOp
set_option linter.unusedVariables false
set_option linter.unusedSimpArgs false
set_option maxRecDepth 100000
attribute [local irreducible] Oper.wp Code.wp wpList wpAnyH Calls bodyPost Exit.then Exit.inBlock Code.rounds
set_option maxHeartbeats 1000000
theorem vectorsOrder_call (W : World) (x0 : T24) (cs0 : List Value) (K0 : kd24.K W x0 cs0) (w0 : wf24 x0) (x1 : T24) (cs1 : List Value) (K1 : kd24.K W x1 cs1) (w1 : wf24 x1) (x2 : T24) (cs2 : List Value) (K2 : kd24.K W x2 cs2) (w2 : wf24 x2) : Calls Try.prog 5 #[.agg cs0.toArray, .agg cs1.toArray, .agg cs2.toArray] W fun e w' => ∃ r, e = .returned r ∧ r = .bool true ∧ Sep W w' [] := by
  obtain rfl := vec_cells K0
  obtain rfl := vec_cells K1
  obtain rfl := vec_cells K2
  exact order_law _ _ _ _ _ _ _ _ _ _ _ _ _ _ _ W (wf64 w0.2.1) (wf64 w0.2.2.2.1) (wf64 w0.2.2.2.2) (wf64 w1.2.1) (wf64 w1.2.2.2.1) (wf64 w1.2.2.2.2) (wf64 w2.2.1) (wf64 w2.2.2.2.1) (wf64 w2.2.2.2.2)
end Go.Proofs.Ytpegpojgdiolkaa

/- DERIVED. The law WiresOrder at readable data. No condition. -/
import Derived.Test.YtgfhpkoabliamaaW9
namespace Go.Proofs.Ytgfhpkoabliamaa
open Go.RowKit Go.Sx Go.Proofs.YtgfhpkoabliamaaTy Go.Proofs.YtgfhpkoabliamaaOp
set_option linter.unusedVariables false
theorem wiresOrder_call (W : World) (x0 : T29) (A0 : Option Addr) (len0 cap0 : Nat) (K0 : kd29.K W x0 [.slice A0 len0 cap0]) (w0 : wf29 x0) (a1 : Int) (w1 : (Lit.int .i64 a1).wf = true) (a2 : Int) (w2 : (Lit.int .i64 a2).wf = true) : Calls Try.prog 4 #[.slice A0 len0 cap0, .int .i64 a1, .int .i64 a2] W fun e w' => ∃ r, e = .returned r ∧ r = .bool true ∧ Sep W w' [] := by
  obtain ⟨rfl, hc, hR⟩ := pkts_cells K0
  exact order_law A0 cap0 _ a1 a2 W hc hR (by rw [List.length_map]; exact w0.1)
end Go.Proofs.Ytgfhpkoabliamaa

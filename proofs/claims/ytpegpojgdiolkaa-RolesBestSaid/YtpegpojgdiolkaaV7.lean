/- DERIVED. The law VectorsRoot. No condition. -/
import Derived.Test.YtpegpojgdiolkaaV6
import Derived.Test.YtpegpojgdiolkaaOp
namespace Go.Proofs.Ytpegpojgdiolkaa
open Go.RowKit Go.Sx Go.Proofs.YtpegpojgdiolkaaTy Go.Proofs.YtpegpojgdiolkaaOp
set_option linter.unusedVariables false
set_option linter.unusedSimpArgs false
set_option maxRecDepth 100000
attribute [local irreducible] Oper.wp Code.wp wpList wpAnyH Calls bodyPost Exit.then Exit.inBlock Code.rounds
set_option maxHeartbeats 1000000
theorem root_law (r c b p o r' c' b' p' o' : Int) (w0 : World) (hc : in64 c) (hp : in64 p) (ho : in64 o) (hc' : in64 c') (hp' : in64 p') (ho' : in64 o') : Calls Try.prog 7 #[.agg #[.int .u64 r, .int .i64 c, .int .u64 b, .int .i64 p, .int .i64 o], .agg #[.int .u64 r', .int .i64 c', .int .u64 b', .int .i64 p', .int .i64 o']] w0 fun e w' => ∃ rr, e = .returned rr ∧ rr = .bool true ∧ Sep w0 w' [] := by
  refine enter (args := [.agg #[.int .u64 r, .int .i64 c, .int .u64 b, .int .i64 p, .int .i64 o], .agg #[.int .u64 r', .int .i64 c', .int .u64 b', .int .i64 p', .int .i64 o']]) 59 Try.func7 rfl rfl rfl ?_
  intro a hE hS
  repeat' (first | (refine wl hE rfl ?_; first | ((first | refine qm hE ?_ | refine qa hE ?_ | refine qb hE ?_ | refine qf hE ?_ | refine ql hE hS ?_ | refine qn hE ?_ | refine qe hE ?_ | refine qpt hE ?_ | refine qpf hE ?_ | refine qu hE ?_ | refine qn1 hE ?_ | refine qns hE ?_ | refine qL hE hS ?_ | refine qbu hE ?_ | refine qF hE ?_ | refine qnf hE ?_ | refine qmin hE ?_ | refine qmax hE ?_ | refine qssh hE ?_ | refine qix1 hE ?_ | refine qix hE ?_ | refine qia hE ?_ | refine qbA hE ?_ | refine qbE hE ?_ | refine qbN hE ?_ | refine qcv hE ?_ | refine qfd1 hE ?_ | refine qfd hE ?_ | refine qi hE (fun _ => rfl) ?_ | refine qlr hE hS ?_); clear hE; clear a; intro a hE) | (refine qst hE hS ?_; clear hS; intro w hS) | ((first | refine qal hE hS ?_ | refine qbx hE hS ?_ | refine qbs hE hS ?_ | refine qbs0 hE hS ?_); clear hE hS; clear a; intro g a w hE hS) | (refine qc hE (fixed_s _) ?_; clear hE; clear a; rintro _ a w ⟨rfl, hS1⟩ hE; replace hS := hS.then hS1; clear hS1) | (refine qc hE (compare5_s _ _ _ _ _ _ _ _ _ _ _ hc hp ho hc' hp' ho') ?_; clear hE; clear a; rintro _ a w ⟨rfl, hS1⟩ hE; replace hS := hS.then hS1; clear hS1)) | refine c_reg ?_ | refine wl_nil ?_ | refine then_n ?_ | refine c_block ?_ | refine c_skip ?_ | refine c_exit ?_ | refine c_ret ?_ | refine then_r ?_ | refine then_e ?_ | refine inb_n ?_ | refine inb_r ?_ | refine inb_e ?_ | refine inb_o rfl ?_ | refine c_cond_t hE rfl ?_ | refine c_cond_f hE rfl ?_ | refine c_rnd ?_ | refine c_seq ?_ | (refine wl_skip hE rfl rfl rfl ?_; clear hE; clear a; intro a hE) | ((refine wl_splitg hE rfl rfl ?_ ?_) <;> (clear hE; intro hb hE; (first | replace hb := of_decide_eq_true hb | replace hb := of_decide_eq_false hb | (simp only [Bool.not_eq_true', Bool.not_eq_false', decide_eq_true_eq, decide_eq_false_iff_not] at hb) | skip); try (exfalso; omega; done))) | ((refine c_cond hE rfl ?_ ?_) <;> (intro hb; (first | replace hb := of_decide_eq_true hb | replace hb := of_decide_eq_false hb | (simp only [Bool.not_eq_true', Bool.not_eq_false', decide_eq_true_eq, decide_eq_false_iff_not] at hb) | skip); try (exfalso; omega; done))))
  all_goals (refine p_ret hE rfl rfl ⟨_, rfl, ?_, hS.clean⟩; clear hE hS; first | rfl | grind [cmp5, cmp10, cmpI])
theorem vectorsRoot_call (W : World) (x0 : T24) (cs0 : List Value) (K0 : kd24.K W x0 cs0) (w0 : wf24 x0) (x1 : T24) (cs1 : List Value) (K1 : kd24.K W x1 cs1) (w1 : wf24 x1) : Calls Try.prog 7 #[.agg cs0.toArray, .agg cs1.toArray] W fun e w' => ∃ r, e = .returned r ∧ r = .bool true ∧ Sep W w' [] := by
  obtain rfl := vec_cells K0
  obtain rfl := vec_cells K1
  exact root_law _ _ _ _ _ _ _ _ _ _ W (wf64 w0.2.1) (wf64 w0.2.2.2.1) (wf64 w0.2.2.2.2) (wf64 w1.2.1) (wf64 w1.2.2.2.1) (wf64 w1.2.2.2.2)
end Go.Proofs.Ytpegpojgdiolkaa

/- DERIVED. Layer 16: the ports that have a VLAN (a range over a function). No condition. -/
import Derived.Test.YtemjajjkljphfaaC5
import Derived.Test.YtemjajjkljphfaaSf
import Derived.RangeFuncBox
import Derived.RangeFuncNested
import Derived.RangeFuncLeaves
import Derived.Shelf.Abstract
import Derived.WalkKit
import Derived.OwnWalkIn
import Derived.TacticsInMore
import Derived.LoopNIn
import Derived.LoopIn
import Derived.Maps.AppendAt
import Derived.Maps.OwnIn
namespace Go.Proofs.Ytemjajjkljphfaa
open Go.RowKit Go.Shelf Go.Sx Go.Proofs.YtemjajjkljphfaaTy
set_option linter.unusedVariables false
set_option linter.unusedSimpArgs false
set_option maxRecDepth 100000
attribute [local irreducible] Oper.wp Code.wp wpList wpAnyH Calls bodyPost Exit.then Exit.inBlock Code.rounds
set_option maxHeartbeats 1000000
structure Cfg where
  tr : Bool
  pv : Int
  A : Option Addr
  c : Nat
  xs : List Int
def Cfg.cells (x : Cfg) : List Value := [.bool x.tr, .int .i64 x.pv, .slice x.A x.xs.length x.c]
def C0 : Cfg := ⟨false, 0, none, 0, []⟩
theorem clen (x : Cfg) : x.cells.length = 3 := rfl
/-- What can be read of a port. -/
def CfgR (w : World) (x : Cfg) : Prop := Rd w x.A (ints x.xs) ∧ x.xs.length ≤ 9223372036854775807
theorem CfgR.move {w0 w : World} {L : List Asn} {x : Cfg} (h : CfgR w0 x) (hS : Sep w0 w L) : CfgR w x := ⟨h.1.move hS, h.2⟩
def hasC (x : Cfg) (vid : Int) : Bool := hasP x.tr x.pv x.xs vid
/-- The numbers of those that have it, so far. -/
def portsTo (l : List Cfg) (vid : Int) : Nat → List Int
  | 0 => []
  | i + 1 => if hasC (l.getD i C0) vid = true then portsTo l vid i ++ [(i : Int) + 1] else portsTo l vid i
theorem portsTo_len (l : List Cfg) (vid : Int) : ∀ i, (portsTo l vid i).length ≤ i
  | 0 => by simp [portsTo]
  | i + 1 => by
    have := portsTo_len l vid i
    simp only [portsTo]
    split
    · rw [List.length_append, List.length_singleton]; omega
    · omega
theorem getD_memC {l : List Cfg} {i : Nat} (h : i < l.length) : l.getD i C0 ∈ l := by simp [h]
theorem having_s (A : Option Addr) (n c : Nat) (vid : Int) (w0 : World) : Calls Try.prog 27 #[.slice A n c, .int .i64 vid] w0 fun e w' => ∃ r, e = .returned r ∧ ∃ b2 b3, r = .func (.func 29) #[] #[.pointer (some ⟨b2, 0, none⟩), .pointer (some ⟨b3, 0, none⟩)] ∧ Sep w0 w' [blk b3 [.int .i64 vid] 3, blk b2 [.slice A n c] 39] := by
  refine enter (args := [.slice A n c, .int .i64 vid]) 6 Try.func27 rfl rfl rfl ?_
  intro a hE hS
  repeat' (first | (refine c_regI 0 ?_; all_goals (refine wl hE rfl ?_; first | ((first | refine qbx hE hS ?_); clear hE hS; clear a; intro g a w hE hS)); all_goals (refine wl hE rfl ?_; first | ((first | refine qbx hE hS ?_); clear hE hS; clear a; intro g a w hE hS)); all_goals (refine wl hE rfl ?_; first | ((first | refine qa hE ?_); clear hE; clear a; intro a hE))) | (refine c_regI 1 ?_; all_goals (refine wl hE rfl ?_; first | ((refine qmf hE ?_; clear hE; clear a; intro a hE))); all_goals (refine wl hE rfl ?_; first | ((first | refine qa hE ?_); clear hE; clear a; intro a hE))) | (refine wl hE rfl ?_; first | ((first | refine qm hE ?_ | refine qa hE ?_ | refine qb hE ?_ | refine qFF hE ?_ | refine qf hE ?_ | refine ql hE hS ?_ | refine qn hE ?_ | refine qe hE ?_ | refine qpt hE ?_ | refine qpf hE ?_ | refine qu hE ?_ | refine qn1 hE ?_ | refine qns hE ?_ | refine qL hE hS ?_ | refine qbu hE ?_ | refine qF hE ?_ | refine qnf hE ?_ | refine qmin hE ?_ | refine qmax hE ?_ | refine qssh hE ?_ | refine qix1 hE ?_ | refine qix hE ?_ | refine qia hE ?_ | refine qbA hE ?_ | refine qbE hE ?_ | refine qbN hE ?_ | refine qcv hE ?_ | refine qfd1 hE ?_ | refine qfd hE ?_ | refine qi hE (fun _ => rfl) ?_ | refine qlr hE hS ?_ | refine qb2 hE ?_ | refine qng hE ?_ | refine qpn hE ?_); clear hE; clear a; intro a hE) | ((first | refine qst0 hE hS ?_ | refine qst hE hS ?_); clear hS; intro w hS) | ((first | refine qal hE hS ?_ | refine qbx hE hS ?_ | refine qbs1 hE hS ?_ | refine qbs hE hS ?_ | refine qbs0 hE hS ?_); clear hE hS; clear a; intro g a w hE hS) | ((refine qmf hE ?_; clear hE; clear a; intro a hE))) | refine c_reg ?_ | refine wl_nil ?_ | refine then_n ?_ | refine c_block ?_ | refine c_skip ?_ | refine c_exit ?_ | refine c_ret ?_ | refine then_r ?_ | refine then_e ?_ | refine inb_n ?_ | refine inb_r ?_ | refine inb_e ?_ | refine inb_o rfl ?_ | refine c_cond_t hE rfl ?_ | refine c_cond_f hE rfl ?_ | refine c_rnd ?_ | refine c_seq ?_ | (refine wl_skip hE rfl rfl rfl ?_; clear hE; clear a; intro a hE) | ((refine wl_splitg hE rfl rfl ?_ ?_) <;> (clear hE; intro hb hE; (first | replace hb := of_decide_eq_true hb | replace hb := of_decide_eq_false hb | (simp only [Bool.not_eq_true', Bool.not_eq_false', decide_eq_true_eq, decide_eq_false_iff_not] at hb) | skip); try (exfalso; first | omega | exact absurd trivial hb | exact absurd rfl hb))) | ((refine c_cond hE rfl ?_ ?_) <;> (intro hb; (first | replace hb := of_decide_eq_true hb | replace hb := of_decide_eq_false hb | (simp only [Bool.not_eq_true', Bool.not_eq_false', decide_eq_true_eq, decide_eq_false_iff_not] at hb) | skip); try (exfalso; first | omega | exact absurd trivial hb | exact absurd rfl hb))))
  exact p_ret hE rfl rfl ⟨_, rfl, _, _, rfl, hS⟩
end Go.Proofs.Ytemjajjkljphfaa

/- DERIVED. Texts C1, C2, C4, C5, Sf, C6, C7, C3, C8, A1, A2, A3, A4, A5, A6, A7, A8, A9, A10, A11, A12, A13, F0 of this session, put together by a program of it (merge.py). No condition. -/
import Derived.RangeFuncFrom
import Derived.RangeFuncKeeps
import Derived.RangeFuncLeaves
import Derived.RangeFuncCalls
import Derived.TacticsIn
import Derived.RangeFuncBox
import Derived.RangeFuncNested
import Derived.Shelf.Abstract
import Derived.WalkKit
import Derived.OwnWalkIn
import Derived.TacticsInMore
import Derived.LoopNIn
import Derived.LoopIn
import Derived.Maps.AppendAt
import Derived.Maps.OwnIn
import Derived.Test.YtdgpjkddpbiieaaZ1
/- DERIVED. Contracts of layer 16's small functions. No condition. -/
namespace Go.Proofs.Ytdgpjkddpbiieaa
open Go.RowKit Go.Sx Go.Proofs.YtdgpjkddpbiieaaTy
set_option linter.unusedVariables false
set_option linter.unusedSimpArgs false
set_option maxRecDepth 100000
attribute [local irreducible] Oper.wp Code.wp wpList wpAnyH Calls bodyPost Exit.then Exit.inBlock Code.rounds
set_option maxHeartbeats 1000000
def isVlan (v : Int) : Bool := decide (1 ≤ v) && decide (v ≤ 4094)
theorem vlan_s (v : Int) (w0 : World) : Calls Try.prog 44 #[.int .i64 v] w0 fun e w' => ∃ r, e = .returned r ∧ r = .bool (isVlan v) ∧ Sep w0 w' [] := by
  refine enter (args := [.int .i64 v]) 9 Try.func44 rfl rfl rfl ?_
  intro a hE hS
  repeat' (first | refine wl_nil ?_ | refine then_n ?_ | refine c_ret ?_ | (refine c_regI 0 ?_; all_goals (refine wl hE rfl ?_; refine qa hE ?_; clear hE a; intro a hE)) | (refine c_regI 1 ?_; all_goals (refine wl hE rfl ?_; refine qm hE ?_; clear hE a; intro a hE); all_goals (refine wl hE rfl ?_; refine qb hE ?_; clear hE a; intro a hE); all_goals (refine wl hE rfl ?_; refine qm hE ?_; clear hE a; intro a hE); all_goals ((refine wl_splitg hE rfl rfl ?_ ?_) <;> (clear hE; intro hb hE; (first | replace hb := of_decide_eq_true hb | replace hb := of_decide_eq_false hb | (simp only [Bool.not_eq_true', Bool.not_eq_false', decide_eq_true_eq, decide_eq_false_iff_not] at hb) | skip); try (exfalso; first | omega | exact absurd trivial hb | exact absurd rfl hb | (simp only [beq_self_eq_true, bne_self_eq_false, reduceCtorEq] at hb; done))) <;> (first | (refine wl hE rfl ?_; refine qm hE ?_; clear hE a; intro a hE) | (refine wl_skip hE rfl rfl rfl ?_; clear hE a; intro a hE))); all_goals (first | (refine wl hE rfl ?_; refine qb hE ?_; clear hE a; intro a hE) | (refine wl_skip hE rfl rfl rfl ?_; clear hE a; intro a hE)); all_goals (refine wl hE rfl ?_; first | (refine qpt hE ?_; clear hE a; intro a hE) | (refine qpf hE ?_; clear hE a; intro a hE)); all_goals (refine wl hE rfl ?_; refine qa hE ?_; clear hE a; intro a hE)) | refine c_seq ?_)
  all_goals (refine p_ret hE rfl rfl ⟨_, rfl, ?_, hS⟩; simp [isVlan, *])

theorem take_succ_ne {xs : List Int} {v : Int} {i : Int} (h0 : 0 ≤ i) (h1 : i < (xs.length : Int)) (hx : ∀ y ∈ xs.take i.toNat, y ≠ v) (hne : v ≠ xs.getD i.toNat 0) : ∀ y ∈ xs.take (i + 1).toNat, y ≠ v := by
  intro y hy
  have e : (i + 1).toNat = i.toNat + 1 := by omega
  have hlt : i.toNat < xs.length := by omega
  rw [e, List.take_succ_eq_append_getElem hlt] at hy
  rcases List.mem_append.1 hy with h | h
  · exact hx y h
  · simp at h; subst h; intro h; exact hne (by simp [hlt, h])
theorem getD_mem {xs : List Int} {i : Int} (h0 : 0 ≤ i) (h1 : i < (xs.length : Int)) : xs.getD i.toNat 0 ∈ xs := by
  have hlt : i.toNat < xs.length := by omega
  simp [hlt]
theorem not_mem_of_take {xs : List Int} {v i : Int} (h : ¬ i < (xs.length : Int)) (hx : ∀ y ∈ xs.take i.toNat, y ≠ v) : v ∉ xs := fun hv => by
  rw [List.take_of_length_le (by omega)] at hx
  exact hx v hv rfl
theorem index_s (A : Option Addr) (c : Nat) (xs : List Int) (v : Int) (w0 : World) (hR : Rd w0 A (ints xs)) (hl : xs.length ≤ 9223372036854775807) :
    Calls Try.prog 65 #[.slice A xs.length c, .int .i64 v] w0 fun e w' => ∃ r, e = .returned r ∧ (∃ k : Int, r = .int .i64 k ∧ (0 ≤ k ↔ v ∈ xs)) ∧ Sep w0 w' [] := by
  have hA : (0 : Int) < xs.length → A = some (adr A) := fun h => hR.some (by rw [ints_length]; omega)
  have hT := hR.at_
  refine enter (args := [.slice A xs.length c, .int .i64 v]) 19 Try.func65 rfl rfl rfl ?_
  intro a hE hS
  repeat' (first | refine wl_nil ?_ | refine then_n ?_ | refine c_block ?_ | (refine c_regI 0 ?_; all_goals (refine wl hE rfl ?_; refine qa hE ?_; clear hE a; intro a hE)) | (refine c_regI 1 ?_; all_goals (refine wl hE rfl ?_; refine qm hE ?_; clear hE a; intro a hE); all_goals (refine wl hE rfl ?_; refine qn1 hE ?_; clear hE a; intro a hE); all_goals (refine wl hE rfl ?_; refine qm hE ?_; clear hE a; intro a hE)) | refine c_seq ?_)
  refine c_loopN (fun m a w => ∃ i : Int, 0 ≤ i ∧ i ≤ xs.length ∧ m = (xs.length - i).toNat ∧ (∀ y ∈ xs.take i.toNat, y ≠ v) ∧ Env a 19 [(0, .slice A xs.length c), (1, .int .i64 v), (6, .slice A xs.length c), (7, .int .i64 xs.length), (8, .int .i64 i)] ∧ Sep w0 w []) _ ⟨0, by omega, by omega, rfl, by simp, hE.cut ⟨rfl, rfl, rfl, rfl, rfl, trivial⟩, hS⟩ ?_
  clear hE hS
  clear a
  rintro m a w ⟨i, h0, h1, rfl, hx, hE, hS⟩
  repeat' (first | refine wl_nil ?_ | refine then_n ?_ | refine c_block ?_ | refine c_skip ?_ | refine c_exit ?_ | refine c_ret ?_ | refine then_r ?_ | refine then_e ?_ | refine inb_n ?_ | refine inb_r ?_ | refine inb_e ?_ | (refine c_regI 2 ?_; all_goals (refine wl hE rfl ?_; refine qb hE ?_; clear hE a; intro a hE)) | (refine c_regI 3 ?_; all_goals (refine wl hE rfl ?_; refine qm hE ?_; clear hE a; intro a hE); all_goals (refine wl hE rfl ?_; refine qa hE ?_; clear hE a; intro a hE)) | (refine c_regI 4 ?_; all_goals (refine wl hE rfl ?_; refine qm hE ?_; clear hE a; intro a hE); all_goals (refine wl hE rfl ?_; refine qm hE ?_; clear hE a; intro a hE); all_goals (refine wl hE rfl ?_; refine qm hE ?_; clear hE a; intro a hE); all_goals (refine wl hE rfl ?_; refine qi hE hA ?_; clear hE a; intro a hE); all_goals (refine wl hE rfl ?_; refine q0i hE hS hT ?_; clear hE a; intro a hE); all_goals (refine wl hE rfl ?_; refine qb hE ?_; clear hE a; intro a hE)) | (refine c_regI 5 ?_; all_goals (refine wl hE rfl ?_; refine qm hE ?_; clear hE a; intro a hE); all_goals (refine wl hE rfl ?_; refine qa hE ?_; clear hE a; intro a hE)) | (refine c_regI 6 ?_; all_goals (refine wl hE rfl ?_; refine qb hE ?_; clear hE a; intro a hE); all_goals (refine wl hE rfl ?_; refine qm hE ?_; clear hE a; intro a hE)) | (refine c_regI 7 ?_; all_goals (refine wl hE rfl ?_; refine qa hE ?_; clear hE a; intro a hE)) | refine c_seq ?_ | ((refine c_cond hE rfl ?_ ?_) <;> (intro hb; (first | replace hb := of_decide_eq_true hb | replace hb := of_decide_eq_false hb | (simp only [Bool.not_eq_true', Bool.not_eq_false', decide_eq_true_eq, decide_eq_false_iff_not] at hb) | skip); try (exfalso; first | omega | exact absurd trivial hb | exact absurd rfl hb | (simp only [beq_self_eq_true, bne_self_eq_false, reduceCtorEq] at hb; done)))))
  · refine p_ret hE rfl rfl ⟨_, rfl, ⟨_, rfl, ?_⟩, hS⟩
    exact ⟨fun _ => hb ▸ getD_mem h0 (by assumption), fun _ => h0⟩
  · exact ⟨_, by omega, i + 1, by omega, by omega, rfl, take_succ_ne h0 (by assumption) hx hb, hE.cut ⟨rfl, rfl, rfl, rfl, rfl, trivial⟩, hS⟩
  · refine p_ret hE rfl rfl ⟨_, rfl, ⟨_, rfl, ?_⟩, hS⟩
    exact ⟨fun h => absurd h (by decide), fun h => absurd h (not_mem_of_take hb hx)⟩
theorem contains_s (A : Option Addr) (c : Nat) (xs : List Int) (v : Int) (w0 : World) (hR : Rd w0 A (ints xs)) (hl : xs.length ≤ 9223372036854775807) :
    Calls Try.prog 45 #[.slice A xs.length c, .int .i64 v] w0 fun e w' => ∃ r, e = .returned r ∧ r = .bool (decide (v ∈ xs)) ∧ Sep w0 w' [] := by
  refine enter (args := [.slice A xs.length c, .int .i64 v]) 9 Try.func45 rfl rfl rfl ?_
  intro a hE hS
  repeat' (first | refine wl_nil ?_ | refine then_n ?_ | refine c_ret ?_ | (refine c_regI 0 ?_; all_goals (refine wl hE rfl ?_; refine qa hE ?_; clear hE a; intro a hE)) | (refine c_regI 1 ?_; all_goals (refine wl hE rfl ?_; refine qm hE ?_; clear hE a; intro a hE); all_goals (refine wl hE rfl ?_; refine qm hE ?_; clear hE a; intro a hE); all_goals (refine wl hE rfl ?_; refine is_call 65 rfl ?_; refine qc hE (index_s A c xs v _ (hR.move hS) hl) ?_; clear hE; clear a; rintro r a w ⟨⟨k, rfl, hk⟩, hS1⟩ hE; replace hS := hS.then hS1; clear hS1); all_goals (refine wl hE rfl ?_; refine qb hE ?_; clear hE a; intro a hE); all_goals (refine wl hE rfl ?_; refine qa hE ?_; clear hE a; intro a hE)) | refine c_seq ?_)
  refine p_ret hE rfl rfl ⟨_, rfl, ?_, hS⟩
  rw [decide_eq_decide.2 hk]
theorem among_s (A : Option Addr) (c : Nat) (xs : List Int) (v : Int) (w0 : World) (hR : Rd w0 A (ints xs)) (hl : xs.length ≤ 9223372036854775807) :
    Calls Try.prog 42 #[.slice A xs.length c, .int .i64 v] w0 fun e w' => ∃ r, e = .returned r ∧ r = .bool (decide (v ∈ xs)) ∧ Sep w0 w' [] := by
  have hA : (0 : Int) < xs.length → A = some (adr A) := fun h => hR.some (by rw [ints_length]; omega)
  have hT := hR.at_
  refine enter (args := [.slice A xs.length c, .int .i64 v]) 18 Try.func42 rfl rfl rfl ?_
  intro a hE hS
  repeat' (first | refine wl_nil ?_ | refine then_n ?_ | refine c_block ?_ | (refine c_regI 0 ?_; all_goals (refine wl hE rfl ?_; refine qa hE ?_; clear hE a; intro a hE)) | (refine c_regI 1 ?_; all_goals (refine wl hE rfl ?_; refine qa hE ?_; clear hE a; intro a hE)) | refine c_seq ?_)
  refine c_loopN (fun m a w => ∃ i : Int, 0 ≤ i ∧ i ≤ xs.length ∧ m = (xs.length - i).toNat ∧ (∀ y ∈ xs.take i.toNat, y ≠ v) ∧ Env a 18 [(0, .slice A xs.length c), (1, .int .i64 v), (5, .int .i64 i)] ∧ Sep w0 w []) _ ⟨0, by omega, by omega, rfl, by simp, hE.cut ⟨rfl, rfl, rfl, trivial⟩, hS⟩ ?_
  clear hE hS
  clear a
  rintro m a w ⟨i, h0, h1, rfl, hx, hE, hS⟩
  repeat' (first | refine wl_nil ?_ | refine then_n ?_ | refine c_block ?_ | refine c_skip ?_ | refine c_exit ?_ | refine c_ret ?_ | refine then_r ?_ | refine then_e ?_ | refine inb_n ?_ | refine inb_r ?_ | refine inb_e ?_ | (refine c_regI 2 ?_; all_goals (refine wl hE rfl ?_; refine qm hE ?_; clear hE a; intro a hE); all_goals (refine wl hE rfl ?_; refine qm hE ?_; clear hE a; intro a hE); all_goals (refine wl hE rfl ?_; refine qn1 hE ?_; clear hE a; intro a hE); all_goals (refine wl hE rfl ?_; refine qb hE ?_; clear hE a; intro a hE)) | (refine c_regI 4 ?_; all_goals (refine wl hE rfl ?_; refine qm hE ?_; clear hE a; intro a hE); all_goals (refine wl hE rfl ?_; refine qm hE ?_; clear hE a; intro a hE); all_goals (refine wl hE rfl ?_; refine qi hE hA ?_; clear hE a; intro a hE); all_goals (refine wl hE rfl ?_; refine q0i hE hS hT ?_; clear hE a; intro a hE); all_goals (refine wl hE rfl ?_; refine qm hE ?_; clear hE a; intro a hE); all_goals (refine wl hE rfl ?_; refine qb hE ?_; clear hE a; intro a hE)) | (refine c_regI 5 ?_; all_goals (refine wl hE rfl ?_; refine qa hE ?_; clear hE a; intro a hE)) | (refine c_regI 3 ?_; all_goals (refine wl hE rfl ?_; refine qm hE ?_; clear hE a; intro a hE); all_goals (refine wl hE rfl ?_; refine qb hE ?_; clear hE a; intro a hE); all_goals (refine wl hE rfl ?_; refine qa hE ?_; clear hE a; intro a hE)) | (refine c_regI 6 ?_; all_goals (refine wl hE rfl ?_; refine qa hE ?_; clear hE a; intro a hE)) | refine c_seq ?_ | ((refine c_cond hE rfl ?_ ?_) <;> (intro hb; (first | replace hb := of_decide_eq_true hb | replace hb := of_decide_eq_false hb | (simp only [Bool.not_eq_true', Bool.not_eq_false', decide_eq_true_eq, decide_eq_false_iff_not] at hb) | skip); try (exfalso; first | omega | exact absurd trivial hb | exact absurd rfl hb | (simp only [beq_self_eq_true, bne_self_eq_false, reduceCtorEq] at hb; done)))))
  · refine p_ret hE rfl rfl ⟨_, rfl, ?_, hS⟩
    rw [decide_eq_true (hb ▸ getD_mem h0 (by assumption))]
  · exact ⟨_, by omega, i + 1, by omega, by omega, rfl, take_succ_ne h0 (by assumption) hx (Ne.symm hb), hE.cut ⟨rfl, rfl, rfl, trivial⟩, hS⟩
  · refine p_ret hE rfl rfl ⟨_, rfl, ?_, hS⟩
    rw [decide_eq_false (not_mem_of_take hb hx)]
end Go.Proofs.Ytdgpjkddpbiieaa
/- DERIVED. Contracts of layer 16: what a port has, frames that come in and go out. No condition. -/
namespace Go.Proofs.Ytdgpjkddpbiieaa
open Go.RowKit Go.Sx Go.Proofs.YtdgpjkddpbiieaaTy
set_option linter.unusedVariables false
set_option linter.unusedSimpArgs false
set_option maxRecDepth 100000
attribute [local irreducible] Oper.wp Code.wp wpList wpAnyH Calls bodyPost Exit.then Exit.inBlock Code.rounds
set_option maxHeartbeats 1000000
def hasP (tr : Bool) (pv : Int) (xs : List Int) (vid : Int) : Bool := if tr = true then decide (vid ∈ xs) else decide (vid = pv)
theorem has_s (tr : Bool) (pv : Int) (A : Option Addr) (c : Nat) (xs : List Int) (vid : Int) (w0 : World) (hR : Rd w0 A (ints xs)) (hl : xs.length ≤ 9223372036854775807) : Calls Try.prog 47 #[.agg #[.bool tr, .int .i64 pv, .slice A xs.length c], .int .i64 vid] w0 fun e w' => ∃ r, e = .returned r ∧ r = .bool (hasP tr pv xs vid) ∧ Sep w0 w' [] := by
  refine enter (args := [.agg #[.bool tr, .int .i64 pv, .slice A xs.length c], .int .i64 vid]) 16 Try.func47 rfl rfl rfl ?_
  intro a hE hS
  repeat' (first | refine wl_nil ?_ | refine then_n ?_ | refine c_skip ?_ | refine c_ret ?_ | refine then_r ?_ | (refine c_regI 0 ?_; all_goals (refine wl hE rfl ?_; refine qbx hE hS ?_; clear hE hS; clear a; intro g a w hE hS); all_goals (refine wl hE rfl ?_; refine qa hE ?_; clear hE a; intro a hE)) | (refine c_regI 1 ?_; all_goals (refine wl hE rfl ?_; refine qf hE ?_; clear hE a; intro a hE); all_goals (refine wl hE rfl ?_; refine ql hE hS ?_; clear hE a; intro a hE); all_goals (refine wl hE rfl ?_; refine qu hE ?_; clear hE a; intro a hE)) | (refine c_regI 2 ?_; all_goals (refine wl hE rfl ?_; refine qm hE ?_; clear hE a; intro a hE); all_goals (refine wl hE rfl ?_; refine qf hE ?_; clear hE a; intro a hE); all_goals (refine wl hE rfl ?_; refine ql hE hS ?_; clear hE a; intro a hE); all_goals (refine wl hE rfl ?_; refine qb hE ?_; clear hE a; intro a hE); all_goals (refine wl hE rfl ?_; refine qa hE ?_; clear hE a; intro a hE)) | (refine c_regI 3 ?_; all_goals (refine wl hE rfl ?_; refine qf hE ?_; clear hE a; intro a hE); all_goals (refine wl hE rfl ?_; refine ql hE hS ?_; clear hE a; intro a hE); all_goals (refine wl hE rfl ?_; refine qm hE ?_; clear hE a; intro a hE); all_goals (refine wl hE rfl ?_; refine is_call 45 rfl ?_; refine qc hE (contains_s A c xs _ _ (hR.move hS) hl) ?_; clear hE; clear a; rintro _ a w ⟨rfl, hS1⟩ hE; replace hS := hS.then hS1; clear hS1); all_goals (refine wl hE rfl ?_; refine qa hE ?_; clear hE a; intro a hE)) | refine c_seq ?_ | ((refine c_cond hE rfl ?_ ?_) <;> (intro hb; (first | replace hb := of_decide_eq_true hb | replace hb := of_decide_eq_false hb | (simp only [Bool.not_eq_true', Bool.not_eq_false', decide_eq_true_eq, decide_eq_false_iff_not] at hb) | skip); try (exfalso; first | omega | exact absurd trivial hb | exact absurd rfl hb | (simp only [beq_self_eq_true, bne_self_eq_false, reduceCtorEq] at hb; done)))))
  all_goals (refine p_ret hE rfl rfl ⟨_, rfl, ?_, hS.clean⟩; simp_all [hasP])
theorem refhas_s (tr : Bool) (pv : Int) (A : Option Addr) (c : Nat) (xs : List Int) (vid : Int) (w0 : World) (hR : Rd w0 A (ints xs)) (hl : xs.length ≤ 9223372036854775807) : Calls Try.prog 37 #[.agg #[.bool tr, .int .i64 pv, .slice A xs.length c], .int .i64 vid] w0 fun e w' => ∃ r, e = .returned r ∧ r = .bool (hasP tr pv xs vid) ∧ Sep w0 w' [] := by
  refine enter (args := [.agg #[.bool tr, .int .i64 pv, .slice A xs.length c], .int .i64 vid]) 24 Try.func37 rfl rfl rfl ?_
  intro a hE hS
  repeat' (first | refine wl_nil ?_ | refine then_n ?_ | refine c_ret ?_ | (refine c_regI 0 ?_; all_goals (refine wl hE rfl ?_; refine qbx hE hS ?_; clear hE hS; clear a; intro g a w hE hS); all_goals (refine wl hE rfl ?_; refine qa hE ?_; clear hE a; intro a hE)) | (refine c_regI 1 ?_; all_goals (refine wl hE rfl ?_; refine qf hE ?_; clear hE a; intro a hE); all_goals (refine wl hE rfl ?_; refine ql hE hS ?_; clear hE a; intro a hE); all_goals (refine wl hE rfl ?_; refine qu hE ?_; clear hE a; intro a hE); all_goals (refine wl hE rfl ?_; refine qm hE ?_; clear hE a; intro a hE); all_goals ((refine wl_splitg hE rfl rfl ?_ ?_) <;> (clear hE; intro hb hE; (first | replace hb := of_decide_eq_true hb | replace hb := of_decide_eq_false hb | (simp only [Bool.not_eq_true', Bool.not_eq_false', decide_eq_true_eq, decide_eq_false_iff_not] at hb) | skip); try (exfalso; first | omega | exact absurd trivial hb | exact absurd rfl hb | (simp only [beq_self_eq_true, bne_self_eq_false, reduceCtorEq] at hb; done))) <;> (first | (refine wl hE rfl ?_; refine qm hE ?_; clear hE a; intro a hE) | (refine wl_skip hE rfl rfl rfl ?_; clear hE a; intro a hE))); all_goals (first | (refine wl hE rfl ?_; refine qf hE ?_; clear hE a; intro a hE) | (refine wl_skip hE rfl rfl rfl ?_; clear hE a; intro a hE)); all_goals (first | (refine wl hE rfl ?_; refine ql hE hS ?_; clear hE a; intro a hE) | (refine wl_skip hE rfl rfl rfl ?_; clear hE a; intro a hE)); all_goals (first | (refine wl hE rfl ?_; refine qb hE ?_; clear hE a; intro a hE) | (refine wl_skip hE rfl rfl rfl ?_; clear hE a; intro a hE)); all_goals (refine wl hE rfl ?_; first | (refine qpt hE ?_; clear hE a; intro a hE) | (refine qpf hE ?_; clear hE a; intro a hE)); all_goals (refine wl hE rfl ?_; refine qm hE ?_; clear hE a; intro a hE); all_goals (first | (refine wl hE rfl ?_; refine qf hE ?_; clear hE a; intro a hE) | ((refine wl_splitg hE rfl rfl ?_ ?_) <;> (clear hE; intro hb hE; (first | replace hb := of_decide_eq_true hb | replace hb := of_decide_eq_false hb | (simp only [Bool.not_eq_true', Bool.not_eq_false', decide_eq_true_eq, decide_eq_false_iff_not] at hb) | skip); try (exfalso; first | omega | exact absurd trivial hb | exact absurd rfl hb | (simp only [beq_self_eq_true, bne_self_eq_false, reduceCtorEq] at hb; done))) <;> (first | (refine wl hE rfl ?_; refine qf hE ?_; clear hE a; intro a hE) | (refine wl_skip hE rfl rfl rfl ?_; clear hE a; intro a hE)))); all_goals (first | (refine wl hE rfl ?_; refine ql hE hS ?_; clear hE a; intro a hE) | (refine wl_skip hE rfl rfl rfl ?_; clear hE a; intro a hE)); all_goals (first | (refine wl hE rfl ?_; refine qm hE ?_; clear hE a; intro a hE) | (refine wl_skip hE rfl rfl rfl ?_; clear hE a; intro a hE)); all_goals (first | (refine wl_skip hE rfl rfl rfl ?_; clear hE a; intro a hE) | ((refine wl_splitg hE rfl rfl ?_ ?_) <;> (clear hE; intro hb hE; (first | replace hb := of_decide_eq_true hb | replace hb := of_decide_eq_false hb | (simp only [Bool.not_eq_true', Bool.not_eq_false', decide_eq_true_eq, decide_eq_false_iff_not] at hb) | skip); try (exfalso; first | omega | exact absurd trivial hb | exact absurd rfl hb | (simp only [beq_self_eq_true, bne_self_eq_false, reduceCtorEq] at hb; done))) <;> (first | (refine wl hE rfl ?_; refine qf hE ?_; clear hE a; intro a hE) | (refine wl_skip hE rfl rfl rfl ?_; clear hE a; intro a hE)))); all_goals (first | (refine wl hE rfl ?_; refine ql hE hS ?_; clear hE a; intro a hE) | (refine wl_skip hE rfl rfl rfl ?_; clear hE a; intro a hE)); all_goals (first | (refine wl hE rfl ?_; refine qm hE ?_; clear hE a; intro a hE) | (refine wl_skip hE rfl rfl rfl ?_; clear hE a; intro a hE)); all_goals (first | (refine wl hE rfl ?_; refine is_call 42 rfl ?_; refine qc hE (among_s A c xs _ _ (hR.move hS) hl) ?_; clear hE; clear a; rintro _ a w ⟨rfl, hS1⟩ hE; replace hS := hS.then hS1; clear hS1) | (refine wl_skip hE rfl rfl rfl ?_; clear hE a; intro a hE)); all_goals (first | (refine wl hE rfl ?_; first | (refine qpt hE ?_; clear hE a; intro a hE) | (refine qpf hE ?_; clear hE a; intro a hE)) | (refine wl_skip hE rfl rfl rfl ?_; clear hE a; intro a hE)); all_goals (refine wl hE rfl ?_; first | (refine qpt hE ?_; clear hE a; intro a hE) | (refine qpf hE ?_; clear hE a; intro a hE)); all_goals (refine wl hE rfl ?_; refine qa hE ?_; clear hE a; intro a hE)) | refine c_seq ?_)
  all_goals (refine p_ret hE rfl rfl ⟨_, rfl, ?_, hS.clean⟩; simp_all [hasP])
theorem bare_s (d s : Int) (h : Bool) (p : Int) (dei : Bool) (v t : Int) (b : ByteArray) (w0 : World) : Calls Try.prog 48 #[.agg #[.int .u64 d, .int .u64 s, .bool h, .int .i64 p, .bool dei, .int .i64 v, .int .i64 t, .string b]] w0 fun e w' => ∃ r, e = .returned r ∧ r = .agg #[.int .u64 d, .int .u64 s, .bool false, .int .i64 0, .bool false, .int .i64 0, .int .i64 t, .string b] ∧ Sep w0 w' [] := by
  refine enter (args := [.agg #[.int .u64 d, .int .u64 s, .bool h, .int .i64 p, .bool dei, .int .i64 v, .int .i64 t, .string b]]) 6 Try.func48 rfl rfl rfl ?_
  intro a hE hS
  repeat' (first | refine wl_nil ?_ | refine then_n ?_ | refine c_ret ?_ | (refine c_regI 0 ?_; all_goals (refine wl hE rfl ?_; refine qbx hE hS ?_; clear hE hS; clear a; intro g a w hE hS); all_goals (refine wl hE rfl ?_; refine qal hE hS ?_; clear hE hS; clear a; intro g a w hE hS)) | (refine c_regI 1 ?_; all_goals (refine wl hE rfl ?_; refine qbu hE ?_; clear hE a; intro a hE); all_goals (refine wl hE rfl ?_; refine qf hE ?_; clear hE a; intro a hE); all_goals (refine wl hE rfl ?_; refine qst hE hS ?_; clear hS; intro w hS)) | (refine c_regI 2 ?_; all_goals (refine wl hE rfl ?_; refine qL hE hS ?_; clear hE a; intro a hE); all_goals (refine wl hE rfl ?_; refine qst0 hE hS ?_; clear hS; intro w hS)) | refine c_seq ?_)
  exact p_ret1 hE rfl (rc hE hS .nil) ⟨_, rfl, rfl, hS.clean⟩
theorem tagged_s (d s : Int) (h : Bool) (p : Int) (dei : Bool) (v t : Int) (b : ByteArray) (h1 : Bool) (p1 : Int) (dei1 : Bool) (v1 : Int) (w0 : World) : Calls Try.prog 88 #[.agg #[.int .u64 d, .int .u64 s, .bool h, .int .i64 p, .bool dei, .int .i64 v, .int .i64 t, .string b], .agg #[.bool h1, .int .i64 p1, .bool dei1, .int .i64 v1]] w0 fun e w' => ∃ r, e = .returned r ∧
    r = .agg #[.int .u64 d, .int .u64 s, .bool h1, .int .i64 p1, .bool dei1, .int .i64 v1, .int .i64 t, .string b] ∧ Sep w0 w' [] := by
  refine enter (args := [.agg #[.int .u64 d, .int .u64 s, .bool h, .int .i64 p, .bool dei, .int .i64 v, .int .i64 t, .string b], .agg #[.bool h1, .int .i64 p1, .bool dei1, .int .i64 v1]]) 8 Try.func88 rfl rfl rfl ?_
  intro a hE hS
  repeat' (first | refine wl_nil ?_ | refine then_n ?_ | refine c_ret ?_ | (refine c_regI 0 ?_; all_goals (refine wl hE rfl ?_; refine qbx hE hS ?_; clear hE hS; clear a; intro g a w hE hS); all_goals (refine wl hE rfl ?_; refine qbx hE hS ?_; clear hE hS; clear a; intro g a w hE hS); all_goals (refine wl hE rfl ?_; refine qal hE hS ?_; clear hE hS; clear a; intro g a w hE hS)) | (refine c_regI 1 ?_; all_goals (refine wl hE rfl ?_; refine qL hE hS ?_; clear hE a; intro a hE); all_goals (refine wl hE rfl ?_; refine qf hE ?_; clear hE a; intro a hE); all_goals (refine wl hE rfl ?_; refine qst hE hS ?_; clear hS; intro w hS)) | (refine c_regI 2 ?_; all_goals (refine wl hE rfl ?_; refine qL hE hS ?_; clear hE a; intro a hE); all_goals (refine wl hE rfl ?_; refine qst0 hE hS ?_; clear hS; intro w hS)) | refine c_seq ?_)
  exact p_ret1 hE rfl (rc hE hS .nil) ⟨_, rfl, rfl, hS.clean⟩
def inVid (h : Bool) (v pv : Int) : Int := if h = true ∧ v ≠ 0 then v else pv
def inR (ok : Bool) (vid d s t : Int) (b : ByteArray) : Value := if ok = true then .tuple #[.int .i64 vid, .agg #[.int .u64 d, .int .u64 s, .bool false, .int .i64 0, .bool false, .int .i64 0, .int .i64 t, .string b], .bool true] else .tuple #[.int .i64 0, .agg #[.int .u64 0, .int .u64 0, .bool false, .int .i64 0, .bool false, .int .i64 0, .int .i64 0, .string ⟨#[]⟩], .bool false]
theorem in_s (tr : Bool) (pv : Int) (A : Option Addr) (c : Nat) (xs : List Int) (d s : Int) (h : Bool) (p : Int) (dei : Bool) (v t : Int) (b : ByteArray) (w0 : World) (hR : Rd w0 A (ints xs)) (hl : xs.length ≤ 9223372036854775807) : Calls Try.prog 31 #[.agg #[.bool tr, .int .i64 pv, .slice A xs.length c], .agg #[.int .u64 d, .int .u64 s, .bool h, .int .i64 p, .bool dei, .int .i64 v, .int .i64 t, .string b]] w0 fun e w' => ∃ r, e = .returned r ∧ r = inR (hasP tr pv xs (inVid h v pv)) (inVid h v pv) d s t b ∧ Sep w0 w' [] := by
  refine enter (args := [.agg #[.bool tr, .int .i64 pv, .slice A xs.length c], .agg #[.int .u64 d, .int .u64 s, .bool h, .int .i64 p, .bool dei, .int .i64 v, .int .i64 t, .string b]]) 29 Try.func31 rfl rfl rfl ?_
  intro a hE hS
  repeat' (first | refine wl_nil ?_ | refine then_n ?_ | refine c_skip ?_ | refine c_ret ?_ | refine then_r ?_ | refine c_cond_t hE rfl ?_ | (refine c_regI 0 ?_; all_goals (refine wl hE rfl ?_; refine qbx hE hS ?_; clear hE hS; clear a; intro g a w hE hS); all_goals (refine wl hE rfl ?_; refine qbx hE hS ?_; clear hE hS; clear a; intro g a w hE hS); all_goals (refine wl hE rfl ?_; refine qa hE ?_; clear hE a; intro a hE); all_goals (refine wl hE rfl ?_; refine qal hE hS ?_; clear hE hS; clear a; intro g a w hE hS); all_goals (refine wl hE rfl ?_; refine qa hE ?_; clear hE a; intro a hE)) | (refine c_regI 1 ?_; all_goals (refine wl hE rfl ?_; refine qf hE ?_; clear hE a; intro a hE); all_goals (refine wl hE rfl ?_; refine qf hE ?_; clear hE a; intro a hE); all_goals (refine wl hE rfl ?_; refine ql hE hS ?_; clear hE a; intro a hE); all_goals (refine wl hE rfl ?_; refine qa hE ?_; clear hE a; intro a hE)) | (refine c_regI 2 ?_; all_goals (refine wl hE rfl ?_; refine qf hE ?_; clear hE a; intro a hE); all_goals (refine wl hE rfl ?_; refine qf hE ?_; clear hE a; intro a hE); all_goals (refine wl hE rfl ?_; refine ql hE hS ?_; clear hE a; intro a hE); all_goals (refine wl hE rfl ?_; refine qu hE ?_; clear hE a; intro a hE); all_goals (refine wl hE rfl ?_; refine qm hE ?_; clear hE a; intro a hE); all_goals ((refine wl_splitg hE rfl rfl ?_ ?_) <;> (clear hE; intro hb hE; (first | replace hb := of_decide_eq_true hb | replace hb := of_decide_eq_false hb | (simp only [Bool.not_eq_true', Bool.not_eq_false', decide_eq_true_eq, decide_eq_false_iff_not] at hb) | skip); try (exfalso; first | omega | exact absurd trivial hb | exact absurd rfl hb | (simp only [beq_self_eq_true, bne_self_eq_false, reduceCtorEq] at hb; done))) <;> (first | (refine wl hE rfl ?_; refine qm hE ?_; clear hE a; intro a hE) | (refine wl_skip hE rfl rfl rfl ?_; clear hE a; intro a hE))); all_goals (first | (refine wl hE rfl ?_; refine qb hE ?_; clear hE a; intro a hE) | (refine wl_skip hE rfl rfl rfl ?_; clear hE a; intro a hE)); all_goals (refine wl hE rfl ?_; first | (refine qpt hE ?_; clear hE a; intro a hE) | (refine qpf hE ?_; clear hE a; intro a hE))) | (refine c_regI 3 ?_; all_goals (refine wl hE rfl ?_; refine qf hE ?_; clear hE a; intro a hE); all_goals (refine wl hE rfl ?_; refine ql hE hS ?_; clear hE a; intro a hE); all_goals (refine wl hE rfl ?_; refine qa hE ?_; clear hE a; intro a hE)) | (refine c_regI 4 ?_; all_goals (refine wl hE rfl ?_; refine qL hE hS ?_; clear hE a; intro a hE); all_goals (refine wl hE rfl ?_; refine qm hE ?_; clear hE a; intro a hE); all_goals (refine wl hE rfl ?_; refine is_call 47 rfl ?_; refine qc hE (has_s tr pv A c xs _ _ (hR.move hS) hl) ?_; clear hE; clear a; rintro _ a w ⟨rfl, hS1⟩ hE; replace hS := hS.then hS1; clear hS1); all_goals (refine wl hE rfl ?_; refine qu hE ?_; clear hE a; intro a hE)) | (refine c_regI 5 ?_; all_goals (refine wl hE rfl ?_; refine qbu hE ?_; clear hE a; intro a hE); all_goals (refine wl hE rfl ?_; refine qa hE ?_; clear hE a; intro a hE); all_goals (refine wl hE rfl ?_; refine qst0 hE hS ?_; clear hS; intro w hS); all_goals (refine wl hE rfl ?_; refine qa hE ?_; clear hE a; intro a hE)) | (refine c_regI 6 ?_; all_goals (refine wl hE rfl ?_; refine qm hE ?_; clear hE a; intro a hE); all_goals (refine wl hE rfl ?_; refine qL hE hS ?_; clear hE a; intro a hE); all_goals (refine wl hE rfl ?_; refine is_call 48 rfl ?_; refine qc hE (bare_s d s h p dei v t b _) ?_; clear hE; clear a; rintro _ a w ⟨rfl, hS1⟩ hE; replace hS := hS.then hS1; clear hS1); all_goals (refine wl hE rfl ?_; refine qa hE ?_; clear hE a; intro a hE); all_goals (refine wl hE rfl ?_; refine qst0 hE hS ?_; clear hS; intro w hS); all_goals (refine wl hE rfl ?_; refine qa hE ?_; clear hE a; intro a hE)) | refine c_seq ?_ | ((refine c_cond hE rfl ?_ ?_) <;> (intro hb; (first | replace hb := of_decide_eq_true hb | replace hb := of_decide_eq_false hb | (simp only [Bool.not_eq_true', Bool.not_eq_false', decide_eq_true_eq, decide_eq_false_iff_not] at hb) | skip); try (exfalso; first | omega | exact absurd trivial hb | exact absurd rfl hb | (simp only [beq_self_eq_true, bne_self_eq_false, reduceCtorEq] at hb; done)))))
  all_goals (refine p_rets hE rfl (rt hE (rc hE hS (rt hE .nil))) rfl ⟨_, rfl, ?_, hS.clean⟩; simp_all [inR, inVid])
end Go.Proofs.Ytdgpjkddpbiieaa
/- DERIVED. Contracts of layer 16: which ports may be. No condition. -/
namespace Go.Proofs.Ytdgpjkddpbiieaa
open Go.RowKit Go.Sx Go.Proofs.YtdgpjkddpbiieaaTy
set_option linter.unusedVariables false
set_option linter.unusedSimpArgs false
set_option maxRecDepth 100000
attribute [local irreducible] Oper.wp Code.wp wpList wpAnyH Calls bodyPost Exit.then Exit.inBlock Code.rounds
set_option maxHeartbeats 1000000
def okTo (xs : List Int) (k : Nat) : Prop := ∀ i, i < k → (1 ≤ xs.getD i 0 ∧ xs.getD i 0 ≤ 4094) ∧ (0 < i → xs.getD (i - 1) 0 < xs.getD i 0)
instance (xs : List Int) (k : Nat) : Decidable (okTo xs k) := by unfold okTo; infer_instance
theorem okTo.step {xs : List Int} {i : Int} (h0 : 0 ≤ i) (h : okTo xs i.toNat) (h1 : 1 ≤ xs.getD i.toNat 0) (h2 : xs.getD i.toNat 0 ≤ 4094) (h3 : 0 < i → xs.getD (i - 1).toNat 0 < xs.getD i.toNat 0) : okTo xs (i + 1).toNat := by
  intro j hj
  by_cases e : j = i.toNat
  · subst e
    refine ⟨⟨h1, h2⟩, fun hp => ?_⟩
    have := h3 (by omega)
    rwa [show (i - 1).toNat = i.toNat - 1 by omega] at this
  · exact h j (by omega)
theorem okTo.not {xs : List Int} {i : Int} (h0 : 0 ≤ i) (hi : i < xs.length) (h : ¬ ((1 ≤ xs.getD i.toNat 0 ∧ xs.getD i.toNat 0 ≤ 4094) ∧ (0 < i → xs.getD (i - 1).toNat 0 < xs.getD i.toNat 0))) : ¬ okTo xs xs.length := fun hk => by
  have := hk i.toNat (by omega)
  apply h
  refine ⟨this.1, fun hp => ?_⟩
  have := this.2 (by omega)
  rwa [show (i - 1).toNat = i.toNat - 1 by omega]
theorem okTo.all {xs : List Int} {i : Int} (h : okTo xs i.toNat) (hi : ¬ i < xs.length) : okTo xs xs.length := fun j hj => h j (by omega)
def rightP (tr : Bool) (pv : Int) (xs : List Int) : Bool := if tr = true then decide (okTo xs xs.length) && (decide (pv = 0) || decide (pv ∈ xs)) else isVlan pv && decide (xs.length = 0)
theorem isVlan_t {v : Int} (h : isVlan v = true) : 1 ≤ v ∧ v ≤ 4094 := by simpa [isVlan] using h
theorem isVlan_f {v : Int} (h : isVlan v = false) : ¬ (1 ≤ v ∧ v ≤ 4094) := fun hv => by rw [show isVlan v = true by simpa [isVlan] using hv] at h; cases h
theorem rightP_no {tr : Bool} {pv : Int} {xs : List Int} (ht : tr = true) (h : ¬ okTo xs xs.length) : rightP tr pv xs = false := by simp [rightP, ht, h]
theorem rightP_yes {tr : Bool} {pv : Int} {xs : List Int} (ht : tr = true) (h : okTo xs xs.length) : rightP tr pv xs = (decide (pv = 0) || decide (pv ∈ xs)) := by simp [rightP, ht, h]
theorem right_s (tr : Bool) (pv : Int) (A : Option Addr) (c : Nat) (xs : List Int) (w0 : World) (hR : Rd w0 A (ints xs)) (hl : xs.length ≤ 9223372036854775807) : Calls Try.prog 25 #[.agg #[.bool tr, .int .i64 pv, .slice A xs.length c]] w0 fun e w' => ∃ r, e = .returned r ∧ r = .bool (rightP tr pv xs) ∧ Sep w0 w' [] := by
  have hA : (0 : Int) < xs.length → A = some (adr A) := fun h => hR.some (by rw [ints_length]; omega)
  have hT := hR.at_
  refine enter (args := [.agg #[.bool tr, .int .i64 pv, .slice A xs.length c]]) 53 Try.func25 rfl rfl rfl ?_
  intro a hE hS
  repeat' (first | refine wl_nil ?_ | refine then_n ?_ | refine c_block ?_ | refine c_skip ?_ | refine c_ret ?_ | refine then_r ?_ | (refine c_regI 0 ?_; all_goals (refine wl hE rfl ?_; refine qbx hE hS ?_; clear hE hS; clear a; intro g a w hE hS); all_goals (refine wl hE rfl ?_; refine qa hE ?_; clear hE a; intro a hE)) | (refine c_regI 1 ?_; all_goals (refine wl hE rfl ?_; refine qf hE ?_; clear hE a; intro a hE); all_goals (refine wl hE rfl ?_; refine ql hE hS ?_; clear hE a; intro a hE); all_goals (refine wl hE rfl ?_; refine qu hE ?_; clear hE a; intro a hE)) | (refine c_regI 2 ?_; all_goals (refine wl hE rfl ?_; refine qf hE ?_; clear hE a; intro a hE); all_goals (refine wl hE rfl ?_; refine ql hE hS ?_; clear hE a; intro a hE); all_goals (refine wl hE rfl ?_; refine is_call 44 rfl ?_; refine qc hE (vlan_s _ _) ?_; clear hE; clear a; rintro _ a w ⟨rfl, hS1⟩ hE; replace hS := hS.then hS1; clear hS1); all_goals (refine wl hE rfl ?_; refine qm hE ?_; clear hE a; intro a hE); all_goals ((refine wl_splitg hE rfl rfl ?_ ?_) <;> (clear hE; intro hb hE; (first | replace hb := of_decide_eq_true hb | replace hb := of_decide_eq_false hb | (simp only [Bool.not_eq_true', Bool.not_eq_false', decide_eq_true_eq, decide_eq_false_iff_not] at hb) | skip); try (exfalso; first | omega | exact absurd trivial hb | exact absurd rfl hb | (simp only [beq_self_eq_true, bne_self_eq_false, reduceCtorEq] at hb; done))) <;> (first | (refine wl hE rfl ?_; refine qf hE ?_; clear hE a; intro a hE) | (refine wl_skip hE rfl rfl rfl ?_; clear hE a; intro a hE))); all_goals (first | (refine wl hE rfl ?_; refine ql hE hS ?_; clear hE a; intro a hE) | (refine wl_skip hE rfl rfl rfl ?_; clear hE a; intro a hE)); all_goals (first | (refine wl hE rfl ?_; refine qn1 hE ?_; clear hE a; intro a hE) | (refine wl_skip hE rfl rfl rfl ?_; clear hE a; intro a hE)); all_goals (first | (refine wl hE rfl ?_; refine qb hE ?_; clear hE a; intro a hE) | (refine wl_skip hE rfl rfl rfl ?_; clear hE a; intro a hE)); all_goals (refine wl hE rfl ?_; first | (refine qpt hE ?_; clear hE a; intro a hE) | (refine qpf hE ?_; clear hE a; intro a hE)); all_goals (refine wl hE rfl ?_; refine qa hE ?_; clear hE a; intro a hE)) | (refine c_regI 3 ?_; all_goals (refine wl hE rfl ?_; refine qf hE ?_; clear hE a; intro a hE); all_goals (refine wl hE rfl ?_; refine ql hE hS ?_; clear hE a; intro a hE); all_goals (refine wl hE rfl ?_; refine qn1 hE ?_; clear hE a; intro a hE); all_goals (refine wl hE rfl ?_; refine qm hE ?_; clear hE a; intro a hE)) | refine c_seq ?_ | ((refine c_cond hE rfl ?_ ?_) <;> (intro hb; (first | replace hb := of_decide_eq_true hb | replace hb := of_decide_eq_false hb | (simp only [Bool.not_eq_true', Bool.not_eq_false', decide_eq_true_eq, decide_eq_false_iff_not] at hb) | skip); try (exfalso; first | omega | exact absurd trivial hb | exact absurd rfl hb | (simp only [beq_self_eq_true, bne_self_eq_false, reduceCtorEq] at hb; done)))))
  all_goals try (refine p_ret hE rfl rfl ⟨_, rfl, ?_, hS.clean⟩; simp_all [rightP, isVlan] <;> omega)
  refine c_loopN (fun m a w => ∃ i : Int, 0 ≤ i ∧ i ≤ xs.length ∧ m = (xs.length - i).toNat ∧ okTo xs i.toNat ∧ Env a 53 [(1, .pointer (some ⟨g, 0, none⟩)), (18, .slice A xs.length c), (19, .int .i64 xs.length), (20, .int .i64 i)] ∧ Sep w0 w [blk g [.bool tr, .int .i64 pv, .slice A xs.length c] 55]) _ ⟨0, by omega, by omega, rfl, fun i hi => absurd hi (by simp), hE.cut ⟨rfl, rfl, rfl, rfl, trivial⟩, hS⟩ ?_
  clear hE hS
  clear a
  rintro m a w ⟨i, h0, h1, rfl, hk, hE, hS⟩
  repeat' (first | refine wl_nil ?_ | refine then_n ?_ | refine c_block ?_ | refine c_skip ?_ | refine c_exit ?_ | refine c_ret ?_ | refine then_r ?_ | refine then_e ?_ | refine inb_n ?_ | refine inb_r ?_ | refine inb_e ?_ | refine c_cond_t hE rfl ?_ | refine c_cond_f hE rfl ?_ | (refine c_regI 4 ?_; all_goals (refine wl hE rfl ?_; refine qb hE ?_; clear hE a; intro a hE)) | (refine c_regI 5 ?_; all_goals (refine wl hE rfl ?_; refine qm hE ?_; clear hE a; intro a hE); all_goals (refine wl hE rfl ?_; refine qi hE hA ?_; clear hE a; intro a hE); all_goals (refine wl hE rfl ?_; refine q0i hE hS hT ?_; clear hE a; intro a hE); all_goals (refine wl hE rfl ?_; refine qa hE ?_; clear hE a; intro a hE); all_goals (refine wl hE rfl ?_; refine qa hE ?_; clear hE a; intro a hE)) | (refine c_regI 6 ?_; all_goals (refine wl hE rfl ?_; refine qm hE ?_; clear hE a; intro a hE); all_goals (refine wl hE rfl ?_; refine is_call 44 rfl ?_; refine qc hE (vlan_s _ _) ?_; clear hE; clear a; rintro _ a w ⟨rfl, hS1⟩ hE; replace hS := hS.then hS1; clear hS1); all_goals (refine wl hE rfl ?_; refine qu hE ?_; clear hE a; intro a hE); all_goals (refine wl hE rfl ?_; refine qm hE ?_; clear hE a; intro a hE); all_goals ((refine wl_splitg hE rfl rfl ?_ ?_) <;> (clear hE; intro hb hE; (first | replace hb := of_decide_eq_true hb | replace hb := of_decide_eq_false hb | (simp only [Bool.not_eq_true', Bool.not_eq_false', decide_eq_true_eq, decide_eq_false_iff_not] at hb) | skip); try (exfalso; first | omega | exact absurd trivial hb | exact absurd rfl hb | (simp only [beq_self_eq_true, bne_self_eq_false, reduceCtorEq] at hb; done))) <;> (first | (refine wl hE rfl ?_; refine qm hE ?_; clear hE a; intro a hE) | (refine wl_skip hE rfl rfl rfl ?_; clear hE a; intro a hE))); all_goals (first | (refine wl hE rfl ?_; refine qb hE ?_; clear hE a; intro a hE) | (refine wl_skip hE rfl rfl rfl ?_; clear hE a; intro a hE)); all_goals (first | (refine wl hE rfl ?_; refine qm hE ?_; clear hE a; intro a hE) | (refine wl_skip hE rfl rfl rfl ?_; clear hE a; intro a hE)); all_goals (first | (refine wl_skip hE rfl rfl rfl ?_; clear hE a; intro a hE) | ((refine wl_splitg hE rfl rfl ?_ ?_) <;> (clear hE; intro hb hE; (first | replace hb := of_decide_eq_true hb | replace hb := of_decide_eq_false hb | (simp only [Bool.not_eq_true', Bool.not_eq_false', decide_eq_true_eq, decide_eq_false_iff_not] at hb) | skip); try (exfalso; first | omega | exact absurd trivial hb | exact absurd rfl hb | (simp only [beq_self_eq_true, bne_self_eq_false, reduceCtorEq] at hb; done))) <;> (first | (refine wl hE rfl ?_; refine qm hE ?_; clear hE a; intro a hE) | (refine wl_skip hE rfl rfl rfl ?_; clear hE a; intro a hE)))); all_goals (first | (refine wl hE rfl ?_; refine qf hE ?_; clear hE a; intro a hE) | (refine wl_skip hE rfl rfl rfl ?_; clear hE a; intro a hE)); all_goals (first | (refine wl hE rfl ?_; refine ql hE hS ?_; clear hE a; intro a hE) | (refine wl_skip hE rfl rfl rfl ?_; clear hE a; intro a hE)); all_goals (first | (refine wl hE rfl ?_; refine qm hE ?_; clear hE a; intro a hE) | (refine wl_skip hE rfl rfl rfl ?_; clear hE a; intro a hE)); all_goals (first | (refine wl hE rfl ?_; refine qb hE ?_; clear hE a; intro a hE) | (refine wl_skip hE rfl rfl rfl ?_; clear hE a; intro a hE)); all_goals (first | (refine wl hE rfl ?_; refine qi hE hA ?_; clear hE a; intro a hE) | (refine wl_skip hE rfl rfl rfl ?_; clear hE a; intro a hE)); all_goals (first | (refine wl hE rfl ?_; refine q0i hE hS hT ?_; clear hE a; intro a hE) | (refine wl_skip hE rfl rfl rfl ?_; clear hE a; intro a hE)); all_goals (first | (refine wl hE rfl ?_; refine qb hE ?_; clear hE a; intro a hE) | (refine wl_skip hE rfl rfl rfl ?_; clear hE a; intro a hE)); all_goals (first | (refine wl hE rfl ?_; first | (refine qpt hE ?_; clear hE a; intro a hE) | (refine qpf hE ?_; clear hE a; intro a hE)) | (refine wl_skip hE rfl rfl rfl ?_; clear hE a; intro a hE)); all_goals (refine wl hE rfl ?_; first | (refine qpt hE ?_; clear hE a; intro a hE) | (refine qpf hE ?_; clear hE a; intro a hE))) | (refine c_regI 7 ?_; all_goals (refine wl hE rfl ?_; refine qa hE ?_; clear hE a; intro a hE)) | (refine c_regI 8 ?_; all_goals (refine wl hE rfl ?_; refine qb hE ?_; clear hE a; intro a hE); all_goals (refine wl hE rfl ?_; refine qm hE ?_; clear hE a; intro a hE)) | (refine c_regI 9 ?_; all_goals (refine wl hE rfl ?_; refine qf hE ?_; clear hE a; intro a hE); all_goals (refine wl hE rfl ?_; refine ql hE hS ?_; clear hE a; intro a hE); all_goals (refine wl hE rfl ?_; refine qb hE ?_; clear hE a; intro a hE); all_goals (refine wl hE rfl ?_; refine qm hE ?_; clear hE a; intro a hE); all_goals ((refine wl_splitg hE rfl rfl ?_ ?_) <;> (clear hE; intro hb hE; (first | replace hb := of_decide_eq_true hb | replace hb := of_decide_eq_false hb | (simp only [Bool.not_eq_true', Bool.not_eq_false', decide_eq_true_eq, decide_eq_false_iff_not] at hb) | skip); try (exfalso; first | omega | exact absurd trivial hb | exact absurd rfl hb | (simp only [beq_self_eq_true, bne_self_eq_false, reduceCtorEq] at hb; done))) <;> (first | (refine wl hE rfl ?_; refine qf hE ?_; clear hE a; intro a hE) | (refine wl_skip hE rfl rfl rfl ?_; clear hE a; intro a hE))); all_goals (first | (refine wl hE rfl ?_; refine ql hE hS ?_; clear hE a; intro a hE) | (refine wl_skip hE rfl rfl rfl ?_; clear hE a; intro a hE)); all_goals (first | (refine wl hE rfl ?_; refine qf hE ?_; clear hE a; intro a hE) | (refine wl_skip hE rfl rfl rfl ?_; clear hE a; intro a hE)); all_goals (first | (refine wl hE rfl ?_; refine ql hE hS ?_; clear hE a; intro a hE) | (refine wl_skip hE rfl rfl rfl ?_; clear hE a; intro a hE)); all_goals (first | (refine wl hE rfl ?_; refine is_call 45 rfl ?_; refine qc hE (contains_s A c xs _ _ (hR.move hS) hl) ?_; clear hE; clear a; rintro _ a w ⟨rfl, hS1⟩ hE; replace hS := hS.then hS1; clear hS1) | (refine wl_skip hE rfl rfl rfl ?_; clear hE a; intro a hE)); all_goals (refine wl hE rfl ?_; first | (refine qpt hE ?_; clear hE a; intro a hE) | (refine qpf hE ?_; clear hE a; intro a hE)); all_goals (refine wl hE rfl ?_; refine qa hE ?_; clear hE a; intro a hE)) | refine c_seq ?_ | ((refine c_cond hE rfl ?_ ?_) <;> (intro hb; (first | replace hb := of_decide_eq_true hb | replace hb := of_decide_eq_false hb | (simp only [Bool.not_eq_true', Bool.not_eq_false', decide_eq_true_eq, decide_eq_false_iff_not] at hb) | skip); try (exfalso; first | omega | exact absurd trivial hb | exact absurd rfl hb | (simp only [beq_self_eq_true, bne_self_eq_false, reduceCtorEq] at hb; done)))))
  · exact p_ret hE rfl rfl ⟨_, rfl, by rw [rightP_no (by assumption) (okTo.not h0 (by assumption) (by have := isVlan_f (by assumption); omega))], hS.clean⟩
  · exact p_ret hE rfl rfl ⟨_, rfl, by rw [rightP_no (by assumption) (okTo.not h0 (by assumption) (by omega))], hS.clean⟩
  · exact ⟨_, by omega, i + 1, by omega, by omega, rfl, hk.step h0 (isVlan_t (by assumption)).1 (isVlan_t (by assumption)).2 (by omega), hE.cut ⟨rfl, rfl, rfl, rfl, trivial⟩, hS⟩
  · exact ⟨_, by omega, i + 1, by omega, by omega, rfl, hk.step h0 (isVlan_t (by assumption)).1 (isVlan_t (by assumption)).2 (by omega), hE.cut ⟨rfl, rfl, rfl, rfl, trivial⟩, hS⟩
  · exact p_ret hE rfl rfl ⟨_, rfl, by rw [rightP_yes (by assumption) (hk.all (by assumption))]; simp_all, hS.clean⟩
  · exact p_ret hE rfl rfl ⟨_, rfl, by rw [rightP_yes (by assumption) (hk.all (by assumption))]; simp_all, hS.clean⟩
def lastOf (xs : List Int) (i : Int) : Int := if 0 < i then xs.getD (i - 1).toNat 0 else 0
theorem lastOf.step (xs : List Int) {i : Int} (h0 : 0 ≤ i) : lastOf xs (i + 1) = xs.getD i.toNat 0 := by simp [lastOf, show (0 : Int) < i + 1 by omega]
theorem lastOf.pos {xs : List Int} {i : Int} (h0 : 0 ≤ i) (h1 : i ≤ xs.length) (h : okTo xs i.toNat) : 0 ≤ lastOf xs i := by
  unfold lastOf
  split
  · have := (h (i - 1).toNat (by omega)).1; omega
  · omega
theorem refright_s (tr : Bool) (pv : Int) (A : Option Addr) (c : Nat) (xs : List Int) (w0 : World) (hR : Rd w0 A (ints xs)) (hl : xs.length ≤ 9223372036854775807) : Calls Try.prog 22 #[.agg #[.bool tr, .int .i64 pv, .slice A xs.length c]] w0 fun e w' => ∃ r, e = .returned r ∧ r = .bool (rightP tr pv xs) ∧ Sep w0 w' [] := by
  have hA : (0 : Int) < xs.length → A = some (adr A) := fun h => hR.some (by rw [ints_length]; omega)
  have hT := hR.at_
  refine enter (args := [.agg #[.bool tr, .int .i64 pv, .slice A xs.length c]]) 59 Try.func22 rfl rfl rfl ?_
  intro a hE hS
  repeat' (first | refine wl_nil ?_ | refine then_n ?_ | refine c_block ?_ | refine c_skip ?_ | refine c_ret ?_ | refine then_r ?_ | (refine c_regI 0 ?_; all_goals (refine wl hE rfl ?_; refine qbx hE hS ?_; clear hE hS; clear a; intro g a w hE hS); all_goals (refine wl hE rfl ?_; refine qa hE ?_; clear hE a; intro a hE)) | (refine c_regI 1 ?_; all_goals (refine wl hE rfl ?_; refine qf hE ?_; clear hE a; intro a hE); all_goals (refine wl hE rfl ?_; refine ql hE hS ?_; clear hE a; intro a hE); all_goals (refine wl hE rfl ?_; refine qu hE ?_; clear hE a; intro a hE)) | (refine c_regI 2 ?_; all_goals (refine wl hE rfl ?_; refine qf hE ?_; clear hE a; intro a hE); all_goals (refine wl hE rfl ?_; refine ql hE hS ?_; clear hE a; intro a hE); all_goals (refine wl hE rfl ?_; refine qb hE ?_; clear hE a; intro a hE); all_goals (refine wl hE rfl ?_; refine qm hE ?_; clear hE a; intro a hE); all_goals ((refine wl_splitg hE rfl rfl ?_ ?_) <;> (clear hE; intro hb hE; (first | replace hb := of_decide_eq_true hb | replace hb := of_decide_eq_false hb | (simp only [Bool.not_eq_true', Bool.not_eq_false', decide_eq_true_eq, decide_eq_false_iff_not] at hb) | skip); try (exfalso; first | omega | exact absurd trivial hb | exact absurd rfl hb | (simp only [beq_self_eq_true, bne_self_eq_false, reduceCtorEq] at hb; done))) <;> (first | (refine wl hE rfl ?_; refine qf hE ?_; clear hE a; intro a hE) | (refine wl_skip hE rfl rfl rfl ?_; clear hE a; intro a hE))); all_goals (first | (refine wl hE rfl ?_; refine ql hE hS ?_; clear hE a; intro a hE) | (refine wl_skip hE rfl rfl rfl ?_; clear hE a; intro a hE)); all_goals (first | (refine wl hE rfl ?_; refine qb hE ?_; clear hE a; intro a hE) | (refine wl_skip hE rfl rfl rfl ?_; clear hE a; intro a hE)); all_goals (refine wl hE rfl ?_; first | (refine qpt hE ?_; clear hE a; intro a hE) | (refine qpf hE ?_; clear hE a; intro a hE)); all_goals (refine wl hE rfl ?_; refine qm hE ?_; clear hE a; intro a hE); all_goals (first | (refine wl_skip hE rfl rfl rfl ?_; clear hE a; intro a hE) | ((refine wl_splitg hE rfl rfl ?_ ?_) <;> (clear hE; intro hb hE; (first | replace hb := of_decide_eq_true hb | replace hb := of_decide_eq_false hb | (simp only [Bool.not_eq_true', Bool.not_eq_false', decide_eq_true_eq, decide_eq_false_iff_not] at hb) | skip); try (exfalso; first | omega | exact absurd trivial hb | exact absurd rfl hb | (simp only [beq_self_eq_true, bne_self_eq_false, reduceCtorEq] at hb; done))) <;> (first | (refine wl hE rfl ?_; refine qf hE ?_; clear hE a; intro a hE) | (refine wl_skip hE rfl rfl rfl ?_; clear hE a; intro a hE)))); all_goals (first | (refine wl hE rfl ?_; refine ql hE hS ?_; clear hE a; intro a hE) | (refine wl_skip hE rfl rfl rfl ?_; clear hE a; intro a hE)); all_goals (first | (refine wl hE rfl ?_; refine qn1 hE ?_; clear hE a; intro a hE) | (refine wl_skip hE rfl rfl rfl ?_; clear hE a; intro a hE)); all_goals (first | (refine wl hE rfl ?_; refine qb hE ?_; clear hE a; intro a hE) | (refine wl_skip hE rfl rfl rfl ?_; clear hE a; intro a hE)); all_goals (refine wl hE rfl ?_; first | (refine qpt hE ?_; clear hE a; intro a hE) | (refine qpf hE ?_; clear hE a; intro a hE)); all_goals (refine wl hE rfl ?_; refine qa hE ?_; clear hE a; intro a hE)) | (refine c_regI 3 ?_; all_goals (refine wl hE rfl ?_; refine qa hE ?_; clear hE a; intro a hE)) | (refine c_regI 4 ?_; all_goals (refine wl hE rfl ?_; refine qa hE ?_; clear hE a; intro a hE)) | refine c_seq ?_ | ((refine c_cond hE rfl ?_ ?_) <;> (intro hb; (first | replace hb := of_decide_eq_true hb | replace hb := of_decide_eq_false hb | (simp only [Bool.not_eq_true', Bool.not_eq_false', decide_eq_true_eq, decide_eq_false_iff_not] at hb) | skip); try (exfalso; first | omega | exact absurd trivial hb | exact absurd rfl hb | (simp only [beq_self_eq_true, bne_self_eq_false, reduceCtorEq] at hb; done)))))
  all_goals try (refine p_ret hE rfl rfl ⟨_, rfl, ?_, hS.clean⟩; simp_all [rightP, isVlan] <;> omega)
  refine c_loopN (fun m a w => ∃ i : Int, 0 ≤ i ∧ i ≤ xs.length ∧ m = (xs.length - i).toNat ∧ okTo xs i.toNat ∧ ∃ l, l = lastOf xs i ∧ Env a 59 [(1, .pointer (some ⟨g, 0, none⟩)), (3, .int .i64 l), (4, .int .i64 i)] ∧ Sep w0 w [blk g [.bool tr, .int .i64 pv, .slice A xs.length c] 55]) _ ⟨0, by omega, by omega, rfl, fun i hi => absurd hi (by simp), _, rfl, hE.cut ⟨rfl, rfl, rfl, trivial⟩, hS⟩ ?_
  clear hE hS
  clear a
  rintro m a w ⟨i, h0, h1, rfl, hk, l, hl', hE, hS⟩
  have hp : 0 ≤ l := hl' ▸ lastOf.pos h0 h1 hk
  have hq : 0 < i → l = xs.getD (i - 1).toNat 0 := fun h => by rw [hl']; simp [lastOf, h]
  have hq' : ¬ 0 < i → l = 0 := fun h => by rw [hl']; simp [lastOf, h]
  repeat' (first | refine wl_nil ?_ | refine then_n ?_ | refine c_block ?_ | refine c_skip ?_ | refine c_exit ?_ | refine c_ret ?_ | refine then_r ?_ | refine then_e ?_ | refine inb_n ?_ | refine inb_r ?_ | refine inb_e ?_ | refine c_cond_t hE rfl ?_ | (refine c_regI 5 ?_; all_goals (refine wl hE rfl ?_; refine qm hE ?_; clear hE a; intro a hE); all_goals (refine wl hE rfl ?_; refine qf hE ?_; clear hE a; intro a hE); all_goals (refine wl hE rfl ?_; refine ql hE hS ?_; clear hE a; intro a hE); all_goals (refine wl hE rfl ?_; refine qn1 hE ?_; clear hE a; intro a hE); all_goals (refine wl hE rfl ?_; refine qb hE ?_; clear hE a; intro a hE)) | (refine c_regI 7 ?_; all_goals (refine wl hE rfl ?_; refine qf hE ?_; clear hE a; intro a hE); all_goals (refine wl hE rfl ?_; refine ql hE hS ?_; clear hE a; intro a hE); all_goals (refine wl hE rfl ?_; refine qm hE ?_; clear hE a; intro a hE); all_goals (refine wl hE rfl ?_; refine qi hE hA ?_; clear hE a; intro a hE); all_goals (refine wl hE rfl ?_; refine q0i hE hS hT ?_; clear hE a; intro a hE); all_goals (refine wl hE rfl ?_; refine qm hE ?_; clear hE a; intro a hE); all_goals (refine wl hE rfl ?_; refine qb hE ?_; clear hE a; intro a hE); all_goals (refine wl hE rfl ?_; refine qm hE ?_; clear hE a; intro a hE); all_goals ((refine wl_splitg hE rfl rfl ?_ ?_) <;> (clear hE; intro hb hE; (first | replace hb := of_decide_eq_true hb | replace hb := of_decide_eq_false hb | (simp only [Bool.not_eq_true', Bool.not_eq_false', decide_eq_true_eq, decide_eq_false_iff_not] at hb) | skip); try (exfalso; first | omega | exact absurd trivial hb | exact absurd rfl hb | (simp only [beq_self_eq_true, bne_self_eq_false, reduceCtorEq] at hb; done))) <;> (first | (refine wl hE rfl ?_; refine qf hE ?_; clear hE a; intro a hE) | (refine wl_skip hE rfl rfl rfl ?_; clear hE a; intro a hE))); all_goals (first | (refine wl hE rfl ?_; refine ql hE hS ?_; clear hE a; intro a hE) | (refine wl_skip hE rfl rfl rfl ?_; clear hE a; intro a hE)); all_goals (first | (refine wl hE rfl ?_; refine qm hE ?_; clear hE a; intro a hE) | (refine wl_skip hE rfl rfl rfl ?_; clear hE a; intro a hE)); all_goals (first | (refine wl hE rfl ?_; refine qi hE hA ?_; clear hE a; intro a hE) | (refine wl_skip hE rfl rfl rfl ?_; clear hE a; intro a hE)); all_goals (first | (refine wl hE rfl ?_; refine q0i hE hS hT ?_; clear hE a; intro a hE) | (refine wl_skip hE rfl rfl rfl ?_; clear hE a; intro a hE)); all_goals (first | (refine wl hE rfl ?_; refine qb hE ?_; clear hE a; intro a hE) | (refine wl_skip hE rfl rfl rfl ?_; clear hE a; intro a hE)); all_goals (refine wl hE rfl ?_; first | (refine qpt hE ?_; clear hE a; intro a hE) | (refine qpf hE ?_; clear hE a; intro a hE))) | (refine c_regI 8 ?_; all_goals (refine wl hE rfl ?_; refine qa hE ?_; clear hE a; intro a hE)) | (refine c_regI 9 ?_; all_goals (refine wl hE rfl ?_; refine qf hE ?_; clear hE a; intro a hE); all_goals (refine wl hE rfl ?_; refine ql hE hS ?_; clear hE a; intro a hE); all_goals (refine wl hE rfl ?_; refine qm hE ?_; clear hE a; intro a hE); all_goals (refine wl hE rfl ?_; refine qi hE hA ?_; clear hE a; intro a hE); all_goals (refine wl hE rfl ?_; refine q0i hE hS hT ?_; clear hE a; intro a hE); all_goals (refine wl hE rfl ?_; refine qa hE ?_; clear hE a; intro a hE)) | (refine c_regI 6 ?_; all_goals (refine wl hE rfl ?_; refine qm hE ?_; clear hE a; intro a hE); all_goals (refine wl hE rfl ?_; refine qb hE ?_; clear hE a; intro a hE); all_goals (refine wl hE rfl ?_; refine qa hE ?_; clear hE a; intro a hE)) | (refine c_regI 10 ?_; all_goals (refine wl hE rfl ?_; refine qf hE ?_; clear hE a; intro a hE); all_goals (refine wl hE rfl ?_; refine ql hE hS ?_; clear hE a; intro a hE); all_goals (refine wl hE rfl ?_; refine qb hE ?_; clear hE a; intro a hE); all_goals (refine wl hE rfl ?_; refine qm hE ?_; clear hE a; intro a hE); all_goals ((refine wl_splitg hE rfl rfl ?_ ?_) <;> (clear hE; intro hb hE; (first | replace hb := of_decide_eq_true hb | replace hb := of_decide_eq_false hb | (simp only [Bool.not_eq_true', Bool.not_eq_false', decide_eq_true_eq, decide_eq_false_iff_not] at hb) | skip); try (exfalso; first | omega | exact absurd trivial hb | exact absurd rfl hb | (simp only [beq_self_eq_true, bne_self_eq_false, reduceCtorEq] at hb; done))) <;> (first | (refine wl hE rfl ?_; refine qf hE ?_; clear hE a; intro a hE) | (refine wl_skip hE rfl rfl rfl ?_; clear hE a; intro a hE))); all_goals (first | (refine wl hE rfl ?_; refine ql hE hS ?_; clear hE a; intro a hE) | (refine wl_skip hE rfl rfl rfl ?_; clear hE a; intro a hE)); all_goals (first | (refine wl hE rfl ?_; refine qf hE ?_; clear hE a; intro a hE) | (refine wl_skip hE rfl rfl rfl ?_; clear hE a; intro a hE)); all_goals (first | (refine wl hE rfl ?_; refine ql hE hS ?_; clear hE a; intro a hE) | (refine wl_skip hE rfl rfl rfl ?_; clear hE a; intro a hE)); all_goals (first | (refine wl hE rfl ?_; refine is_call 42 rfl ?_; refine qc hE (among_s A c xs _ _ (hR.move hS) hl) ?_; clear hE; clear a; rintro _ a w ⟨rfl, hS1⟩ hE; replace hS := hS.then hS1; clear hS1) | (refine wl_skip hE rfl rfl rfl ?_; clear hE a; intro a hE)); all_goals (refine wl hE rfl ?_; first | (refine qpt hE ?_; clear hE a; intro a hE) | (refine qpf hE ?_; clear hE a; intro a hE)); all_goals (refine wl hE rfl ?_; refine qa hE ?_; clear hE a; intro a hE)) | refine c_seq ?_ | ((refine c_cond hE rfl ?_ ?_) <;> (intro hb; (first | replace hb := of_decide_eq_true hb | replace hb := of_decide_eq_false hb | (simp only [Bool.not_eq_true', Bool.not_eq_false', decide_eq_true_eq, decide_eq_false_iff_not] at hb) | skip); try (exfalso; first | omega | exact absurd trivial hb | exact absurd rfl hb | (simp only [beq_self_eq_true, bne_self_eq_false, reduceCtorEq] at hb; done)))))
  · exact p_ret hE rfl rfl ⟨_, rfl, by rw [rightP_no (by assumption) (okTo.not h0 (by assumption) (by omega))], hS.clean⟩
  · exact p_ret hE rfl rfl ⟨_, rfl, by rw [rightP_no (by assumption) (okTo.not h0 (by assumption) (by omega))], hS.clean⟩
  · refine ⟨_, by omega, i + 1, by omega, by omega, rfl, hk.step h0 (by omega) (by omega) (by omega), _, (lastOf.step xs h0).symm, hE.cut ⟨rfl, rfl, rfl, trivial⟩, hS⟩
  · exact p_ret hE rfl rfl ⟨_, rfl, by rw [rightP_yes (by assumption) (hk.all (by assumption))]; simp_all, hS.clean⟩
  · exact p_ret hE rfl rfl ⟨_, rfl, by rw [rightP_yes (by assumption) (hk.all (by assumption))]; simp_all, hS.clean⟩
end Go.Proofs.Ytdgpjkddpbiieaa
/- DERIVED. Contracts of layer 16: bounds, ports for the fixed calls, lists of ports. No condition. -/
namespace Go.Proofs.Ytdgpjkddpbiieaa
open Go.RowKit Go.Sx Go.Proofs.YtdgpjkddpbiieaaTy
set_option linter.unusedVariables false
set_option linter.unusedSimpArgs false
set_option maxRecDepth 100000
attribute [local irreducible] Oper.wp Code.wp wpList wpAnyH Calls bodyPost Exit.then Exit.inBlock Code.rounds
set_option maxHeartbeats 1000000
theorem bound_s (tr : Bool) (pv : Int) (A : Option Addr) (c : Nat) (xs : List Int) (w0 : World) (hR : Rd w0 A (ints xs)) (hl : xs.length ≤ 9223372036854775807) (hc : xs.length ≤ c) : Calls Try.prog 19 #[.agg #[.bool tr, .int .i64 pv, .slice A xs.length c]] w0 fun e w' => ∃ r, e = .returned r ∧ ∃ A' c', r = .agg #[.bool tr, .int .i64 pv, .slice A' (xs.take 12).length c'] ∧ Sep w0 w' [row 3 1 (.slice A' (xs.take 12).length c') (xs.take 12).length (ints (xs.take 12))] := by
  refine enter (args := [.agg #[.bool tr, .int .i64 pv, .slice A xs.length c]]) 14 Try.func19 rfl rfl rfl ?_
  intro a hE hS
  repeat' (first | refine wl_nil ?_ | refine then_n ?_ | refine c_ret ?_ | (refine c_regI 0 ?_; all_goals (refine wl hE rfl ?_; refine qbx hE hS ?_; clear hE hS; clear a; intro g a w hE hS); all_goals (refine wl hE rfl ?_; refine qal hE hS ?_; clear hE hS; clear a; intro g a w hE hS)) | (refine c_regI 1 ?_; all_goals (refine wl hE rfl ?_; refine qbs0 hE hS ?_; clear hE hS; clear a; intro g a w hE hS); all_goals (refine wl hE rfl ?_; refine qf hE ?_; clear hE a; intro a hE); all_goals (refine wl hE rfl ?_; refine ql hE hS ?_; clear hE a; intro a hE); all_goals (refine wl hE rfl ?_; refine qf hE ?_; clear hE a; intro a hE); all_goals (refine wl hE rfl ?_; refine ql hE hS ?_; clear hE a; intro a hE); all_goals (refine wl hE rfl ?_; refine qn1 hE ?_; clear hE a; intro a hE); all_goals (refine wl hE rfl ?_; refine qmin hE ?_; clear hE a; intro a hE); all_goals (refine wl hE rfl ?_; refine qsh (xs.take 12).length hE ?_; clear hE a; intro a hE); all_goals (refine wl hE rfl ?_; refine qap hE hS (news := ints (xs.take 12)) (N := (xs.take 12).length) (ys := ints (xs.take 12)) (ints_take xs 12 ▸ (hR.move hS).take 12) (ints_one _) ?_; clear hE hS; clear a; intro A' c' a w hE hS); all_goals (refine wl hE rfl ?_; refine qf hE ?_; clear hE a; intro a hE); all_goals (refine wl hE rfl ?_; refine qst hE hS ?_; clear hS; intro w hS)) | (refine c_regI 2 ?_; all_goals (refine wl hE rfl ?_; refine qL hE hS ?_; clear hE a; intro a hE); all_goals (refine wl hE rfl ?_; refine qst0 hE hS ?_; clear hS; intro w hS)) | refine c_seq ?_)
  exact p_ret1 hE rfl (rc hE hS .nil) ⟨_, rfl, A', c', rfl, hS.only⟩
end Go.Proofs.Ytdgpjkddpbiieaa
/- DERIVED. Walks inside a fence, for ranges over a function: the code's rules, an iterator's call of yield. No condition. -/
namespace Go.Sx
open Go.RowKit
set_option linter.unusedVariables false
set_option linter.unusedSimpArgs false
/-- A fence that lets all in. -/
structure Wide (F : Fence) (P : Program) : Prop where
  fn : ∀ f, F.fn f
  depth : F.depth = none
  calls : ∀ (n : Nat) (f : FuncId) (args : Array Value) (w : World) (R : Ending → World → Prop), Calls P f args w R → CallsIn F n P f args w R
  rows : ∀ (n : Nat) (row : String) (args : Array Value) (w : World) (R : Value → World → Prop), Rows P row args w R → RowsIn F n P row args w R
theorem Wide.deep {F : Fence} {P : Program} (W : Wide F P) {q : Prop} : F.depth.isSome = true → q := fun h => by
  rw [W.depth] at h
  cases h
theorem wide_wide (P : Program) : Wide Fence.wide P := ⟨fun _ => trivial, rfl, fun _ _ _ _ _ h => callsIn_wide.2 h, fun n row args w R h c cs _ => by
  obtain ⟨v, w', r, s⟩ := h c cs
  exact ⟨v, w', r, stepsIn_wide.2 s⟩⟩
section
variable {F : Fence} {m : Nat} {P : Program} {ops : Array Oper} {rest : List Oper} {o : Oper} {a : Act} {w w0 : World} {Q : Exit → Act → World → Prop} {n : Nat} {env : List (Nat × Value)} {L : List Asn} {K : Act → World → Prop}
theorem semAt_any (hr : ∀ c, o.op ≠ .defer c) (ρ : Operand → Value) : o.semAt F.round ρ = execOp ρ o := by
  cases F.round with
  | none => rfl
  | some l => exact Oper.semAt_some l ρ o hr
theorem oi (W : Wide F P) (hr : ∀ c, o.op ≠ .defer c) (h : o.wp P a w K Q) : o.wpIn F m P a w K Q := by
  refine ⟨fun f _ => W.fn f, ?_⟩
  rw [semAt_any hr]
  unfold Oper.wp at h
  revert h
  generalize (execOp a.eval o).run P w = r
  intro h
  unfold Oper.upon at h
  unfold Oper.uponIn
  split at h <;> first | exact h | exact h.elim | (exact ⟨W.deep, W.calls _ _ _ _ _ h⟩) | (exact ⟨W.deep, W.rows _ _ _ _ _ h⟩)
/-- An operation of a list. -/
theorem wli (W : Wide F P) (hE : Env a n env) (hg : guardIs ops env o = some true) (hr : ∀ c, o.op ≠ .defer c) (h : o.wp P a w (wpListIn F m P ops Q rest) Q) : wpListIn F m P ops Q (o :: rest) a w := by
  show (if Region.wanted o (yielded ops a.tmps) then o.wpIn F m P a w (wpListIn F m P ops Q rest) Q else _)
  rw [if_pos (hE.guard hg)]
  exact oi W hr h
theorem wli_skip (W : Wide F P) (hE : Env a n env) (hg : guardIs ops env o = some false) {d : Tmp} (hd : o.dst = some d) (hlt : Nat.blt d n = true) (k : ∀ a', Env a' n ((d, undef) :: env) → wpListIn F m P ops Q rest a' w) : wpListIn F m P ops Q (o :: rest) a w := by
  show (if Region.wanted o (yielded ops a.tmps) then o.wpIn F m P a w (wpListIn F m P ops Q rest) Q else _)
  rw [if_neg (by rw [hE.guard hg]; simp)]
  exact ⟨fun f _ => W.fn f, k _ (hE.putS _ hd hlt)⟩
theorem wli_split {l : List Oper} (hE : Env a n env) (t : Nat) {b : Bool} (hf : find env t = some (.bool b))
    (ht : b = true → Env a n ((t, .bool true) :: env) → wpListIn F m P ops Q l a w) (hn : b = false → Env a n ((t, .bool false) :: env) → wpListIn F m P ops Q l a w) : wpListIn F m P ops Q l a w := by
  cases b with
  | true => exact ht rfl (hE.know hf rfl)
  | false => exact hn rfl (hE.know hf rfl)
theorem wli_splitg {rest : List Oper} (hE : Env a n env) {t : Nat} (hg : (o.guard.bind fun p => (ops[p.1]?).bind (·.dst)) = some t) {b : Bool} (hf : find env t = some (.bool b))
    (ht : b = true → Env a n ((t, .bool true) :: env) → wpListIn F m P ops Q (o :: rest) a w) (hn : b = false → Env a n ((t, .bool false) :: env) → wpListIn F m P ops Q (o :: rest) a w) : wpListIn F m P ops Q (o :: rest) a w :=
  wli_split hE t hf ht hn
/-- The call of yield. -/
theorem wli_yield (W : Wide F P) (hE : Env a n env) (hg : guardIs ops env o = some true) {l : Nat} {x : Operand} {ars : Array Operand} {ts : Array TypeId} {vs : List Value} {R : Ending → World → Prop} (ho : o.op = .call { callee := .value x, args := ars, argTypes := ts })
    (hx : opv env x = some (.func (.yield l) #[] #[])) (ha : argsOf env ars.toList = some vs) (hy : YieldAt F (m - 1) P l vs.toArray w R) {d : Tmp} (hd : o.dst = some d) (hlt : Nat.blt d n = true)
    (k : ∀ e a' w', R e w' → ∃ v, e = .returned v ∧ (Env a' n ((d, v) :: env) → wpListIn F m P ops Q rest a' w')) : wpListIn F m P ops Q (o :: rest) a w := by
  show (if Region.wanted o (yielded ops a.tmps) then o.wpIn F m P a w (wpListIn F m P ops Q rest) Q else _)
  rw [if_pos (hE.guard hg)]
  refine ⟨fun f _ => W.fn f, ?_⟩
  rw [semAt_any (by rw [ho]; intro c h; cases h)]
  obtain ⟨fn, tmps, assign, body, hr, hR⟩ := hy
  have hm : ars.map a.eval = vs.toArray := by
    have := hE.args ha
    apply Array.toList_inj.1
    simpa using this
  have hrun : (execOp a.eval o).run P w = .ok (.round l fn tmps assign body) w := by
    simp [execOp, ho, resolve, hm, hE.eval hx, Deferred.ofValue, invoke, hr]
  rw [hrun]
  refine ⟨W.deep, hR.mono fun e w' h => ?_⟩
  cases e with
  | returned u =>
    obtain ⟨v, hv, hk⟩ := k _ (a.put o.dst u) w' h
    cases hv
    exact hk (hE.putS u hd hlt)
  | panicked ch =>
    obtain ⟨v, hv, _⟩ := k _ a w' h
    cases hv
  | outgrown =>
    obtain ⟨v, hv, _⟩ := k _ a w' h
    cases hv
/-- A function value. -/
theorem qmf {f : FuncId} {A B : Array Operand} {va vb : List Value} {d : Tmp} (hE : Env a n env) (k : ∀ a', Env a' n ((d, .func (.func f) va.toArray vb.toArray) :: env) → K a' w) (ho : o.op = .makeFunc (.func f) A B := by exact rfl) (ha : argsOf env A.toList = some va := by exact rfl) (hb : argsOf env B.toList = some vb := by exact rfl) (hd : o.dst = some d := by exact rfl) (hlt : Nat.blt d n = true := by exact rfl) : o.wp P a w K Q := by
  have e1 : A.map a.eval = va.toArray := Array.toList_inj.1 (by simpa using hE.args ha)
  have e2 : B.map a.eval = vb.toArray := Array.toList_inj.1 (by simpa using hE.args hb)
  refine o_makeFunc hE ho e1 e2 ?_ hd hlt k
  rfl
theorem wli_nil (h : Q .normal a w) : wpListIn F m P ops Q [] a w := h
end
section
variable {F : Fence} {m : Nat} {P : Program} {a : Act} {w w0 : World} {Q : Exit → Act → World → Prop} {n : Nat} {env : List (Nat × Value)} {id : Nat}
theorem ci_wide {c : Code} (h : c.wpIn Fence.wide m P Q a w) : c.wp P Q a w := wpIn_wide.1 h
theorem ci_block {c : Code} (h : c.wpIn F m P (Exit.inBlock id Q) a w) : (Code.block id c).wpIn F m P Q a w := wpIn_block h
theorem ci_skip (h : Q .normal a w) : Code.skip.wpIn F m P Q a w := wpIn_skip h
theorem ci_exit (h : Q (.exit id) a w) : (Code.exit id).wpIn F m P Q a w := wpIn_exit h
theorem ci_ret (h : Q .ret a w) : Code.ret.wpIn F m P Q a w := wpIn_ret h
theorem ci_seq {x y : Code} (h : x.wpIn F m P (Exit.then (y.wpIn F m P Q) Q) a w) : (Code.seq x y).wpIn F m P Q a w := wpIn_seq h
theorem ci_reg {l : List Oper} (h : wpListIn F m P l.toArray Q l a w) : (Code.region id l.toArray false).wpIn F m P Q a w := wpIn_region_lit h
theorem ci_regI (id : Nat) {l : List Oper} (h : wpListIn F m P l.toArray Q l a w) : (Code.region id l.toArray false).wpIn F m P Q a w := ci_reg h
theorem ci_cond {c : Operand} {x y : Code} {b : Bool} (hE : Env a n env) (hc : opv env c = some (.bool b)) (ht : b = true → x.wpIn F m P Q a w) (hf : b = false → y.wpIn F m P Q a w) : (Code.cond c x y).wpIn F m P Q a w :=
  wpIn_cond_split (hE.eval hc) ht hf
theorem ci_cond_t {c : Operand} {x y : Code} (hE : Env a n env) (hc : opv env c = some (.bool true)) (h : x.wpIn F m P Q a w) : (Code.cond c x y).wpIn F m P Q a w := wpIn_cond_true (hE.eval hc) h
theorem ci_cond_f {c : Operand} {x y : Code} (hE : Env a n env) (hc : opv env c = some (.bool false)) (h : y.wpIn F m P Q a w) : (Code.cond c x y).wpIn F m P Q a w := wpIn_cond_false (hE.eval hc) h
/-- A loop, by a number that falls. -/
theorem ci_loopN {c : Code} (I : Nat → Act → World → Prop) (k : Nat) (h₀ : I k a w) (round : ∀ k a w, I k a w → c.wpIn F m P (Exit.then (fun a' w' => ∃ k', k' < k ∧ I k' a' w') Q) a w) : (Code.loop c).wpIn F m P Q a w := by
  have least : ∀ (p : Nat → Prop) (k : Nat), p k → ∃ j, p j ∧ ∀ i, p i → j ≤ i := fun p k => by
    induction k using Nat.strongRecOn with
    | ind k ih =>
      intro hk
      by_cases h : ∃ j, j < k ∧ p j
      · obtain ⟨j, hj, hp⟩ := h
        exact ih j hj hp
      · exact ⟨k, hk, fun i hi => by
          rcases Nat.lt_or_ge i k with h1 | h1
          · exact absurd ⟨i, h1, hi⟩ h
          · exact h1⟩
  classical
  have lw : ∀ a w, (∃ k, I k a w) → ∃ j, I j a w ∧ ∀ i, I i a w → j ≤ i := fun a w ⟨k, hk⟩ => least (fun k => I k a w) k hk
  refine wpIn_loop (fun a w => ∃ k, I k a w) (fun a w => if h : ∃ k, I k a w then Classical.choose (lw a w h) else 0) ⟨k, h₀⟩ ?_
  intro a w h
  have hk := Classical.choose_spec (lw a w h)
  refine wpIn_mono (round _ a w hk.1) fun e a' w' hq => ?_
  cases e <;> first | exact hq | skip
  obtain ⟨k', hlt, hI⟩ := hq
  refine ⟨⟨k', hI⟩, ?_⟩
  have h' : ∃ k, I k a' w' := ⟨k', hI⟩
  simp only [dif_pos h, dif_pos h']
  exact Nat.lt_of_le_of_lt ((Classical.choose_spec (lw a' w' h')).2 _ hI) hlt
end
/-! ### what is owned abides what turns no cells -/
def Cellular (A : Asn) : Prop := ∀ w F, A.P w F → ∀ k, F k → ∃ o : Obj, w.heap[k]? = some o ∧ o.isCells = true
theorem SepL.cellular {w : World} : ∀ {L : List Asn} {F : Foot}, (∀ A ∈ L, Cellular A) → SepL w L F → ∀ k, F k → ∃ o : Obj, w.heap[k]? = some o ∧ o.isCells = true
  | [], F, _, h, k, hk => (h k hk).elim
  | A :: L, F, hc, ⟨F1, F2, hF, _, hA, hL⟩, k, hk => by
    rcases (hF k).1 hk with h1 | h2
    · exact hc A (by simp) w F1 hA k h1
    · exact SepL.cellular (fun B hB => hc B (by simp [hB])) hL k h2
theorem Sep.kept {w0 w w' : World} {L : List Asn} {r : Option Nat} {B : Nat} (h : Sep w0 w L) (hc : ∀ A ∈ L, Cellular A) (hB : w0.heap.size ≤ B) (hg : w.grownBy w' r) (hr : ∀ k, r = some k → B ≤ k ∧ ∃ o : Obj, w.heap[k]? = some o ∧ o.isCells = false) : Sep w0 w' L := by
  obtain ⟨F, hL, hF⟩ := h.own
  have hs : ∀ k, F k → w'.heap[k]? = w.heap[k]? := fun k hk => hg.block k (hF k hk).2 fun e => by
    obtain ⟨_, o, ho, hoc⟩ := hr k e.symm
    obtain ⟨o', ho', hoc'⟩ := hL.cellular hc k hk
    rw [ho] at ho'; cases ho'; rw [hoc] at hoc'; cases hoc'
  refine ⟨⟨hg.os.trans h.below.os, hg.tape.trans h.below.tape, hg.output.trans h.below.output, Nat.le_trans h.below.size hg.size, fun k hk => ?_⟩, F, hL.move hs, fun k hk => ⟨(hF k hk).1, Nat.lt_of_lt_of_le (hF k hk).2 hg.size⟩⟩
  rw [hg.block k (Nat.lt_of_lt_of_le hk h.below.size) fun e => by have := (hr k e.symm).1; omega, h.below.block k hk]
/-- What a walk of one's own made since w: all that lay there lies. -/
theorem Sep.grown {w0 w : World} {L : List Asn} (h : Sep w0 w L) : w0.grownBy w none := ⟨h.below.os, h.below.tape, h.below.output, h.below.size, fun k hk _ => h.below.block k hk⟩
/-- What an iterator asks a round to keep: these blocks. -/
def KeepsB (S : Nat → Prop) (X Y : World) : Prop := X.heap.size ≤ Y.heap.size ∧ ∀ k, S k → Y.heap[k]? = X.heap[k]?
theorem KeepsB.trans {S : Nat → Prop} {X Y Z : World} (h : KeepsB S X Y) (k : KeepsB S Y Z) : KeepsB S X Z := ⟨Nat.le_trans h.1 k.1, fun i hi => (k.2 i hi).trans (h.2 i hi)⟩
theorem KeepsB.cell {S : Nat → Prop} {X Y : World} (h : KeepsB S X Y) {ad : Addr} {v : Value} (hS : S ad.block) (hc : X.cell? ad = some v) : Y.cell? ad = some v := (World.cell?_of_block (h.2 _ hS)).trans hc
end Go.Sx
/- DERIVED. Layer 16: the ports that have a VLAN (a range over a function). No condition. -/
namespace Go.Proofs.Ytdgpjkddpbiieaa
open Go.RowKit Go.Shelf Go.Sx Go.Proofs.YtdgpjkddpbiieaaTy
set_option linter.unusedVariables false
set_option linter.unusedSimpArgs false
set_option maxRecDepth 100000
attribute [local irreducible] Oper.wp Code.wp wpList wpAnyH Calls bodyPost Exit.then Exit.inBlock Code.rounds
set_option maxHeartbeats 1000000
structure Cfg where
  tr : Bool
  pv : Int
  A : Option Addr
  c : Nat
  xs : List Int
def Cfg.cells (x : Cfg) : List Value := [.bool x.tr, .int .i64 x.pv, .slice x.A x.xs.length x.c]
def C0 : Cfg := ⟨false, 0, none, 0, []⟩
theorem clen (x : Cfg) : x.cells.length = 3 := rfl
/-- What can be read of a port. -/
def CfgR (w : World) (x : Cfg) : Prop := Rd w x.A (ints x.xs) ∧ x.xs.length ≤ 9223372036854775807
theorem CfgR.move {w0 w : World} {L : List Asn} {x : Cfg} (h : CfgR w0 x) (hS : Sep w0 w L) : CfgR w x := ⟨h.1.move hS, h.2⟩
def hasC (x : Cfg) (vid : Int) : Bool := hasP x.tr x.pv x.xs vid
/-- The numbers of those that have it, so far. -/
def portsTo (l : List Cfg) (vid : Int) : Nat → List Int
  | 0 => []
  | i + 1 => if hasC (l.getD i C0) vid = true then portsTo l vid i ++ [(i : Int) + 1] else portsTo l vid i
theorem portsTo_len (l : List Cfg) (vid : Int) : ∀ i, (portsTo l vid i).length ≤ i
  | 0 => by simp [portsTo]
  | i + 1 => by
    have := portsTo_len l vid i
    simp only [portsTo]
    split
    · rw [List.length_append, List.length_singleton]; omega
    · omega
theorem getD_memC {l : List Cfg} {i : Nat} (h : i < l.length) : l.getD i C0 ∈ l := by simp [h]
theorem having_s (A : Option Addr) (n c : Nat) (vid : Int) (w0 : World) : Calls Try.prog 75 #[.slice A n c, .int .i64 vid] w0 fun e w' => ∃ r, e = .returned r ∧ ∃ b2 b3, r = .func (.func 87) #[] #[.pointer (some ⟨b2, 0, none⟩), .pointer (some ⟨b3, 0, none⟩)] ∧ Sep w0 w' [blk b3 [.int .i64 vid] 3, blk b2 [.slice A n c] 22] := by
  refine enter (args := [.slice A n c, .int .i64 vid]) 6 Try.func75 rfl rfl rfl ?_
  intro a hE hS
  repeat' (first | refine wl_nil ?_ | refine then_n ?_ | refine c_ret ?_ | (refine c_regI 0 ?_; all_goals (refine wl hE rfl ?_; refine qbx hE hS ?_; clear hE hS; clear a; intro g a w hE hS); all_goals (refine wl hE rfl ?_; refine qbx hE hS ?_; clear hE hS; clear a; intro g a w hE hS); all_goals (refine wl hE rfl ?_; refine qa hE ?_; clear hE a; intro a hE)) | (refine c_regI 1 ?_; all_goals (refine wl hE rfl ?_; refine qmf hE ?_; clear hE; clear a; intro a hE); all_goals (refine wl hE rfl ?_; refine qa hE ?_; clear hE a; intro a hE)) | refine c_seq ?_)
  exact p_ret hE rfl rfl ⟨_, rfl, _, _, rfl, hS⟩
end Go.Proofs.Ytdgpjkddpbiieaa
/- DERIVED. Layer 16: the ports that have a VLAN: the iterator and its caller. No condition. -/
namespace Go.Proofs.Ytdgpjkddpbiieaa
open Go.RowKit Go.Shelf Go.Sx Go.Proofs.YtdgpjkddpbiieaaTy
set_option linter.unusedVariables false
set_option linter.unusedSimpArgs false
set_option maxRecDepth 100000
attribute [local irreducible] Oper.wp Code.wp wpList wpAnyH Calls bodyPost Exit.then Exit.inBlock Code.rounds
set_option maxHeartbeats 1000000
/-- What the iterator asks a round to keep. -/
def KpB (n0 b3 : Nat) (X Y : World) : Prop := Below n0 X Y ∧ Y.heap[b3]? = X.heap[b3]?
theorem KpB.trans {n0 b3 : Nat} {X Y Z : World} (h : KpB n0 b3 X Y) (k : KpB n0 b3 Y Z) : KpB n0 b3 X Z := ⟨h.1.trans k.1, k.2.trans h.2⟩
theorem sep_of_below {w0 w : World} (h : Below w0.heap.size w0 w) : Sep w0 w [] := ⟨h, fun _ => False, fun _ h => h, fun _ h => h.elim⟩
theorem having1_stops (b2 b3 : Nat) (A : Option Addr) (c : Nat) (l : List Cfg) (vid : Int) (w00 w : World) (hw : Below w00.heap.size w00 w) (hn0 : w00.heap.size ≤ w.heap.size)
    (h2 : w.heap[b2]? = some (.cells #[.slice A l.length c] 22 (0, 0))) (h3 : w.heap[b3]? = some (.cells #[.int .i64 vid] 3 (0, 0)))
    (hR : Rd w00 A (l.flatMap Cfg.cells)) (hX : ∀ x ∈ l, CfgR w00 x) (hl : l.length ≤ 1073741824) (n : Nat) :
    SeqStopsK Fence.wide n Try.prog 87 #[.pointer (some ⟨b2, 0, none⟩), .pointer (some ⟨b3, 0, none⟩)] (fun x : Int => #[Value.int .i64 x]) (KpB w00.heap.size b3) (fun ys => ys = portsTo l vid l.length) (fun _ => True) l.length w := by
  intro id J Jx W hW hJ hJx hY h0
  have hW0 : Below w00.heap.size w00 W := hw.trans (hW.mono hn0)
  have h2' : W.heap[b2]? = some (.cells #[.slice A l.length c] 22 (0, 0)) := (hW.block b2 (Array.getElem?_eq_some_iff.1 h2).1).trans h2
  have h3' : W.heap[b3]? = some (.cells #[.int .i64 vid] 3 (0, 0)) := (hW.block b3 (Array.getElem?_eq_some_iff.1 h3).1).trans h3
  have hT2 : At W ⟨b2, 0, none⟩ [.slice A l.length c] := at_blk (off := 0) h2'
  refine callsIn_wide.2 (enter (args := [.func (.yield id) #[] #[], .pointer (some ⟨b2, 0, none⟩), .pointer (some ⟨b3, 0, none⟩)]) 24 Try.func87 rfl rfl rfl ?_)
  intro a hE hS
  refine ci_wide (m := n) ?_
  have hWd := wide_wide Try.prog
  have hA : (0 : Int) < l.length → A = some (adr A) := fun h => hR.some (by rw [flat_len clen]; omega)
  have hW := hWd
  repeat' (first | (refine ci_regI 0 ?_; all_goals (refine wli hW hE rfl (by intro c h; cases h) ?_; first | (refine q0 hE hS hT2 ?_; clear hE a; intro a hE) | (refine ql hE hS ?_; clear hE a; intro a hE) | (refine qL hE hS ?_; clear hE a; intro a hE) | (refine qlr hE hS ?_; clear hE a; intro a hE)); all_goals (refine wli hW hE rfl (by intro c h; cases h) ?_; first | (refine qn1 hE ?_; clear hE a; intro a hE) | (refine qns hE ?_; clear hE a; intro a hE)); all_goals (refine wli hW hE rfl (by intro c h; cases h) ?_; refine qm hE ?_; clear hE a; intro a hE)) | (refine wli hW hE rfl (by intro c h; cases h) ?_; first | ((first | refine qm hE ?_ | refine qa hE ?_ | refine qb hE ?_ | refine qFF hE ?_ | refine qf hE ?_ | refine ql hE hS ?_ | refine qn hE ?_ | refine qe hE ?_ | refine qpt hE ?_ | refine qpf hE ?_ | refine qu hE ?_ | refine qn1 hE ?_ | refine qns hE ?_ | refine qL hE hS ?_ | refine qbu hE ?_ | refine qF hE ?_ | refine qnf hE ?_ | refine qmin hE ?_ | refine qmax hE ?_ | refine qssh hE ?_ | refine qix1 hE ?_ | refine qix hE ?_ | refine qia hE ?_ | refine qbA hE ?_ | refine qbE hE ?_ | refine qbN hE ?_ | refine qcv hE ?_ | refine qfd1 hE ?_ | refine qfd hE ?_ | refine qi hE (fun _ => rfl) ?_ | refine qlr hE hS ?_ | refine qb2 hE ?_ | refine qng hE ?_ | refine qpn hE ?_ | refine q0 hE hS hT2 ?_); clear hE a; intro a hE) | ((first | refine qst0 hE hS ?_ | refine qst hE hS ?_); clear hS; intro w hS) | ((first | refine qal hE hS ?_ | refine qbx hE hS ?_ | refine qbs1 hE hS ?_ | refine qbs hE hS ?_ | refine qbs0 hE hS ?_); clear hE hS; clear a; intro g a w hE hS)) | refine ci_reg ?_ | refine wli_nil ?_ | refine then_n ?_ | refine ci_block ?_ | refine ci_skip ?_ | refine ci_exit ?_ | refine ci_ret ?_ | refine then_r ?_ | refine then_e ?_ | refine inb_n ?_ | refine inb_r ?_ | refine inb_e ?_ | refine inb_o rfl ?_ | refine ci_cond_t hE rfl ?_ | refine ci_cond_f hE rfl ?_ | refine ci_seq ?_ | (refine wli_skip hW hE rfl rfl rfl ?_; clear hE a; intro a hE) | ((refine wli_splitg hE rfl rfl ?_ ?_) <;> (clear hE; intro hb hE; (first | replace hb := of_decide_eq_true hb | replace hb := of_decide_eq_false hb | (simp only [Bool.not_eq_true', Bool.not_eq_false', decide_eq_true_eq, decide_eq_false_iff_not] at hb) | skip); try (exfalso; first | omega | exact absurd trivial hb | exact absurd rfl hb | (simp only [beq_self_eq_true, bne_self_eq_false, reduceCtorEq] at hb; done)))) | ((refine ci_cond hE rfl ?_ ?_) <;> (intro hb; (first | replace hb := of_decide_eq_true hb | replace hb := of_decide_eq_false hb | (simp only [Bool.not_eq_true', Bool.not_eq_false', decide_eq_true_eq, decide_eq_false_iff_not] at hb) | skip); try (exfalso; first | omega | exact absurd trivial hb | exact absurd rfl hb | (simp only [beq_self_eq_true, bne_self_eq_false, reduceCtorEq] at hb; done)))))
  refine ci_loopN (fun m a w => ∃ i : Int, 0 ≤ i ∧ i ≤ l.length ∧ m = (l.length - i).toNat ∧ Env a 24 [(0, .func (.yield id) #[] #[]), (2, .pointer (some ⟨b3, 0, none⟩)), (6, .slice A l.length c), (7, .int .i64 l.length), (8, .int .i64 i)] ∧ Below w00.heap.size w00 w ∧ w.heap[b3]? = some (.cells #[.int .i64 vid] 3 (0, 0)) ∧ J (portsTo l vid i.toNat) w ∧ W.heap.size ≤ w.heap.size) _ ⟨0, by omega, by omega, rfl, hE.cut ⟨rfl, rfl, rfl, rfl, rfl, trivial⟩, hW0.trans (hS.below.mono hW0.size), (hS.below.block b3 (Array.getElem?_eq_some_iff.1 h3').1).trans h3', hJ _ _ _ none h0 hS.grown (fun r e => by cases e), hS.below.size⟩ ?_
  clear hE hS a
  rintro m a wr ⟨i, hi0, hi1, rfl, hE, hB, h3r, hJr, hsz⟩
  have hS := Sep.nil wr
  obtain ⟨x, hx⟩ : ∃ x, l.getD i.toNat C0 = x := ⟨_, rfl⟩
  have hT : At wr (adr A) (l.flatMap Cfg.cells) := (hR.move (sep_of_below hB)).at_
  have hT3 : At wr ⟨b3, 0, none⟩ [.int .i64 vid] := at_blk (off := 0) h3r
  have hxR : ∀ _ : Unit, i < l.length → CfgR wr x := fun _ h => CfgR.move (hX x (hx ▸ getD_memC (by omega))) (sep_of_below hB)
  have hpl := portsTo_len l vid i.toNat
  have hst : portsTo l vid (i + 1).toNat = if hasP x.tr x.pv x.xs vid = true then portsTo l vid i.toNat ++ [i + 1] else portsTo l vid i.toNat := by
    rw [show (i + 1).toNat = i.toNat + 1 by omega, portsTo, hx, hasC, Int.toNat_of_nonneg hi0]
  obtain ⟨w, hwr⟩ : ∃ w, w = wr := ⟨_, rfl⟩
  have hS' : Sep wr w [] := hwr ▸ hS
  clear hS
  have hS := hS'
  clear hS'
  rw [← hwr]
  clear hwr
  repeat' (first | (refine ci_regI 1 ?_; all_goals (refine wli hW hE rfl (by intro c h; cases h) ?_; first | (refine qb hE ?_; clear hE a; intro a hE) | (refine qb2 hE ?_; clear hE a; intro a hE) | (refine qbE hE ?_; clear hE a; intro a hE) | (refine qbN hE ?_; clear hE a; intro a hE) | (refine qpn hE ?_; clear hE a; intro a hE))) | (refine ci_regI 2 ?_; all_goals (refine wli hW hE rfl (by intro c h; cases h) ?_; refine qm hE ?_; clear hE a; intro a hE); all_goals (refine wli hW hE rfl (by intro c h; cases h) ?_; first | (refine qi hE hA ?_; clear hE a; intro a hE) | (refine qi hE (fun _ => rfl) ?_; clear hE a; intro a hE) | (refine qia hE ?_; clear hE a; intro a hE)); all_goals (refine wli hW hE rfl (by intro c h; cases h) ?_; first | (refine qLs (i := i) (us := x.cells) (df := C0) hE hS clen hT (by rw [hx]) ?_; clear hE a; intro a hE) | (refine q0 hE hS hT3 ?_; clear hE a; intro a hE) | (refine ql hE hS ?_; clear hE a; intro a hE) | (refine qL hE hS ?_; clear hE a; intro a hE) | (refine qlr hE hS ?_; clear hE a; intro a hE)); all_goals (refine wli hW hE rfl (by intro c h; cases h) ?_; refine qal hE hS ?_; clear hE hS; clear a; intro g a w hE hS); all_goals (refine wli hW hE rfl (by intro c h; cases h) ?_; refine qa hE ?_; clear hE a; intro a hE); all_goals (refine wli hW hE rfl (by intro c h; cases h) ?_; first | (refine qst0 hE hS ?_; clear hS; intro w hS) | (refine qst hE hS ?_; clear hS; intro w hS))) | (refine ci_regI 4 ?_; all_goals (refine wli hW hE rfl (by intro c h; cases h) ?_; first | (refine qb hE ?_; clear hE a; intro a hE) | (refine qb2 hE ?_; clear hE a; intro a hE) | (refine qbE hE ?_; clear hE a; intro a hE) | (refine qbN hE ?_; clear hE a; intro a hE) | (refine qpn hE ?_; clear hE a; intro a hE)); all_goals (refine wli hW hE rfl (by intro c h; cases h) ?_; refine qm hE ?_; clear hE a; intro a hE)) | (refine wli hW hE rfl (by intro c h; cases h) ?_; first | ((first | refine qm hE ?_ | refine qa hE ?_ | refine qb hE ?_ | refine qFF hE ?_ | refine qf hE ?_ | refine ql hE hS ?_ | refine qn hE ?_ | refine qe hE ?_ | refine qpt hE ?_ | refine qpf hE ?_ | refine qu hE ?_ | refine qn1 hE ?_ | refine qns hE ?_ | refine qL hE hS ?_ | refine qbu hE ?_ | refine qF hE ?_ | refine qnf hE ?_ | refine qmin hE ?_ | refine qmax hE ?_ | refine qssh hE ?_ | refine qix1 hE ?_ | refine qix hE ?_ | refine qia hE ?_ | refine qbA hE ?_ | refine qbE hE ?_ | refine qbN hE ?_ | refine qcv hE ?_ | refine qfd1 hE ?_ | refine qfd hE ?_ | refine qi hE (fun _ => rfl) ?_ | refine qlr hE hS ?_ | refine qb2 hE ?_ | refine qng hE ?_ | refine qpn hE ?_ | refine qi hE hA ?_ | refine qLs (i := i) (us := x.cells) (df := C0) hE hS clen hT (by rw [hx]) ?_ | refine q0 hE hS hT3 ?_); clear hE a; intro a hE) | ((first | refine qst0 hE hS ?_ | refine qst hE hS ?_); clear hS; intro w hS) | ((first | refine qal hE hS ?_ | refine qbx hE hS ?_ | refine qbs1 hE hS ?_ | refine qbs hE hS ?_ | refine qbs0 hE hS ?_); clear hE hS; clear a; intro g a w hE hS) | (refine is_call 47 rfl ?_; refine qc hE (has_s x.tr x.pv x.A x.c x.xs vid _ ((hxR () (by omega)).1.move hS) (hxR () (by omega)).2) ?_; clear hE; clear a; rintro _ a w ⟨rfl, hS1⟩ hE; replace hS := hS.then hS1; clear hS1)) | refine ci_reg ?_ | refine wli_nil ?_ | refine then_n ?_ | refine ci_block ?_ | refine ci_skip ?_ | refine ci_exit ?_ | refine ci_ret ?_ | refine then_r ?_ | refine then_e ?_ | refine inb_n ?_ | refine inb_r ?_ | refine inb_e ?_ | refine inb_o rfl ?_ | refine ci_cond_t hE rfl ?_ | refine ci_cond_f hE rfl ?_ | (refine wli_yield hW hE rfl rfl rfl rfl (hY (portsTo l vid i.toNat) (i + 1) _ (hJ _ _ _ none hJr hS.grown (fun r e => by cases e)) (by omega)) rfl rfl ?_; clear hE; rintro e a w2 (⟨rfl, hJ2, hK2⟩ | ⟨rfl, hJx2⟩) <;> (refine ⟨_, rfl, ?_⟩; intro hE)) | refine ci_seq ?_ | (refine wli_skip hW hE rfl rfl rfl ?_; clear hE a; intro a hE) | ((refine wli_splitg hE rfl rfl ?_ ?_) <;> (clear hE; intro hb hE; (first | replace hb := of_decide_eq_true hb | replace hb := of_decide_eq_false hb | (simp only [Bool.not_eq_true', Bool.not_eq_false', decide_eq_true_eq, decide_eq_false_iff_not] at hb) | skip); try (exfalso; first | omega | exact absurd trivial hb | exact absurd rfl hb | (simp only [beq_self_eq_true, bne_self_eq_false, reduceCtorEq] at hb; done)))) | ((refine ci_cond hE rfl ?_ ?_) <;> (intro hb; (first | replace hb := of_decide_eq_true hb | replace hb := of_decide_eq_false hb | (simp only [Bool.not_eq_true', Bool.not_eq_false', decide_eq_true_eq, decide_eq_false_iff_not] at hb) | skip); try (exfalso; first | omega | exact absurd trivial hb | exact absurd rfl hb | (simp only [beq_self_eq_true, bne_self_eq_false, reduceCtorEq] at hb; done)))))
  · have s1 := hS.below.size
    have s2 := hK2.1.size
    exact ⟨_, by omega, i + 1, by omega, by omega, rfl, hE.cut ⟨rfl, rfl, rfl, rfl, rfl, trivial⟩, (hB.trans (hS.below.mono hB.size)).trans hK2.1, hK2.2.trans ((hS.below.block b3 (Array.getElem?_eq_some_iff.1 h3r).1).trans h3r), by rw [hst, if_pos hb]; exact hJ2, by omega⟩
  · exact p_none hE rfl ⟨⟨_, rfl⟩, .inr ⟨_, trivial, hJx2⟩⟩
  · have s1 := hS.below.size
    exact ⟨_, by omega, i + 1, by omega, by omega, rfl, hE.cut ⟨rfl, rfl, rfl, rfl, rfl, trivial⟩, hB.trans (hS.below.mono hB.size), (hS.below.block b3 (Array.getElem?_eq_some_iff.1 h3r).1).trans h3r, by rw [hst, if_neg (by rw [hb]; decide)]; exact hJ _ _ _ none hJr hS.grown (fun r e => by cases e), by omega⟩
  · refine p_end hE rfl ⟨⟨_, rfl⟩, .inl ⟨_, rfl, ?_⟩⟩
    rw [show l.length = i.toNat by omega]
    exact hJ _ _ _ none hJr hS.grown (fun r e => by cases e)
theorem infoInt : (Try.prog.info? 3).map (fun i => (i.zero, i.size, i.bytes)) = some (some (.int .i64 0), 1, 8) := by kernel_rfl
theorem row_of_owns {w : World} {b : Nat} {e : TypeId} {sz : Nat} {v : Value} {n : Nat} {xs : List Value} (h : w.ownsRow b e sz v n xs) : oRow w 0 e sz v n xs := by
  refine ⟨h.1, ?_⟩
  rcases h.2 with h2 | ⟨g, cap, cur, h3, h4, h5, h6, h7, h8, h9⟩
  · exact .inl h2
  · exact .inr ⟨g, cap, cur, h3, Nat.zero_le _, h5, h6, by first | exact h7 | omega, by first | exact Nat.le_of_eq h8.symm | omega, h9⟩
attribute [local go_sem] Oper.semAt_some
theorem ports_s (A : Option Addr) (c : Nat) (l : List Cfg) (vid : Int) (w : World) (hR : Rd w A (l.flatMap Cfg.cells)) (hX : ∀ x ∈ l, CfgR w x) (hl : l.length ≤ 1073741824) :
    Calls Try.prog 59 #[.slice A l.length c, .int .i64 vid] w fun e w' => ∃ r, e = .returned r ∧ ∃ A' n' c', r = .slice A' n' c' ∧ n' = (portsTo l vid l.length).length ∧ Sep w w' [row 3 1 (.slice A' n' c') n' (ints (portsTo l vid l.length))] := by
  obtain ⟨i0, hi, hz0, hz1, hz2⟩ := info_parts infoInt
  refine callsIn_wide.1 (callsIn_of_wp_marks (F := Fence.wide) (n := 3) Try.func59 rfl trivial ?_ rfl)
  simp only [Try.ntmps59, List.size_toArray, List.length_cons, List.length_nil, Nat.reduceAdd, Nat.reduceSub, Array.replicate_succ, Array.replicate_zero, List.push_toArray, List.append_toArray, List.nil_append, List.cons_append]
  gi_wp2_with (refine ⟨trivial, (callsIn_wide.2 (having_s A l.length c vid _)).mono ?_⟩; rintro e w' ⟨_, rfl, b2, b3, rfl, hS⟩)
  have hBw : Below w.heap.size w w' := ((Below.refl w.heap.size w).alloc (Nat.le_refl _) _).trans (hS.below.mono (by simp))
  have bO : Boxed w' w.heap.size 34 (.slice none 0 0) := (hS.below.block w.heap.size (by simp)).trans (World.alloc_heap_new w _)
  have h3 : Boxed w' b3 3 (.int .i64 vid) := hS.blk_at .here
  have h2 : w'.heap[b2]? = some (.cells #[.slice A l.length c] 22 (0, 0)) := hS.blk_at (.there .here)
  have hne : w.heap.size ≠ b3 := fun e => by
    have a1 : w'.heap[w.heap.size]? = some (.cells #[.slice none 0 0] 34 (0, 0)) := bO
    have a2 : w'.heap[b3]? = some (.cells #[.int .i64 vid] 3 (0, 0)) := h3
    rw [← e, a1] at a2
    cases a2
  have hlw : w.heap.size ≤ w'.heap.size := hBw.size
  have hlt : w.heap.size < w'.heap.size := bO.lt
  refine wpIn_rangeFunc_ownF rfl (by decide) (gf := 87) (lb := #[.pointer (some ⟨b2, 0, none⟩), .pointer (some ⟨b3, 0, none⟩)]) rfl trivial (enters_of Try.func87 (by kernel_rfl) rfl)
    (having1_stops b2 b3 A c l vid w w' hBw hlw h2 h3 hR hX hl 2) KpB.trans
    (fun W q o o' hq ho hc hw => ⟨belowK_b (w := w') hlw W q o o' hq ho hc hw, (grownBy_putObj' W q o').block b3 (by
      rcases Nat.lt_or_ge b3 W.heap.size with h | h
      · exact h
      · have := (Array.getElem?_eq_some_iff.1 ho).1; have := h3.lt; omega) (fun e => by cases e; have := h3.lt; omega)⟩)
    (Below.refl _ _) (fun _ => rfl)
    (fun pre W => (∃ v, Boxed W w.heap.size 34 v ∧ W.ownsRow w.heap.size 3 1 v pre.length (ints pre) ∧ v.ownBlock ≠ some b3) ∧ Below w.heap.size w W ∧ Boxed W b3 3 (.int .i64 vid))
    (fun _ _ _ => False)
    (OwnFrom.and (Own.from (holdsRow_own w.heap.size w.heap.size 34 3 1 (fun pre => pre.length) (fun pre => ints pre) (fun pre v => v.ownBlock ≠ some b3)) _) (OwnFrom.and (ownFrom_below (Nat.le_refl _) hlw) (Own.from (boxed_own b3 3 (fun _ => .int .i64 vid)) _)))
    (fun _ _ _ _ _ hs _ _ => hs)
    ⟨⟨_, bO, World.ownsRow_nil _ _ _ _, by simp [Value.ownBlock]⟩, hBw, h3⟩
    (fun x => { tmps := #[.slice A l.length c, .int .i64 vid, undef, undef, .slice none 0 0, .pointer (some ⟨w.heap.size, 0, none⟩), .int .i64 x, .slice A l.length c, .int .i64 vid, .func (.func 87) #[] #[.pointer (some ⟨b2, 0, none⟩), .pointer (some ⟨b3, 0, none⟩)], .int .i64 x, undef, undef, undef, undef, undef], defers := [] }) ?assign ?body ?done ?stop
  case assign =>
    intro q x W K hK
    gi_wp2
    exact hK
  case body =>
    rintro q pre x W ⟨⟨v, hv, hrow, hnb⟩, hB, hb3⟩ hlen
    have hc := hv.cell
    gi_wp2_with (gi_at_builtin; refine wpListIn_append_own_at _ rfl _ _ 34 rfl w.heap.size 3 i0 (.int .i64 0) 1 8 (show Try.prog.underlying 34 = some (.slice 3) by kernel_rfl) hi hz0 hz1 hz2 rfl (by decide) _ _ _ rfl (hrow.alloc _) ⟨W.heap.size, 0, none⟩ 1 1 [.int .i64 x] rfl rfl (cell_one_new _ _ _) (by simp [Value.oneCell']) (by unfold maxLen; omega) (by omega) (by have := hB.size; simp; omega) ?_; intro v' w1 hown' hgrow _ hat; obtain ⟨g', cap', rfl⟩ := ownsRow_succ hown'; obtain ⟨hv1, hv2, hr2, hk2, hb2⟩ := hv.appended (by decide) hrow hB.size (Nat.le_refl _) hown' hgrow; have hc1 := hv1.cell; have hf1 := hv1.frozen)
    have e1 : (pre ++ [x]).length = pre.length + 1 := by simp
    have e2 : ints (pre ++ [x]) = ints pre ++ [.int .i64 x] := by simp [ints]
    have hb3l := hb3.lt
    have hk3 : (w1.setCell ⟨w.heap.size, 0, none⟩ (.slice (some ⟨g', 0, none⟩) (pre.length + 1) cap')).heap[b3]? = W.heap[b3]? := by
      rw [Below.heap_setCell w1 ⟨w.heap.size, 0, none⟩ _ b3 (fun e => hne e.symm), hgrow.block b3 (by rw [World.size_alloc]; omega) (fun e => hnb e.symm)]
      exact Below.heap_alloc W _ b3 hb3l
    refine ⟨hk2, ⟨hb2, hk3⟩, ⟨_, hv2, by rw [e1, e2]; exact hr2, ?_⟩, hB.trans hb2, hk3.trans hb3⟩
    intro e
    rcases hat with h | h
    · exact hnb (h.symm.trans e)
    · rw [h, World.size_alloc] at e
      cases e
      omega
  case done =>
    rintro D ys W hD rfl ⟨⟨v, hv, hrow, hnb⟩, hB, hb3⟩ hK
    have hc := hv.cell
    gi_wp2
    refine ⟨by simp, .inl ⟨_, _, rfl, run_takeDeferred hK, ?_⟩⟩
    have hcell : ∀ r : Nat, v.ownBlock = some r → ∃ o : Obj, W.heap[r]? = some o ∧ o.isCells = true := fun r hr => by
      rcases hrow.2 with ⟨rfl, _⟩ | ⟨g, cap, cur, rfl, _, hg, _⟩
      · simp [Value.ownBlock] at hr
      · simp [Value.ownBlock] at hr
        subst hr
        exact ⟨_, hg, rfl⟩
    have hrow2 := ownsRow_putObj hrow (.deferred none) hK rfl
    have hB2 : Below w.heap.size w (W.putObj D (.deferred none)) := hB.trans (belowK_b (w := w') hlw W D _ _ hD hK rfl rfl)
    have hfoot : ∀ k, v.ownBlock = some k → w.heap.size ≤ k ∧ k < (W.putObj D (.deferred none)).heap.size := fun k hk => by
      rcases hrow2.2 with ⟨rfl, _⟩ | ⟨g, cap, cur, rfl, hb, hg, _⟩
      · simp [Value.ownBlock] at hk
      · simp [Value.ownBlock] at hk
        subst hk
        exact ⟨hb, (Array.getElem?_eq_some_iff.1 hg).1⟩
    have hsl : ∃ A' c', v = .slice A' (portsTo l vid l.length).length c' := by
      rcases hrow.2 with ⟨rfl, h⟩ | ⟨g, cap, cur, rfl, _⟩
      · exact ⟨none, 0, by rw [h]⟩
      · exact ⟨_, _, rfl⟩
    obtain ⟨A', c', hsl⟩ := hsl
    refine ⟨v, results_tmp (t := 4) rfl _ _ _, v, rfl, A', _, c', hsl, rfl, ⟨hB2, fun k => v.ownBlock = some k, ⟨fun k => v.ownBlock = some k, fun _ => False, fun k => by simp, fun _ _ h => h, ⟨?_, fun k => by rw [hsl]⟩, fun _ h => h⟩, hfoot⟩⟩
    rw [← hsl]
    exact row_of_owns hrow2
  case stop =>
    rintro D c pre W _ _ h _
    exact h.elim
end Go.Proofs.Ytdgpjkddpbiieaa
/- DERIVED. t. No condition. -/
namespace Go.Proofs.Ytdgpjkddpbiieaa
open Go.RowKit Go.Sx Go.Proofs.YtdgpjkddpbiieaaTy
set_option linter.unusedVariables false
set_option linter.unusedSimpArgs false
set_option maxRecDepth 100000
attribute [local irreducible] Oper.wp Code.wp wpList wpAnyH Calls bodyPost Exit.then Exit.inBlock Code.rounds
set_option maxHeartbeats 1000000
def outR (ok tr : Bool) (vid pv d s t : Int) (b : ByteArray) : Value := if ok = true then .tuple #[if tr = true ∧ vid ≠ pv then .agg #[.int .u64 d, .int .u64 s, .bool true, .int .i64 0, .bool false, .int .i64 vid, .int .i64 t, .string b] else .agg #[.int .u64 d, .int .u64 s, .bool false, .int .i64 0, .bool false, .int .i64 0, .int .i64 t, .string b], .bool true] else .tuple #[.agg #[.int .u64 0, .int .u64 0, .bool false, .int .i64 0, .bool false, .int .i64 0, .int .i64 0, .string ⟨#[]⟩], .bool false]
theorem out_s (tr : Bool) (pv : Int) (A : Option Addr) (c : Nat) (xs : List Int) (vid : Int) (d s : Int) (h : Bool) (p : Int) (dei : Bool) (v t : Int) (b : ByteArray) (w0 : World) (hR : Rd w0 A (ints xs)) (hl : xs.length ≤ 9223372036854775807) : Calls Try.prog 76 #[.agg #[.bool tr, .int .i64 pv, .slice A xs.length c], .int .i64 vid, .agg #[.int .u64 d, .int .u64 s, .bool h, .int .i64 p, .bool dei, .int .i64 v, .int .i64 t, .string b]] w0 fun e w' => ∃ r, e = .returned r ∧ r = outR (hasP tr pv xs vid) tr vid pv d s t b ∧ Sep w0 w' [] := by
  refine enter (args := [.agg #[.bool tr, .int .i64 pv, .slice A xs.length c], .int .i64 vid, .agg #[.int .u64 d, .int .u64 s, .bool h, .int .i64 p, .bool dei, .int .i64 v, .int .i64 t, .string b]]) 29 Try.func76 rfl rfl rfl ?_
  intro a hE hS
  repeat' (first | refine wl_nil ?_ | refine then_n ?_ | refine c_block ?_ | refine c_skip ?_ | refine c_ret ?_ | refine then_r ?_ | refine inb_n ?_ | refine inb_r ?_ | refine c_cond_f hE rfl ?_ | (refine c_regI 0 ?_; all_goals (refine wl hE rfl ?_; refine qbx hE hS ?_; clear hE hS; clear a; intro g a w hE hS); all_goals (refine wl hE rfl ?_; refine qbx hE hS ?_; clear hE hS; clear a; intro g a w hE hS); all_goals (refine wl hE rfl ?_; refine qal hE hS ?_; clear hE hS; clear a; intro g a w hE hS); all_goals (refine wl hE rfl ?_; refine qa hE ?_; clear hE a; intro a hE)) | (refine c_regI 1 ?_; all_goals (refine wl hE rfl ?_; refine qL hE hS ?_; clear hE a; intro a hE); all_goals (refine wl hE rfl ?_; refine qm hE ?_; clear hE a; intro a hE); all_goals (refine wl hE rfl ?_; refine is_call 47 rfl ?_; refine qc hE (has_s tr pv A c xs _ _ (hR.move hS) hl) ?_; clear hE; clear a; rintro _ a w ⟨rfl, hS1⟩ hE; replace hS := hS.then hS1; clear hS1); all_goals (refine wl hE rfl ?_; refine qu hE ?_; clear hE a; intro a hE); all_goals (refine wl hE rfl ?_; refine qa hE ?_; clear hE a; intro a hE)) | (refine c_regI 2 ?_; all_goals (refine wl hE rfl ?_; refine qbu hE ?_; clear hE a; intro a hE); all_goals (refine wl hE rfl ?_; refine qst0 hE hS ?_; clear hS; intro w hS); all_goals (refine wl hE rfl ?_; refine qa hE ?_; clear hE a; intro a hE)) | (refine c_regI 3 ?_; all_goals (refine wl hE rfl ?_; refine qf hE ?_; clear hE a; intro a hE); all_goals (refine wl hE rfl ?_; refine ql hE hS ?_; clear hE a; intro a hE); all_goals (refine wl hE rfl ?_; refine qm hE ?_; clear hE a; intro a hE); all_goals ((refine wl_splitg hE rfl rfl ?_ ?_) <;> (clear hE; intro hb hE; (first | replace hb := of_decide_eq_true hb | replace hb := of_decide_eq_false hb | (simp only [Bool.not_eq_true', Bool.not_eq_false', decide_eq_true_eq, decide_eq_false_iff_not] at hb) | skip); try (exfalso; first | omega | exact absurd trivial hb | exact absurd rfl hb | (simp only [beq_self_eq_true, bne_self_eq_false, reduceCtorEq] at hb; done))) <;> (first | (refine wl hE rfl ?_; refine qm hE ?_; clear hE a; intro a hE) | (refine wl_skip hE rfl rfl rfl ?_; clear hE a; intro a hE))); all_goals (first | (refine wl hE rfl ?_; refine qf hE ?_; clear hE a; intro a hE) | (refine wl_skip hE rfl rfl rfl ?_; clear hE a; intro a hE)); all_goals (first | (refine wl hE rfl ?_; refine ql hE hS ?_; clear hE a; intro a hE) | (refine wl_skip hE rfl rfl rfl ?_; clear hE a; intro a hE)); all_goals (first | (refine wl hE rfl ?_; refine qb hE ?_; clear hE a; intro a hE) | (refine wl_skip hE rfl rfl rfl ?_; clear hE a; intro a hE)); all_goals (refine wl hE rfl ?_; first | (refine qpt hE ?_; clear hE a; intro a hE) | (refine qpf hE ?_; clear hE a; intro a hE)); all_goals (refine wl hE rfl ?_; refine qa hE ?_; clear hE a; intro a hE)) | (refine c_regI 4 ?_; all_goals (refine wl hE rfl ?_; refine qL hE hS ?_; clear hE a; intro a hE); all_goals (refine wl hE rfl ?_; refine qm hE ?_; clear hE a; intro a hE); all_goals (refine wl hE rfl ?_; refine qbu hE ?_; clear hE a; intro a hE); all_goals (refine wl hE rfl ?_; refine is_call 88 rfl ?_; refine qc hE (tagged_s d s h p dei v t b _ _ _ _ _) ?_; clear hE; clear a; rintro _ a w ⟨rfl, hS1⟩ hE; replace hS := hS.then hS1; clear hS1); all_goals (refine wl hE rfl ?_; refine qst0 hE hS ?_; clear hS; intro w hS); all_goals (refine wl hE rfl ?_; refine qa hE ?_; clear hE a; intro a hE)) | (refine c_regI 5 ?_; all_goals (refine wl hE rfl ?_; refine qL hE hS ?_; clear hE a; intro a hE); all_goals (refine wl hE rfl ?_; refine is_call 48 rfl ?_; refine qc hE (bare_s d s h p dei v t b _) ?_; clear hE; clear a; rintro _ a w ⟨rfl, hS1⟩ hE; replace hS := hS.then hS1; clear hS1); all_goals (refine wl hE rfl ?_; refine qst0 hE hS ?_; clear hS; intro w hS); all_goals (refine wl hE rfl ?_; refine qa hE ?_; clear hE a; intro a hE)) | refine c_seq ?_ | ((refine c_cond hE rfl ?_ ?_) <;> (intro hb; (first | replace hb := of_decide_eq_true hb | replace hb := of_decide_eq_false hb | (simp only [Bool.not_eq_true', Bool.not_eq_false', decide_eq_true_eq, decide_eq_false_iff_not] at hb) | skip); try (exfalso; first | omega | exact absurd trivial hb | exact absurd rfl hb | (simp only [beq_self_eq_true, bne_self_eq_false, reduceCtorEq] at hb; done)))))
  all_goals (refine p_rets hE rfl (rc hE hS (rt hE .nil)) rfl ⟨_, rfl, ?_, hS.clean⟩; simp_all [outR])
end Go.Proofs.Ytdgpjkddpbiieaa
/- DERIVED. Layer 16: the reference's ports; the fixed calls. No condition. -/
namespace Go.Proofs.Ytdgpjkddpbiieaa
open Go.RowKit Go.Sx Go.Proofs.YtdgpjkddpbiieaaTy
set_option linter.unusedVariables false
set_option linter.unusedSimpArgs false
set_option maxRecDepth 100000
attribute [local irreducible] Oper.wp Code.wp wpList wpAnyH Calls bodyPost Exit.then Exit.inBlock Code.rounds
set_option maxHeartbeats 4000000
theorem ports_v (A : Option Addr) (c n : Nat) (l : List Cfg) (vid : Int) (ps : List Int) (w : World) (hn : n = l.length) (hp : portsTo l vid l.length = ps) (hR : Rd w A (l.flatMap Cfg.cells)) (hX : ∀ x ∈ l, CfgR w x) (hl : l.length ≤ 1073741824) :
    Calls Try.prog 59 #[.slice A n c, .int .i64 vid] w fun e w' => ∃ r, e = .returned r ∧ ∃ A' c', r = .slice A' ps.length c' ∧ Sep w w' [row 3 1 (.slice A' ps.length c') ps.length (ints ps)] := by
  subst hn hp
  exact (ports_s A c l vid w hR hX hl).mono fun e w' ⟨r, h1, A', n', c', h2, h3, h4⟩ => ⟨r, h1, A', c', h3 ▸ h2, h3 ▸ h4⟩
end Go.Proofs.Ytdgpjkddpbiieaa
/- DERIVED. Layer 10: entries in order of their keys: find. No condition. -/
namespace Go.Proofs.Ytdgpjkddpbiieaa
open Go.RowKit Go.Sx Go.Proofs.YtdgpjkddpbiieaaTy
set_option linter.unusedVariables false
set_option linter.unusedSimpArgs false
set_option maxRecDepth 100000
attribute [local irreducible] Oper.wp Code.wp wpList wpAnyH Calls bodyPost Exit.then Exit.inBlock Code.rounds
set_option maxHeartbeats 1000000
structure En where
  k : Int
  v : Int
  t : Int
  f : Bool
deriving DecidableEq
def En.cells (x : En) : List Value := [.int .u64 x.k, .int .u64 x.v, .int .i64 x.t, .bool x.f]
def E0 : En := ⟨0, 0, 0, false⟩
theorem elen (x : En) : x.cells.length = 4 := rfl
theorem en_one (l : List En) : ∀ u ∈ l.flatMap En.cells, u.oneCell' = true := fun u hu => by
  obtain ⟨v, _, hv⟩ := List.mem_flatMap.1 hu
  simp only [En.cells, List.mem_cons, List.not_mem_nil, or_false] at hv
  rcases hv with rfl | rfl | rfl | rfl <;> rfl
/-- How two numbers stand. -/
def cmpI (a b : Int) : Int := if a < b then -1 else if b < a then 1 else 0
theorem isNaN_s (x : Int) (w0 : World) : Calls Try.prog 90 #[.int .u64 x] w0 fun e w' => ∃ r, e = .returned r ∧ r = .bool false ∧ Sep w0 w' [] := by
  refine enter (args := [.int .u64 x]) 6 Try.func90 rfl rfl rfl ?_
  intro a hE hS
  repeat' (first | refine wl_nil ?_ | refine then_n ?_ | refine c_ret ?_ | (refine c_regI 0 ?_; all_goals (refine wl hE rfl ?_; refine qa hE ?_; clear hE a; intro a hE)) | (refine c_regI 1 ?_; all_goals (refine wl hE rfl ?_; refine qm hE ?_; clear hE a; intro a hE); all_goals (refine wl hE rfl ?_; refine qm hE ?_; clear hE a; intro a hE); all_goals (refine wl hE rfl ?_; refine qb hE ?_; clear hE a; intro a hE); all_goals (refine wl hE rfl ?_; refine qa hE ?_; clear hE a; intro a hE)) | refine c_seq ?_)
  all_goals exact p_ret hE rfl rfl ⟨_, rfl, by simp, hS⟩
theorem cmp_s (x y : Int) (w0 : World) : Calls Try.prog 82 #[.int .u64 x, .int .u64 y] w0 fun e w' => ∃ r, e = .returned r ∧ r = .int .i64 (cmpI x y) ∧ Sep w0 w' [] := by
  refine enter (args := [.int .u64 x, .int .u64 y]) 20 Try.func82 rfl rfl rfl ?_
  intro a hE hS
  repeat' (first | refine wl_nil ?_ | refine then_n ?_ | refine c_skip ?_ | refine c_ret ?_ | refine then_r ?_ | refine c_cond_f hE rfl ?_ | (refine c_regI 0 ?_; all_goals (refine wl hE rfl ?_; refine qa hE ?_; clear hE a; intro a hE)) | (refine c_regI 1 ?_; all_goals (refine wl hE rfl ?_; refine qm hE ?_; clear hE a; intro a hE); all_goals (refine wl hE rfl ?_; refine is_call 90 rfl ?_; refine qc hE (isNaN_s _ _) ?_; clear hE; clear a; rintro _ a w ⟨rfl, hS1⟩ hE; replace hS := hS.then hS1; clear hS1); all_goals (refine wl hE rfl ?_; refine qa hE ?_; clear hE a; intro a hE)) | (refine c_regI 2 ?_; all_goals (refine wl hE rfl ?_; refine qm hE ?_; clear hE a; intro a hE); all_goals (refine wl hE rfl ?_; refine is_call 90 rfl ?_; refine qc hE (isNaN_s _ _) ?_; clear hE; clear a; rintro _ a w ⟨rfl, hS1⟩ hE; replace hS := hS.then hS1; clear hS1); all_goals (refine wl hE rfl ?_; refine qa hE ?_; clear hE a; intro a hE)) | (refine c_regI 3 ?_; all_goals (refine wl hE rfl ?_; refine qm hE ?_; clear hE a; intro a hE)) | (refine c_regI 7 ?_; all_goals (refine wl hE rfl ?_; refine qm hE ?_; clear hE a; intro a hE)) | (refine c_regI 9 ?_; all_goals (refine wl hE rfl ?_; refine qm hE ?_; clear hE a; intro a hE); all_goals (refine wl hE rfl ?_; refine qm hE ?_; clear hE a; intro a hE); all_goals (refine wl hE rfl ?_; refine qb hE ?_; clear hE a; intro a hE)) | (refine c_regI 10 ?_; all_goals (refine wl hE rfl ?_; refine qa hE ?_; clear hE a; intro a hE)) | (refine c_regI 11 ?_; all_goals (refine wl hE rfl ?_; refine qm hE ?_; clear hE a; intro a hE); all_goals (refine wl hE rfl ?_; refine qm hE ?_; clear hE a; intro a hE); all_goals (refine wl hE rfl ?_; refine qb hE ?_; clear hE a; intro a hE)) | (refine c_regI 12 ?_; all_goals (refine wl hE rfl ?_; refine qa hE ?_; clear hE a; intro a hE)) | (refine c_regI 13 ?_; all_goals (refine wl hE rfl ?_; refine qa hE ?_; clear hE a; intro a hE)) | refine c_seq ?_ | ((refine c_cond hE rfl ?_ ?_) <;> (intro hb; (first | replace hb := of_decide_eq_true hb | replace hb := of_decide_eq_false hb | (simp only [Bool.not_eq_true', Bool.not_eq_false', decide_eq_true_eq, decide_eq_false_iff_not] at hb) | skip); try (exfalso; first | omega | exact absurd trivial hb | exact absurd rfl hb | (simp only [beq_self_eq_true, bne_self_eq_false, reduceCtorEq] at hb; done)))))
  all_goals exact p_ret hE rfl rfl ⟨_, rfl, by simp [cmpI, *], hS⟩
theorem key_s (x : En) (w0 : World) : Calls Try.prog 66 #[.agg x.cells.toArray] w0 fun e w' => ∃ r, e = .returned r ∧ r = .int .u64 x.k ∧ Sep w0 w' [] := by
  refine enter (args := [.agg x.cells.toArray]) 5 Try.func66 rfl rfl rfl ?_
  intro a hE hS
  repeat' (first | refine wl_nil ?_ | refine then_n ?_ | refine c_ret ?_ | (refine c_regI 0 ?_; all_goals (refine wl hE rfl ?_; refine qbx hE hS ?_; clear hE hS; clear a; intro g a w hE hS); all_goals (refine wl hE rfl ?_; refine qa hE ?_; clear hE a; intro a hE)) | (refine c_regI 1 ?_; all_goals (refine wl hE rfl ?_; refine qf hE ?_; clear hE a; intro a hE); all_goals (refine wl hE rfl ?_; refine ql hE hS ?_; clear hE a; intro a hE); all_goals (refine wl hE rfl ?_; refine qa hE ?_; clear hE a; intro a hE)) | refine c_seq ?_)
  all_goals exact p_ret hE rfl rfl ⟨_, rfl, rfl, hS.clean⟩
end Go.Proofs.Ytdgpjkddpbiieaa
/- DERIVED. Layer 10: the binary search. No condition. -/
namespace Go.Proofs.Ytdgpjkddpbiieaa
open Go.RowKit Go.Sx Go.Proofs.YtdgpjkddpbiieaaTy
set_option linter.unusedVariables false
set_option linter.unusedSimpArgs false
set_option maxRecDepth 100000
attribute [local irreducible] Oper.wp Code.wp wpList wpAnyH Calls bodyPost Exit.then Exit.inBlock Code.rounds
set_option maxHeartbeats 1000000
theorem find1_s (b g : Nat) (x : En) (key : Int) (w0 : World) (hB : At w0 ⟨b, 0, none⟩ [.pointer (some ⟨g, 0, none⟩)]) (hF : At w0 ⟨g, 1, none⟩ [.func (.func 66) #[] #[]]) : Calls Try.prog 81 #[.agg x.cells.toArray, .int .u64 key, .pointer (some ⟨b, 0, none⟩)] w0 fun e w' => ∃ r, e = .returned r ∧ r = .int .i64 (cmpI x.k key) ∧ Sep w0 w' [] := by
  refine enter (args := [.agg x.cells.toArray, .int .u64 key, .pointer (some ⟨b, 0, none⟩)]) 14 Try.func81 rfl rfl rfl ?_
  intro a hE hS
  repeat' (first | refine wl_nil ?_ | refine then_n ?_ | refine c_ret ?_ | (refine c_regI 0 ?_; all_goals (refine wl hE rfl ?_; refine qbx hE hS ?_; clear hE hS; clear a; intro g a w hE hS); all_goals (refine wl hE rfl ?_; refine qa hE ?_; clear hE a; intro a hE)) | refine c_seq ?_ | (refine rg_guard 1 ?_; refine rg_start [2, 3] hE hS ?_; clear hS; (try clear w); intro w hS hX; all_goals (refine rg_y 0 hE hX (by exact y_load0 hB) ?_ rfl rfl rfl rfl; clear hE a; intro a hE); all_goals (refine rg_y 1 hE hX (by exact y_nil) ?_ rfl rfl rfl rfl; clear hE a; intro a hE); all_goals (refine rg_y 2 hE hX (by exact y_field) ?_ rfl rfl rfl rfl; clear hE a; intro a hE); all_goals (refine rg_y 3 hE hX (by exact y_load0 hF) ?_ rfl rfl rfl rfl; clear hE a; intro a hE); all_goals (refine rg_y 4 hE hX (by exact y_loadA) ?_ rfl rfl rfl rfl; clear hE a; intro a hE); all_goals (refine rg_y 6 hE hX (by exact y_move) ?_ rfl rfl rfl rfl; clear hE a; intro a hE); all_goals (refine rg_e 5 hE rfl rfl (by kernel_rfl) ?_; intro K hK; (refine qcF (vs := [.agg x.cells.toArray]) (cs := []) hE (key_s x _) ?_; clear hE; clear a; rintro _ a w ⟨rfl, hS1⟩ hE; replace hS := hS.then hS1; clear hS1); refine rg_k hK hS ?_; clear hK hX; clear K; intro hX); all_goals (refine rg_e 7 hE rfl rfl (by kernel_rfl) ?_; intro K hK; (refine is_call 82 rfl ?_; refine qc hE (cmp_s x.k key _) ?_; clear hE; clear a; rintro _ a w ⟨rfl, hS1⟩ hE; replace hS := hS.then hS1; clear hS1); refine rg_k hK hS ?_; clear hK hX; clear K; intro hX); all_goals (refine rg_y 8 hE hX (by exact y_assign) ?_ rfl rfl rfl rfl; clear hE a; intro a hE); all_goals (refine rg_done ?_ (by kernel_rfl); (try clear hX))))
  
  all_goals exact p_ret hE rfl rfl ⟨_, rfl, rfl, hS.clean⟩
theorem blk_At {w0 w : World} {L L' : List Asn} {g : Nat} {cs : List Value} {t : TypeId} (hS : Sep w0 w L) (hp : Pull (blk g cs t) L L' := by repeat (first | exact Pull.here | apply Pull.there)) : At w ⟨g, 0, none⟩ cs := fun j v hj => by
  have h := hS.blk_at hp
  have hadd : (⟨g, 0, none⟩ : Addr).add j = ⟨g, j, none⟩ := by unfold Addr.add; split <;> simp_all
  rw [hadd, cell_of_row w g j cs.toArray t (0, 0) h]
  simpa using hj
/-- Where a key is, or would be. -/
def At1 (l : List En) (key : Int) (i : Int) : Prop := 0 ≤ i ∧ i ≤ l.length ∧ (∀ j : Nat, (j : Int) < i → (l.getD j E0).k < key) ∧ (∀ j : Nat, i ≤ (j : Int) → j < l.length → key ≤ (l.getD j E0).k)
def Rising (l : List En) : Prop := l.Pairwise fun x y => x.k < y.k
theorem Rising.lt {l : List En} (h : Rising l) {i j : Nat} (hij : i < j) (hj : j < l.length) : (l.getD i E0).k < (l.getD j E0).k := by
  have := List.pairwise_iff_getElem.1 h i j (by omega) hj hij
  simpa [show i < l.length by omega, hj] using this
theorem bs_lo {l : List En} (h : Rising l) {key : Int} {i m : Int} (hm0 : 0 ≤ m) (hm : m < l.length) (hx : (l.getD m.toNat E0).k < key) : ∀ j : Nat, (j : Int) < m + 1 → (l.getD j E0).k < key := by
  intro j hj
  rcases Nat.lt_or_ge j m.toNat with h1 | h1
  · have := h.lt h1 (by omega); omega
  · rw [show j = m.toNat by omega]; exact hx
theorem bs_hi {l : List En} (h : Rising l) {key : Int} {m : Int} (hm0 : 0 ≤ m) (hm : m < l.length) (hx : ¬ (l.getD m.toNat E0).k < key) : ∀ j : Nat, m ≤ (j : Int) → j < l.length → key ≤ (l.getD j E0).k := by
  intro j hj hl
  rcases Nat.lt_or_ge m.toNat j with h1 | h1
  · have := h.lt h1 hl; omega
  · rw [show j = m.toNat by omega]; omega
theorem cmp_neg {x y : Int} : cmpI x y < 0 ↔ x < y := by unfold cmpI; split <;> (try split) <;> omega
theorem cmp_zero {x y : Int} : cmpI x y = 0 ↔ x = y := by unfold cmpI; split <;> (try split) <;> omega
theorem wrap_u {i : Int} (h0 : 0 ≤ i) (h1 : i ≤ 9223372036854775807) : IntKind.u64.wrap i = i := by
  unfold IntKind.wrap
  simp [IntKind.bits, IntKind.signed]
  omega
theorem half_w {i j : Int} (h0 : 0 ≤ i) (h1 : 0 ≤ j) (h2 : i ≤ 4611686018427387903) (h3 : j ≤ 4611686018427387903) : IntKind.i64.wrap ((IntKind.u64.wrap (i + j)).fdiv (2 ^ min (Int.toNat 1) IntKind.u64.bits)) = (i + j) / 2 := by
  have e : min (Int.toNat 1) IntKind.u64.bits = 1 := by decide
  rw [wrap_u (by omega) (by omega), e, Int.fdiv_eq_ediv_of_nonneg _ (by decide)]
  exact wrap_in (by omega) (by omega)
theorem bs_s (A : Option Addr) (c b g : Nat) (l : List En) (key : Int) (w0 : World) (hR : Rd w0 A (l.flatMap En.cells)) (hl : l.length ≤ 1073741824) (hs : Rising l) (hB : At w0 ⟨b, 0, none⟩ [.pointer (some ⟨g, 0, none⟩)]) (hF : At w0 ⟨g, 1, none⟩ [.func (.func 66) #[] #[]]) :
    Calls Try.prog 80 #[.slice A l.length c, .int .u64 key, .func (.func 81) #[] #[.pointer (some ⟨b, 0, none⟩)]] w0 fun e w' => ∃ r, e = .returned r ∧ (∃ i : Int, r = .tuple #[.int .i64 i, .bool (decide (i < l.length ∧ (l.getD i.toNat E0).k = key))] ∧ At1 l key i) ∧ Sep w0 w' [] := by
  have hA : (0 : Int) < l.length → A = some (adr A) := fun h => hR.some (by rw [flat_len elen]; omega)
  have hT := hR.at_
  refine enter (args := [.slice A l.length c, .int .u64 key, .func (.func 81) #[] #[.pointer (some ⟨b, 0, none⟩)]]) 49 Try.func80 rfl rfl rfl ?_
  intro a hE hS
  repeat' (first | refine wl_nil ?_ | refine then_n ?_ | refine c_block ?_ | (refine c_regI 0 ?_; all_goals (refine wl hE rfl ?_; refine qa hE ?_; clear hE a; intro a hE); all_goals (refine wl hE rfl ?_; refine qa hE ?_; clear hE a; intro a hE)) | (refine c_regI 1 ?_; all_goals (refine wl hE rfl ?_; refine qm hE ?_; clear hE a; intro a hE); all_goals (refine wl hE rfl ?_; refine qn1 hE ?_; clear hE a; intro a hE); all_goals (refine wl hE rfl ?_; refine qa hE ?_; clear hE a; intro a hE)) | (refine c_regI 2 ?_; all_goals (refine wl hE rfl ?_; refine qm hE ?_; clear hE a; intro a hE); all_goals (refine wl hE rfl ?_; refine qa hE ?_; clear hE a; intro a hE); all_goals (refine wl hE rfl ?_; refine qa hE ?_; clear hE a; intro a hE)) | refine c_seq ?_)
  refine c_loopN (fun m a w => ∃ i j : Int, 0 ≤ i ∧ i ≤ j ∧ j ≤ l.length ∧ m = (j - i).toNat ∧ (∀ k : Nat, (k : Int) < i → (l.getD k E0).k < key) ∧ (∀ k : Nat, j ≤ (k : Int) → k < l.length → key ≤ (l.getD k E0).k) ∧ Env a 49 [(0, .slice A l.length c), (1, .int .u64 key), (2, .func (.func 81) #[] #[.pointer (some ⟨b, 0, none⟩)]), (8, .int .i64 l.length), (9, .int .i64 i), (10, .int .i64 j)] ∧ Sep w0 w []) _ ⟨0, l.length, by omega, by omega, by omega, rfl, fun k h => by omega, fun k h h2 => by omega, hE.cut ⟨rfl, rfl, rfl, rfl, rfl, rfl, trivial⟩, hS⟩ ?_
  clear hE hS a
  rintro m a w ⟨i, j, h0, h1, h2, rfl, hlo, hhi, hE, hS⟩

  repeat' (first | refine wl_nil ?_ | refine then_n ?_ | refine c_block ?_ | refine c_skip ?_ | refine c_exit ?_ | refine c_ret ?_ | refine then_e ?_ | refine inb_n ?_ | refine inb_e ?_ | (refine c_midq (id := 4) (I := fun a w => Env a 49 [(0, .slice A l.length c), (1, .int .u64 key), (2, .func (.func 81) #[] #[.pointer (some ⟨b, 0, none⟩)]), (8, .int .i64 l.length), (9, .int .i64 i), (10, .int .i64 j), (11, .int .i64 ((i + j) / 2))] ∧ Sep w0 w []) ?_ ?_; rotate_left; clear hE hS; clear a w; rintro a w ⟨hE, hS⟩; skip) | (refine c_regI 3 ?_; all_goals (refine wl hE rfl ?_; refine qm hE ?_; clear hE a; intro a hE); all_goals (refine wl hE rfl ?_; refine qm hE ?_; clear hE a; intro a hE); all_goals (refine wl hE rfl ?_; refine qb hE ?_; clear hE a; intro a hE)) | (refine c_regI 4 ?_; all_goals (refine wl hE rfl ?_; refine qm hE ?_; clear hE a; intro a hE); all_goals (refine wl hE rfl ?_; refine qm hE ?_; clear hE a; intro a hE); all_goals (refine wl hE rfl ?_; refine qb hE ?_; clear hE a; intro a hE); all_goals (refine wl hE rfl ?_; refine qcv hE ?_; clear hE a; intro a hE); all_goals (refine wl hE rfl ?_; refine qb2 hE ?_; clear hE a; intro a hE); all_goals (refine wl hE rfl ?_; refine qcv hE ?_; clear hE a; intro a hE); all_goals (refine wl hE rfl ?_; refine qa hE ?_; clear hE a; intro a hE)) | (refine c_regI 5 ?_; all_goals (refine wl hE rfl ?_; refine qm hE ?_; clear hE a; intro a hE); all_goals (refine wl hE rfl ?_; refine qm hE ?_; clear hE a; intro a hE); all_goals (refine wl hE rfl ?_; refine qm hE ?_; clear hE a; intro a hE); all_goals (refine wl hE rfl ?_; refine qi hE hA ?_; clear hE a; intro a hE); all_goals (refine wl hE rfl ?_; refine qLs (i := (i + j) / 2) (us := _) (df := E0) hE hS elen hT rfl ?_; clear hE a; intro a hE); all_goals (refine wl hE rfl ?_; refine qm hE ?_; clear hE a; intro a hE); all_goals (refine wl hE rfl ?_; refine qcF (vs := [.agg (l.getD ((i + j) / 2).toNat E0).cells.toArray, .int .u64 key]) hE (find1_s b g _ key _ (hB.move hS) (hF.move hS)) ?_; clear hE; clear a; rintro _ a w ⟨rfl, hS1⟩ hE; replace hS := hS.then hS1; clear hS1); all_goals (refine wl hE rfl ?_; refine qb hE ?_; clear hE a; intro a hE)) | (refine c_regI 6 ?_; all_goals (refine wl hE rfl ?_; refine qm hE ?_; clear hE a; intro a hE); all_goals (refine wl hE rfl ?_; refine qb hE ?_; clear hE a; intro a hE); all_goals (refine wl hE rfl ?_; refine qa hE ?_; clear hE a; intro a hE)) | (refine c_regI 7 ?_; all_goals (refine wl hE rfl ?_; refine qm hE ?_; clear hE a; intro a hE); all_goals (refine wl hE rfl ?_; refine qa hE ?_; clear hE a; intro a hE)) | (refine c_regI 8 ?_; all_goals (refine wl hE rfl ?_; refine qm hE ?_; clear hE a; intro a hE); all_goals (refine wl hE rfl ?_; refine qm hE ?_; clear hE a; intro a hE); all_goals (refine wl hE rfl ?_; refine qm hE ?_; clear hE a; intro a hE); all_goals (refine wl hE rfl ?_; refine qb hE ?_; clear hE a; intro a hE); all_goals (refine wl hE rfl ?_; refine qm hE ?_; clear hE a; intro a hE); all_goals ((refine wl_splitg hE rfl rfl ?_ ?_) <;> (clear hE; intro hb hE; (first | replace hb := of_decide_eq_true hb | replace hb := of_decide_eq_false hb | (simp only [Bool.not_eq_true', Bool.not_eq_false', decide_eq_true_eq, decide_eq_false_iff_not] at hb) | skip); try (exfalso; first | omega | exact absurd trivial hb | exact absurd rfl hb | (simp only [beq_self_eq_true, bne_self_eq_false, reduceCtorEq] at hb; done))) <;> (first | (refine wl hE rfl ?_; refine qm hE ?_; clear hE a; intro a hE) | (refine wl_skip hE rfl rfl rfl ?_; clear hE a; intro a hE))); all_goals (first | (refine wl hE rfl ?_; refine qm hE ?_; clear hE a; intro a hE) | (refine wl_skip hE rfl rfl rfl ?_; clear hE a; intro a hE)); all_goals (first | (refine wl hE rfl ?_; refine qm hE ?_; clear hE a; intro a hE) | (refine wl_skip hE rfl rfl rfl ?_; clear hE a; intro a hE)); all_goals (first | (refine wl hE rfl ?_; refine qi hE hA ?_; clear hE a; intro a hE) | (refine wl_skip hE rfl rfl rfl ?_; clear hE a; intro a hE)); all_goals (first | (refine wl hE rfl ?_; refine qLs (i := i) (us := _) (df := E0) hE hS elen hT rfl ?_; clear hE a; intro a hE) | (refine wl_skip hE rfl rfl rfl ?_; clear hE a; intro a hE)); all_goals (first | (refine wl hE rfl ?_; refine qm hE ?_; clear hE a; intro a hE) | (refine wl_skip hE rfl rfl rfl ?_; clear hE a; intro a hE)); all_goals (first | (refine wl hE rfl ?_; refine qcF (vs := [.agg (l.getD i.toNat E0).cells.toArray, .int .u64 key]) hE (find1_s b g _ key _ (hB.move hS) (hF.move hS)) ?_; clear hE; clear a; rintro _ a w ⟨rfl, hS1⟩ hE; replace hS := hS.then hS1; clear hS1) | (refine wl_skip hE rfl rfl rfl ?_; clear hE a; intro a hE)); all_goals (first | (refine wl hE rfl ?_; refine qb hE ?_; clear hE a; intro a hE) | (refine wl_skip hE rfl rfl rfl ?_; clear hE a; intro a hE)); all_goals (refine wl hE rfl ?_; first | (refine qpt hE ?_; clear hE a; intro a hE) | (refine qpf hE ?_; clear hE a; intro a hE)); all_goals (refine wl hE rfl ?_; refine qa hE ?_; clear hE a; intro a hE); all_goals (refine wl hE rfl ?_; refine qa hE ?_; clear hE a; intro a hE)) | refine c_seq ?_ | ((refine c_cond hE rfl ?_ ?_) <;> (intro hb; (first | replace hb := of_decide_eq_true hb | replace hb := of_decide_eq_false hb | (simp only [Bool.not_eq_true', Bool.not_eq_false', decide_eq_true_eq, decide_eq_false_iff_not] at hb) | skip); try (exfalso; first | omega | exact absurd trivial hb | exact absurd rfl hb | (simp only [beq_self_eq_true, bne_self_eq_false, reduceCtorEq] at hb; done)))))
  · have hb1 := cmp_neg.1 hb
    have hlt : i < j := by assumption
    obtain ⟨q, hq⟩ : ∃ q, q = (i + j) / 2 := ⟨_, rfl⟩
    rw [← hq] at hE hb1
    exact ⟨_, by omega, q + 1, j, by omega, by omega, by omega, rfl, bs_lo (i := i) hs (by omega) (by omega) hb1, hhi, hE.cut ⟨rfl, rfl, rfl, rfl, rfl, rfl, trivial⟩, hS⟩
  · have hb1 := fun h => hb (cmp_neg.2 h)
    have hlt : i < j := by assumption
    obtain ⟨q, hq⟩ : ∃ q, q = (i + j) / 2 := ⟨_, rfl⟩
    rw [← hq] at hE hb1
    exact ⟨_, by omega, i, q, by omega, by omega, by omega, rfl, hlo, bs_hi hs (by omega) (by omega) hb1, hE.cut ⟨rfl, rfl, rfl, rfl, rfl, rfl, trivial⟩, hS⟩
  · rw [half_w (by omega) (by omega) (by omega) (by omega)] at hE
    exact ⟨hE.cut ⟨rfl, rfl, rfl, rfl, rfl, rfl, rfl, trivial⟩, hS⟩
  · have e : j = i := by omega
    subst e
    refine p_rets hE rfl (rt hE (rt hE .nil)) rfl ⟨_, rfl, ⟨j, ?_, by omega, by omega, hlo, hhi⟩, hS⟩
    have h2 : (j < (l.length : Int) ∧ (l.getD j.toNat E0).k = key) ↔ cmpI (l.getD j.toNat E0).k key = 0 := by rw [cmp_zero]; exact ⟨fun h => h.2, fun h => ⟨hb, h⟩⟩
    simp only [h2]
  · have e : j = i := by omega
    subst e
    refine p_rets hE rfl (rt hE (rt hE .nil)) rfl ⟨_, rfl, ⟨j, ?_, by omega, by omega, hlo, hhi⟩, hS⟩
    rw [decide_eq_false (fun h => hb h.1)]
theorem find_s (A : Option Addr) (c g : Nat) (l : List En) (key : Int) (w0 : World) (hT : At w0 ⟨g, 0, none⟩ [.slice A l.length c]) (hF : At w0 ⟨g, 1, none⟩ [.func (.func 66) #[] #[]]) (hR : Rd w0 A (l.flatMap En.cells)) (hl : l.length ≤ 1073741824) (hs : Rising l) :
    Calls Try.prog 67 #[.pointer (some ⟨g, 0, none⟩), .int .u64 key] w0 fun e w' => ∃ r, e = .returned r ∧ (∃ i : Int, r = .tuple #[.int .i64 i, .bool (decide (i < l.length ∧ (l.getD i.toNat E0).k = key))] ∧ At1 l key i) ∧ Sep w0 w' [] := by
  refine enter (args := [.pointer (some ⟨g, 0, none⟩), .int .u64 key]) 15 Try.func67 rfl rfl rfl ?_
  intro a hE hS
  obtain ⟨g0, hg0⟩ : ∃ g0, g0 = g := ⟨_, rfl⟩
  rw [← hg0] at hE hF hT
  repeat' (first | refine wl_nil ?_ | refine then_n ?_ | refine c_ret ?_ | (refine c_regI 0 ?_; all_goals (refine wl hE rfl ?_; refine qbx hE hS ?_; clear hE hS; clear a; intro g a w hE hS); all_goals (refine wl hE rfl ?_; refine qa hE ?_; clear hE a; intro a hE); all_goals (refine wl hE rfl ?_; refine qa hE ?_; clear hE a; intro a hE)) | (refine c_regI 1 ?_; all_goals (refine wl hE rfl ?_; refine ql hE hS ?_; clear hE a; intro a hE); all_goals (refine wl hE rfl ?_; refine qn hE ?_; clear hE a; intro a hE); all_goals (refine wl hE rfl ?_; refine qf hE ?_; clear hE a; intro a hE); all_goals (refine wl hE rfl ?_; refine q0 hE hS hT ?_; clear hE a; intro a hE); all_goals (refine wl hE rfl ?_; refine qm hE ?_; clear hE a; intro a hE); all_goals (refine wl hE rfl ?_; refine qmf2 hE ?_; clear hE; clear a; intro a hE); all_goals (refine wl hE rfl ?_; refine qc hE (bs_s A c g g0 l key _ (hR.move hS) hl hs (blk_At hS) (hF.move hS)) ?_; clear hE; clear a; rintro _ a w ⟨⟨i, rfl, hi⟩, hS1⟩ hE; replace hS := hS.then hS1; clear hS1); all_goals (refine wl hE rfl ?_; refine qe hE ?_; clear hE a; intro a hE); all_goals (refine wl hE rfl ?_; refine qe hE ?_; clear hE a; intro a hE); all_goals (refine wl hE rfl ?_; refine qa hE ?_; clear hE a; intro a hE); all_goals (refine wl hE rfl ?_; refine qa hE ?_; clear hE a; intro a hE)) | refine c_seq ?_)
  trace_state
  exact p_rets hE rfl (rt hE (rt hE .nil)) rfl ⟨_, rfl, ⟨i, rfl, hi⟩, hS.clean⟩
end Go.Proofs.Ytdgpjkddpbiieaa
/- DERIVED. Layer 10: slices.Clone, slices.Insert of one. No condition. -/
namespace Go.Proofs.Ytdgpjkddpbiieaa
open Go.RowKit Go.Sx Go.Proofs.YtdgpjkddpbiieaaTy
set_option linter.unusedVariables false
set_option linter.unusedSimpArgs false
set_option maxRecDepth 100000
attribute [local irreducible] Oper.wp Code.wp wpList wpAnyH Calls bodyPost Exit.then Exit.inBlock Code.rounds
set_option maxHeartbeats 1000000
def insAt (l : List En) (i : Nat) (x : En) : List En := l.take i ++ [x] ++ l.drop i
theorem insAt_end (l : List En) (x : En) : insAt l l.length x = l ++ [x] := by simp [insAt]
theorem put_shift (l : List En) (i : Nat) (ys : List Value) (hi : i < l.length) (hy : ys.length = 1 * 4) : putL (l.flatMap En.cells ++ ys) ((i + 1) * 4) ((l.drop i).flatMap En.cells) = (l.take (i + 1) ++ l.drop i).flatMap En.cells := by
  have h1 : (l.flatMap En.cells).length = l.length * 4 := flat_len elen l
  have h2 : ((l.drop i).flatMap En.cells).length = (l.length - i) * 4 := by rw [flat_len elen, List.length_drop]
  have h3 : List.drop ((i + 1) * 4 + ((l.drop i).flatMap En.cells).length) (l.flatMap En.cells ++ ys) = [] := List.drop_eq_nil_of_le (by rw [List.length_append, h1, h2, hy]; omega)
  unfold putL
  rw [h3, List.take_append_of_le_length (by rw [h1]; omega), flat_take elen l (i + 1) hi, List.append_nil, List.flatMap_append]
theorem shift_src (l : List En) (i : Nat) (ys : List Value) (hi : i < l.length) : ((l.flatMap En.cells ++ ys).drop (i * 4)).take ((l.length - i) * 4) = (l.drop i).flatMap En.cells := by
  have h1 : (l.flatMap En.cells).length = l.length * 4 := flat_len elen l
  have h2 : ((l.drop i).flatMap En.cells).length = (l.length - i) * 4 := by rw [flat_len elen, List.length_drop]
  rw [List.drop_append_of_le_length (by rw [h1]; omega), flat_drop elen l i (by omega), ← h2, List.take_left]
theorem put_one (l : List En) (i : Nat) (x : En) (hi : i < l.length) : putL ((l.take (i + 1) ++ l.drop i).flatMap En.cells) (i * 4) x.cells = (insAt l i x).flatMap En.cells := by
  have e : l.take (i + 1) = l.take i ++ [l[i]] := List.take_succ_eq_append_getElem hi
  have := flat_put elen (l.take i) [l[i]] [x] (l.drop i) i (by rw [List.length_take]; omega) rfl
  rw [e]
  simpa [insAt] using this
theorem zeros_cells (k : Nat) : (List.replicate k [Value.int .u64 0, .int .u64 0, .int .i64 0, .bool false]).flatten = (List.replicate k E0).flatMap En.cells := by
  rw [List.flatMap_replicate]
  rfl
theorem put_new (l : List En) (i : Nat) (x : En) (hi : i < l.length) : putL ((l.flatMap En.cells).take (i * 4) ++ (List.replicate (l.length + 1 - i) [Value.int .u64 0, .int .u64 0, .int .i64 0, .bool false]).flatten) (i * 4) (x.cells.take (1 * 4)) = (l.take i ++ [x] ++ List.replicate (l.length - i) E0).flatMap En.cells := by
  have := flat_put elen (l.take i) [E0] [x] (List.replicate (l.length - i) E0) i (by rw [List.length_take]; omega) rfl
  rw [show l.take i ++ [E0] ++ List.replicate (l.length - i) E0 = l.take i ++ (E0 :: List.replicate (l.length - i) E0) by simp, show [x].flatMap En.cells = x.cells by simp] at this
  rw [zeros_cells, flat_take elen l i (by omega), show l.length + 1 - i = (l.length - i) + 1 by omega, List.replicate_succ, ← List.flatMap_append]
  exact this
theorem put_rest (l : List En) (i : Nat) (x : En) (hi : i < l.length) : putL ((l.take i ++ [x] ++ List.replicate (l.length - i) E0).flatMap En.cells) ((i + 1) * 4) (((l.flatMap En.cells).drop (i * 4)).take ((l.length - i) * 4)) = (insAt l i x).flatMap En.cells := by
  have := flat_put elen (l.take i ++ [x]) (List.replicate (l.length - i) E0) (l.drop i) [] (i + 1) (by simp; omega) (by simp)
  rw [List.append_nil, List.append_nil] at this
  have e : List.take ((l.length - i) * 4) ((l.drop i).flatMap En.cells) = (l.drop i).flatMap En.cells := List.take_of_length_le (by rw [flat_len elen, List.length_drop]; exact Nat.le_refl _)
  rw [flat_drop elen l i (by omega), e]
  exact this
/-- One put in at its place, in an owned row. -/
theorem insert_s (A : Option Addr) (c : Nat) (l : List En) (i : Nat) (x : En) (g1 c1 : Nat) (u0 w0 : World) (L : List Asn) (hi : i ≤ l.length) (hl : l.length ≤ 1073741822)
    (hS0 : Sep u0 w0 (row 107 4 (.slice (some ⟨g1, 0, none⟩) 1 c1) 1 x.cells :: row 107 4 (.slice A l.length c) l.length (l.flatMap En.cells) :: L)) :
    Calls Try.prog 86 #[.slice A l.length c, .int .i64 i, .slice (some ⟨g1, 0, none⟩) 1 c1] w0 fun e w' => ∃ r, e = .returned r ∧ ∃ A' c', r = .slice A' (l.length + 1) c' ∧ Sep u0 w' (row 107 4 (.slice A' (l.length + 1) c') (l.length + 1) ((insAt l i x).flatMap En.cells) :: L) := by
  refine enter (args := [.slice A l.length c, .int .i64 i, .slice (some ⟨g1, 0, none⟩) 1 c1]) 95 Try.func86 rfl rfl rfl ?_
  intro a hE _
  have hS := hS0
  clear hS0
  obtain ⟨hc1, hc2, _⟩ := hS.drop.row_cap
  have hAne : 0 < l.length → A ≠ none := fun h e => by
    subst e
    exact absurd ((Rd.row (A := none) (n := l.length) (c := c) (xs := l.flatMap En.cells) hS).some (by rw [flat_len elen]; omega)) (by simp [adr])
  have hx1 : ∀ u ∈ x.cells, u.oneCell' = true := fun u hu => en_one [x] u (by simpa using hu)
  revert hE
  revert hS
  generalize w0 = w
  intro hS hE
  repeat' (first | refine wl_nil ?_ | refine then_n ?_ | refine c_skip ?_ | refine c_ret ?_ | refine then_r ?_ | refine c_cond_t hE rfl ?_ | refine c_cond_f hE rfl ?_ | (refine c_regI 0 ?_; all_goals (refine wl hE rfl ?_; refine qa hE ?_; clear hE a; intro a hE)) | (refine c_regI 1 ?_; all_goals (refine wl hE rfl ?_; refine qm hE ?_; clear hE a; intro a hE); all_goals (refine wl hE rfl ?_; refine qm hE ?_; clear hE a; intro a hE); all_goals (refine wl hE rfl ?_; refine qsL i hE ?_; clear hE a; intro a hE)) | (refine c_regI 2 ?_; all_goals (refine wl hE rfl ?_; refine qm hE ?_; clear hE a; intro a hE); all_goals (refine wl hE rfl ?_; refine qn1 hE ?_; clear hE a; intro a hE); all_goals (refine wl hE rfl ?_; refine qa hE ?_; clear hE a; intro a hE)) | (refine c_regI 3 ?_; all_goals (refine wl hE rfl ?_; refine qm hE ?_; clear hE a; intro a hE); all_goals (refine wl hE rfl ?_; refine qb hE ?_; clear hE a; intro a hE)) | (refine c_regI 5 ?_; all_goals (refine wl hE rfl ?_; refine qm hE ?_; clear hE a; intro a hE); all_goals (refine wl hE rfl ?_; refine qn1 hE ?_; clear hE a; intro a hE); all_goals (refine wl hE rfl ?_; refine qa hE ?_; clear hE a; intro a hE)) | (refine c_regI 6 ?_; all_goals (refine wl hE rfl ?_; refine qm hE ?_; clear hE a; intro a hE); all_goals (refine wl hE rfl ?_; refine qm hE ?_; clear hE a; intro a hE); all_goals (refine wl hE rfl ?_; refine qb hE ?_; clear hE a; intro a hE)) | (refine c_regI 7 ?_; all_goals (refine wl hE rfl ?_; refine qm hE ?_; clear hE a; intro a hE); all_goals (refine wl hE rfl ?_; refine qm hE ?_; clear hE a; intro a hE); all_goals (refine wl hE rfl ?_; refine qap (A := A) (c := c) (xs := l.flatMap En.cells) (N := l.length + 1) hE hS (Rd.row (A := some ⟨g1, 0, none⟩) (n := 1) (c := c1) (xs := x.cells) hS) hx1 ?_; clear hE hS; clear a; intro A2 c2 a w hE hS); all_goals (refine wl hE rfl ?_; refine qa hE ?_; clear hE a; intro a hE)) | (refine c_regI 8 ?_; all_goals (refine wl hE rfl ?_; refine qm hE ?_; clear hE a; intro a hE); all_goals (refine wl hE rfl ?_; refine qm hE ?_; clear hE a; intro a hE); all_goals (refine wl hE rfl ?_; refine qb hE ?_; clear hE a; intro a hE); all_goals (refine wl hE rfl ?_; refine qm hE ?_; clear hE a; intro a hE); all_goals (refine wl hE rfl ?_; refine qcap hE ?_; clear hE a; intro a hE); all_goals (refine wl hE rfl ?_; refine qb hE ?_; clear hE a; intro a hE)) | (refine c_regI 9 ?_; all_goals (refine wl hE rfl ?_; refine qm hE ?_; clear hE a; intro a hE); all_goals (refine wl hE rfl ?_; refine qm hE ?_; clear hE a; intro a hE); all_goals (refine wl hE rfl ?_; refine qsh i hE ?_; clear hE; clear a; intro a hE); all_goals (refine wl hE rfl ?_; refine qm hE ?_; clear hE a; intro a hE); all_goals (refine wl hE rfl ?_; refine qm hE ?_; clear hE a; intro a hE); all_goals (refine wl hE rfl ?_; refine qb hE ?_; clear hE a; intro a hE); all_goals (refine wl hE rfl ?_; refine qm hE ?_; clear hE a; intro a hE); all_goals (refine wl hE rfl ?_; refine qb hE ?_; clear hE a; intro a hE); all_goals (refine wl hE rfl ?_; refine qapm (sz := 4) (cap := c) (v := (l.length : Int) + ((1 : Nat) : Int) - (i : Int)) (k := i) (l := l.length + 1 - i) (N := l.length + 1) hE hS ((Rd.row (A := A) (n := l.length) (c := c) (xs := l.flatMap En.cells) hS).take (i * 4)) ?_ (by rw [List.length_take, flat_len elen]; omega) (by omega) (by omega) (by omega) (by omega) (by omega); clear hE hS; clear a; intro g c3 a w hE hS; obtain ⟨hc3, _, _⟩ := hS.row_cap (n := l.length + 1) (c := c3)); all_goals (refine wl hE rfl ?_; refine qa hE ?_; clear hE a; intro a hE)) | (refine c_regI 10 ?_; all_goals (refine wl hE rfl ?_; refine qm hE ?_; clear hE a; intro a hE); all_goals (refine wl hE rfl ?_; refine qm hE ?_; clear hE a; intro a hE); all_goals (refine wl hE rfl ?_; refine qsL i hE ?_; clear hE a; intro a hE); all_goals (refine wl hE rfl ?_; refine qm hE ?_; clear hE a; intro a hE); all_goals (refine wl hE rfl ?_; refine qcp (sz := 4) (m := 1) (dl := l.length + 1 - i) i 1 (A := some ⟨g, 0, none⟩) (c := c3) (N := l.length + 1) hE hS (Rd.row (A := some ⟨g1, 0, none⟩) (n := 1) (c := c1) (xs := x.cells) hS) (fun u hu => hx1 u (List.mem_of_mem_take hu)) ?_ rfl (by decide) (by decide) (by omega) (by omega) (by omega) (put_new l i x (by omega)); clear hE hS; clear a; intro a w hE hS)) | (refine c_regI 12 ?_; all_goals (refine wl hE rfl ?_; refine qm hE ?_; clear hE a; intro a hE); all_goals (refine wl hE rfl ?_; refine qa hE ?_; clear hE a; intro a hE)) | (refine c_regI 13 ?_; all_goals (refine wl hE rfl ?_; refine qm hE ?_; clear hE a; intro a hE); all_goals (refine wl hE rfl ?_; refine qm hE ?_; clear hE a; intro a hE); all_goals (refine wl hE rfl ?_; refine qm hE ?_; clear hE a; intro a hE); all_goals (refine wl hE rfl ?_; refine qb hE ?_; clear hE a; intro a hE); all_goals (refine wl hE rfl ?_; refine qsh (l.length + 1) hE ?_; clear hE; clear a; intro a hE; obtain ⟨ys, hy, hS2⟩ := hS.row_ext (A := A) (n := l.length) (c := c) 1 (by omega) (hAne (by omega)); replace hS := hS2; clear hS2); all_goals (refine wl hE rfl ?_; refine qa hE ?_; clear hE a; intro a hE)) | (refine c_regI 14 ?_; all_goals (refine wl hE rfl ?_; refine qm hE ?_; clear hE a; intro a hE); all_goals (refine wl hE rfl ?_; refine qm hE ?_; clear hE a; intro a hE); all_goals (refine wl hE rfl ?_; refine qm hE ?_; clear hE a; intro a hE); all_goals (refine wl hE rfl ?_; refine qm hE ?_; clear hE a; intro a hE); all_goals (refine wl hE rfl ?_; refine qb hE ?_; clear hE a; intro a hE); all_goals (refine wl hE rfl ?_; refine qsL (i + 1) hE ?_; clear hE a; intro a hE); all_goals (refine wl hE rfl ?_; obtain ⟨q, hq⟩ := subA_some (i + 1) c 4 (hAne (by omega)); refine qov (p := ⟨g1, 0, none⟩) (q := q) hE (Sep.rows_apart (A := some ⟨g1, 0, none⟩) (B := A) (m := 1) (c := c1) (m2 := l.length + 1) (c2 := c) (e := 107) (e' := 107) (sz := 4) (sz' := 4) (xs := x.cells) (ys := l.flatMap En.cells ++ ys) (L := L) hS.fit (by omega) (i + 1) _ _ rfl hq) ?_ (hy := by rw [← hq]; rfl); clear hE; clear a; intro a hE); all_goals (refine wl hE rfl ?_; refine qu hE ?_; clear hE a; intro a hE)) | (refine c_regI 16 ?_; all_goals (refine wl hE rfl ?_; refine qm hE ?_; clear hE a; intro a hE); all_goals (refine wl hE rfl ?_; refine qm hE ?_; clear hE a; intro a hE); all_goals (refine wl hE rfl ?_; refine qsL i hE ?_; clear hE a; intro a hE); all_goals (refine wl hE rfl ?_; refine qm hE ?_; clear hE a; intro a hE); all_goals (refine wl hE rfl ?_; refine qcp (sz := 4) (m := 1) (dl := l.length + 1 - i) i 1 (A := A) (c := c) (N := l.length + 1) (xs := (l.take (i + 1) ++ l.drop i).flatMap En.cells) hE hS (Rd.row (A := some ⟨g1, 0, none⟩) (n := 1) (c := c1) (xs := x.cells) hS) (fun u hu => hx1 u (List.mem_of_mem_take hu)) ?_ rfl (by decide) (by decide) (by omega) (by omega) (by omega) (put_one l i x (by omega)); clear hE hS; clear a; intro a w hE hS)) | (refine c_regI 17 ?_; all_goals (refine wl hE rfl ?_; refine qm hE ?_; clear hE a; intro a hE); all_goals (refine wl hE rfl ?_; refine qa hE ?_; clear hE a; intro a hE)) | refine c_seq ?_ | (refine rg_guard 11 ?_; refine rg_start [] hE hS ?_; clear hS; (try clear w); intro w hS hX; all_goals (refine rg_y 0 hE hX (by exact y_move) ?_ rfl rfl rfl rfl; clear hE a; intro a hE); all_goals (refine rg_y 1 hE hX (by exact y_move) ?_ rfl rfl rfl rfl; clear hE a; intro a hE); all_goals (refine rg_y 2 hE hX (by exact y_move) ?_ rfl rfl rfl rfl; clear hE a; intro a hE); all_goals (refine rg_y 3 hE hX (by exact y_bin) ?_ rfl rfl rfl rfl; clear hE a; intro a hE); all_goals (refine rg_y 5 hE hX (by exact y_move) ?_ rfl rfl rfl rfl; clear hE a; intro a hE); all_goals (refine rg_y 6 hE hX (by exact y_move) ?_ rfl rfl rfl rfl; clear hE a; intro a hE); all_goals ((refine rg_e2 4 7 (by kernel_rfl) ?_ ?_) <;> first | (intro K hK; refine rg_op (i := 4) hE rfl rfl ?_; (refine qsL (i + 1) hE ?_; clear hE a; intro a hE); refine rg_k hK hS ?_; clear hK hX; clear K; intro hX; all_goals (refine rg_e 7 hE rfl rfl (by kernel_rfl) ?_; intro K hK; (refine qsL i hE ?_; clear hE a; intro a hE); refine rg_k hK hS ?_; clear hK hX; clear K; intro hX); all_goals (refine rg_e 8 hE rfl rfl (by kernel_rfl) ?_; intro K hK; (refine qcp (sz := 4) (m := l.length - i) (dl := l.length + 1 - (i + 1)) (i + 1) (l.length - i) (A := some ⟨g, 0, none⟩) (c := c3) (N := l.length + 1) hE hS ((Rd.row (A := A) (n := l.length) (c := c) (xs := l.flatMap En.cells) hS).sub (flat_len elen l) i hi hc1) (fun u hu => en_one l u (List.mem_of_mem_drop (List.mem_of_mem_take hu))) ?_ (by rw [List.length_drop, flat_len elen, Nat.sub_mul]) (by decide) (by omega) (by omega) (by omega) (by omega) (put_rest l i x (by omega)); clear hE hS; clear a; intro a w hE hS); refine rg_k hK hS ?_; clear hK hX; clear K; intro hX); all_goals (refine rg_done ?_ (by kernel_rfl); (try clear hX))) | (intro K hK; refine rg_op (i := 7) hE rfl rfl ?_; (refine qsL i hE ?_; clear hE a; intro a hE); refine rg_k hK hS ?_; clear hK hX; clear K; intro hX; all_goals (refine rg_e 4 hE rfl rfl (by kernel_rfl) ?_; intro K hK; (refine qsL (i + 1) hE ?_; clear hE a; intro a hE); refine rg_k hK hS ?_; clear hK hX; clear K; intro hX); all_goals (refine rg_e 8 hE rfl rfl (by kernel_rfl) ?_; intro K hK; (refine qcp (sz := 4) (m := l.length - i) (dl := l.length + 1 - (i + 1)) (i + 1) (l.length - i) (A := some ⟨g, 0, none⟩) (c := c3) (N := l.length + 1) hE hS ((Rd.row (A := A) (n := l.length) (c := c) (xs := l.flatMap En.cells) hS).sub (flat_len elen l) i hi hc1) (fun u hu => en_one l u (List.mem_of_mem_drop (List.mem_of_mem_take hu))) ?_ (by rw [List.length_drop, flat_len elen, Nat.sub_mul]) (by decide) (by omega) (by omega) (by omega) (by omega) (put_rest l i x (by omega)); clear hE hS; clear a; intro a w hE hS); refine rg_k hK hS ?_; clear hK hX; clear K; intro hX); all_goals (refine rg_done ?_ (by kernel_rfl); (try clear hX))))) | (refine rg_guard 15 ?_; refine rg_start [] hE hS ?_; clear hS; (try clear w); intro w hS hX; all_goals (refine rg_y 0 hE hX (by exact y_move) ?_ rfl rfl rfl rfl; clear hE a; intro a hE); all_goals (refine rg_y 1 hE hX (by exact y_move) ?_ rfl rfl rfl rfl; clear hE a; intro a hE); all_goals (refine rg_y 2 hE hX (by exact y_move) ?_ rfl rfl rfl rfl; clear hE a; intro a hE); all_goals (refine rg_y 3 hE hX (by exact y_bin) ?_ rfl rfl rfl rfl; clear hE a; intro a hE); all_goals (refine rg_y 5 hE hX (by exact y_move) ?_ rfl rfl rfl rfl; clear hE a; intro a hE); all_goals (refine rg_y 6 hE hX (by exact y_move) ?_ rfl rfl rfl rfl; clear hE a; intro a hE); all_goals ((refine rg_e2 4 7 (by kernel_rfl) ?_ ?_) <;> first | (intro K hK; refine rg_op (i := 4) hE rfl rfl ?_; (refine qsL (i + 1) hE ?_; clear hE a; intro a hE); refine rg_k hK hS ?_; clear hK hX; clear K; intro hX; all_goals (refine rg_e 7 hE rfl rfl (by kernel_rfl) ?_; intro K hK; (refine qsL i hE ?_; clear hE a; intro a hE); refine rg_k hK hS ?_; clear hK hX; clear K; intro hX); all_goals (refine rg_e 8 hE rfl rfl (by kernel_rfl) ?_; intro K hK; (refine qcp (sz := 4) (m := l.length + 1 - i) (dl := l.length + 1 - (i + 1)) (i + 1) (l.length - i) (A := A) (c := c) (N := l.length + 1) (ys := (l.take (i + 1) ++ l.drop i).flatMap En.cells) hE hS ((Rd.row (A := A) (n := l.length + 1) (c := c) (xs := l.flatMap En.cells ++ ys) hS).sub (n := l.length + 1) (cap := c) (by rw [List.length_append, flat_len elen, hy, Nat.add_mul]) i (by omega) (by omega)) (fun u hu => en_one (l.drop i) u (by rw [shift_src l i ys (by omega)] at hu; exact hu)) ?_ (by rw [List.length_drop, List.length_append, flat_len elen, hy]; omega) (by decide) (by omega) (by omega) (by omega) (by omega) (by rw [shift_src l i ys (by omega)]; exact put_shift l i ys (by omega) hy); clear hE hS; clear a; intro a w hE hS); refine rg_k hK hS ?_; clear hK hX; clear K; intro hX); all_goals (refine rg_done ?_ (by kernel_rfl); (try clear hX))) | (intro K hK; refine rg_op (i := 7) hE rfl rfl ?_; (refine qsL i hE ?_; clear hE a; intro a hE); refine rg_k hK hS ?_; clear hK hX; clear K; intro hX; all_goals (refine rg_e 4 hE rfl rfl (by kernel_rfl) ?_; intro K hK; (refine qsL (i + 1) hE ?_; clear hE a; intro a hE); refine rg_k hK hS ?_; clear hK hX; clear K; intro hX); all_goals (refine rg_e 8 hE rfl rfl (by kernel_rfl) ?_; intro K hK; (refine qcp (sz := 4) (m := l.length + 1 - i) (dl := l.length + 1 - (i + 1)) (i + 1) (l.length - i) (A := A) (c := c) (N := l.length + 1) (ys := (l.take (i + 1) ++ l.drop i).flatMap En.cells) hE hS ((Rd.row (A := A) (n := l.length + 1) (c := c) (xs := l.flatMap En.cells ++ ys) hS).sub (n := l.length + 1) (cap := c) (by rw [List.length_append, flat_len elen, hy, Nat.add_mul]) i (by omega) (by omega)) (fun u hu => en_one (l.drop i) u (by rw [shift_src l i ys (by omega)] at hu; exact hu)) ?_ (by rw [List.length_drop, List.length_append, flat_len elen, hy]; omega) (by decide) (by omega) (by omega) (by omega) (by omega) (by rw [shift_src l i ys (by omega)]; exact put_shift l i ys (by omega) hy); clear hE hS; clear a; intro a w hE hS); refine rg_k hK hS ?_; clear hK hX; clear K; intro hX); all_goals (refine rg_done ?_ (by kernel_rfl); (try clear hX))))) | ((refine c_cond hE rfl ?_ ?_) <;> (intro hb; (first | replace hb := of_decide_eq_true hb | replace hb := of_decide_eq_false hb | (simp only [Bool.not_eq_true', Bool.not_eq_false', decide_eq_true_eq, decide_eq_false_iff_not] at hb) | skip); try (exfalso; first | omega | exact absurd trivial hb | exact absurd rfl hb | (simp only [beq_self_eq_true, bne_self_eq_false, reduceCtorEq] at hb; done)))))
  · have e : l.flatMap En.cells ++ x.cells = (insAt l i x).flatMap En.cells := by
      rw [show i = l.length by omega, insAt_end, List.flatMap_append]
      simp
    rw [e] at hS
    exact p_ret hE rfl rfl ⟨_, rfl, _, _, rfl, hS.fit⟩
  all_goals try exact p_ret hE rfl rfl ⟨_, rfl, _, _, rfl, hS.fit⟩
end Go.Proofs.Ytdgpjkddpbiieaa
/- DERIVED. Layer 10: a table's heap; one put in. No condition. -/
namespace Go.Proofs.Ytdgpjkddpbiieaa
open Go.RowKit Go.Sx Go.Proofs.YtdgpjkddpbiieaaTy
set_option linter.unusedVariables false
set_option linter.unusedSimpArgs false
set_option maxRecDepth 100000
attribute [local irreducible] Oper.wp Code.wp wpList wpAnyH Calls bodyPost Exit.then Exit.inBlock Code.rounds
set_option maxHeartbeats 1000000
/-- What a table owns: its block, and its row. -/
def Ag (g : Nat) (l : List En) (room life : Int) : Asn := ex fun (p : Option Addr × Nat) => stars [blk g [.slice p.1 l.length p.2, .func (.func 66) #[] #[], .int .i64 room, .int .i64 life] 136, row 107 4 (.slice p.1 l.length p.2) l.length (l.flatMap En.cells)]
theorem Ag.out {g : Nat} {l : List En} {room life : Int} {w0 w : World} {L L' : List Asn} (hS : Sep w0 w L) (hp : Pull (Ag g l room life) L L' := by repeat (first | exact Pull.here | apply Pull.there)) : ∃ A c, Sep w0 w (blk g [.slice A l.length c, .func (.func 66) #[] #[], .int .i64 room, .int .i64 life] 136 :: row 107 4 (.slice A l.length c) l.length (l.flatMap En.cells) :: L') := by
  obtain ⟨⟨A, c⟩, h⟩ := hS.out_ex hp
  exact ⟨A, c, h.out_stars Pull.here⟩
theorem Ag.in_ {g : Nat} {l : List En} {room life : Int} {A : Option Addr} {c : Nat} {w0 w : World} {L : List Asn} (hS : Sep w0 w (blk g [.slice A l.length c, .func (.func 66) #[] #[], .int .i64 room, .int .i64 life] 136 :: row 107 4 (.slice A l.length c) l.length (l.flatMap En.cells) :: L)) : Sep w0 w (Ag g l room life :: L) :=
  Sep.in_ex (f := fun (p : Option Addr × Nat) => stars [blk g [.slice p.1 l.length p.2, .func (.func 66) #[] #[], .int .i64 room, .int .i64 life] 136, row 107 4 (.slice p.1 l.length p.2) l.length (l.flatMap En.cells)]) (A, c) (Sep.in_stars (M := [_, _]) hS)
theorem At.tail {w : World} {g o : Nat} {x : Value} {xs : List Value} (h : At w ⟨g, o, none⟩ (x :: xs)) : At w ⟨g, o + 1, none⟩ xs := fun j v hj => by
  have := h (j + 1) v (by simpa using hj)
  have e : (⟨g, o, none⟩ : Addr).add (j + 1) = (⟨g, o + 1, none⟩ : Addr).add j := by
    unfold Addr.add
    split <;> split <;> simp only [Addr.mk.injEq, and_true, true_and] <;> omega
  rwa [e] at this
theorem At.head {w : World} {ad : Addr} {x : Value} {xs : List Value} (h : At w ad (x :: xs)) : At w ad [x] := At.pre (xs := [x]) (ys := xs) h
theorem find_t (A : Option Addr) (c g : Nat) (l : List En) (key : Int) (rest : List Value) (w0 : World) (hT : At w0 ⟨g, 0, none⟩ (.slice A l.length c :: .func (.func 66) #[] #[] :: rest)) (hR : Rd w0 A (l.flatMap En.cells)) (hl : l.length ≤ 1073741824) (hs : Rising l) :
    Calls Try.prog 67 #[.pointer (some ⟨g, 0, none⟩), .int .u64 key] w0 fun e w' => ∃ r, e = .returned r ∧ (∃ i : Int, r = .tuple #[.int .i64 i, .bool (decide (i < l.length ∧ (l.getD i.toNat E0).k = key))] ∧ At1 l key i) ∧ Sep w0 w' [] :=
  find_s A c g l key w0 (At.head hT) (At.head (At.tail hT)) hR hl hs
theorem insert_j (A : Option Addr) (c : Nat) (l : List En) (j : Int) (x : En) (g1 c1 : Nat) (u0 w0 : World) (L : List Asn) (hj : 0 ≤ j) (hi : j ≤ l.length) (hl : l.length ≤ 1073741822)
    (hS0 : Sep u0 w0 (row 107 4 (.slice (some ⟨g1, 0, none⟩) 1 c1) 1 x.cells :: row 107 4 (.slice A l.length c) l.length (l.flatMap En.cells) :: L)) :
    Calls Try.prog 86 #[.slice A l.length c, .int .i64 j, .slice (some ⟨g1, 0, none⟩) 1 c1] w0 fun e w' => ∃ r, e = .returned r ∧ ∃ A' c', r = .slice A' (l.length + 1) c' ∧ Sep u0 w' (row 107 4 (.slice A' (l.length + 1) c') (l.length + 1) ((insAt l j.toNat x).flatMap En.cells) :: L) := by
  have := insert_s A c l j.toNat x g1 c1 u0 w0 L (by omega) hl hS0
  rw [Int.toNat_of_nonneg hj] at this
  exact this
theorem insAt_len (l : List En) (i : Nat) (x : En) (h : i ≤ l.length) : (insAt l i x).length = l.length + 1 := by
  simp only [insAt, List.length_append, List.length_take, List.length_singleton, List.length_drop]
  omega
/-- One put in its place, in a list by rising keys. -/
def putAt (l : List En) (i : Int) (x : En) : List En := if i < l.length ∧ (l.getD i.toNat E0).k = x.k then l.set i.toNat x else insAt l i.toNat x
theorem oput_s (g : Nat) (l : List En) (room life : Int) (x : En) (u0 w0 : World) (L : List Asn) (hS0 : Sep u0 w0 (Ag g l room life :: L)) (hl : l.length ≤ 1073741822) (hs : Rising l) : Calls Try.prog 74 #[.pointer (some ⟨g, 0, none⟩), .agg x.cells.toArray] w0 fun e w' => ∃ r, e = .returned r ∧ r = .tuple #[] ∧ ∃ i, At1 l x.k i ∧ Sep u0 w' (Ag g (putAt l i x) room life :: L) := by
  refine enter (args := [.pointer (some ⟨g, 0, none⟩), .agg x.cells.toArray]) 36 Try.func74 rfl rfl rfl ?_
  intro a hE _
  obtain ⟨A, c, hS⟩ := Ag.out hS0
  clear hS0
  obtain ⟨hc1, hc2, _⟩ := hS.drop.row_cap
  have hA : (0 : Int) < l.length → A = some (adr A) := fun h => (Rd.row (A := A) (n := l.length) (c := c) (xs := l.flatMap En.cells) hS).some (by rw [flat_len elen]; omega)
  obtain ⟨g0, hg0⟩ : ∃ g0, g0 = g := ⟨_, rfl⟩
  rw [← hg0] at hE hS
  revert hE
  revert hS
  generalize w0 = w
  intro hS hE
  repeat' (first | refine wl_nil ?_ | refine then_n ?_ | refine c_skip ?_ | refine c_ret ?_ | refine then_r ?_ | (refine c_midr (id := 1) (I := fun a w => ∃ i : Int, At1 l x.k i ∧ ∃ g, Env a 36 [(0, .pointer (some ⟨g0, 0, none⟩)), (3, .pointer (some ⟨g, 0, none⟩)), (4, .int .i64 i), (5, .bool (decide (i < l.length ∧ (l.getD i.toNat E0).k = x.k)))] ∧ Sep u0 w (blk g x.cells 107 :: blk g0 [.slice A l.length c, .func (.func 66) #[] #[], .int .i64 room, .int .i64 life] 136 :: row 107 4 (.slice A l.length c) l.length (l.flatMap En.cells) :: L)) ?_ ?_; rotate_left; clear hE hS; clear a w g; rintro a w ⟨i, hi, g, hE, hS⟩; have hi0 := hi.1; have hi1 := hi.2.1) | (refine c_regI 0 ?_; all_goals (refine wl hE rfl ?_; refine qbx hE hS ?_; clear hE hS; clear a; intro g a w hE hS)) | (refine c_regI 2 ?_; all_goals (refine wl hE rfl ?_; refine qm hE ?_; clear hE a; intro a hE)) | refine c_seq ?_ | (refine rg_guard 1 ?_; refine rg_start [0, 3] hE hS ?_; clear hS; (try clear w); intro w hS hX; all_goals (refine rg_y 0 hE hX (by exact y_move) ?_ rfl rfl rfl rfl; clear hE a; intro a hE); all_goals (refine rg_y 1 hE hX (by exact y_move) ?_ rfl rfl rfl rfl; clear hE a; intro a hE); all_goals (refine rg_y 2 hE hX (by exact y_nil) ?_ rfl rfl rfl rfl; clear hE a; intro a hE); all_goals (refine rg_y 3 hE hX (by exact y_field) ?_ rfl rfl rfl rfl; clear hE a; intro a hE); all_goals (refine rg_y 4 hE hX (by exact y_load) ?_ rfl rfl rfl rfl; clear hE a; intro a hE); all_goals (refine rg_y 5 hE hX (by exact y_loadA) ?_ rfl rfl rfl rfl; clear hE a; intro a hE); all_goals (refine rg_e 6 hE rfl rfl (by kernel_rfl) ?_; intro K hK; (refine qcF (vs := [.agg x.cells.toArray]) (cs := []) hE (key_s x _) ?_; clear hE; clear a; rintro _ a w ⟨rfl, hS1⟩ hE; replace hS := hS.then hS1; clear hS1); refine rg_k hK hS ?_; clear hK hX; clear K; intro hX); all_goals (refine rg_e 7 hE rfl rfl (by kernel_rfl) ?_; intro K hK; (refine is_call 67 rfl ?_; refine qc hE (find_t A c g0 l x.k _ _ (blk_At hS) (Rd.row (A := A) (n := l.length) (c := c) (xs := l.flatMap En.cells) hS) (by omega) hs) ?_; clear hE; clear a; rintro _ a w ⟨⟨i, rfl, hi⟩, hS1⟩ hE; replace hS := hS.then hS1; clear hS1); refine rg_k hK hS ?_; clear hK hX; clear K; intro hX); all_goals (refine rg_y 8 hE hX (by exact y_move) ?_ rfl rfl rfl rfl; clear hE a; intro a hE); all_goals (refine rg_y 9 hE hX (by exact y_extract) ?_ rfl rfl rfl rfl; clear hE a; intro a hE); all_goals (refine rg_y 10 hE hX (by exact y_extract) ?_ rfl rfl rfl rfl; clear hE a; intro a hE); all_goals (refine rg_y 11 hE hX (by exact y_assign) ?_ rfl rfl rfl rfl; clear hE a; intro a hE); all_goals (refine rg_y 12 hE hX (by exact y_assign) ?_ rfl rfl rfl rfl; clear hE a; intro a hE); all_goals (refine rg_done ?_ (by kernel_rfl); (try clear hX))) | (refine rg_guard 3 ?_; refine rl_start 7 [0, 3] hE hS ?_; clear hS; (try clear w); intro w hS hX; all_goals (refine rl_y 0 hE hX (by exact y_move) ?_ rfl rfl rfl rfl; clear hE a; intro a hE); all_goals (refine rl_y 1 hE hX (by exact y_nil) ?_ rfl rfl rfl rfl; clear hE a; intro a hE); all_goals (refine rl_y 2 hE hX (by exact y_field) ?_ rfl rfl rfl rfl; clear hE a; intro a hE); all_goals (refine rl_y 3 hE hX (by exact y_load) ?_ rfl rfl rfl rfl; clear hE a; intro a hE); all_goals (refine rl_y 4 hE hX (by exact y_move) ?_ rfl rfl rfl rfl; clear hE a; intro a hE); all_goals (refine rl_y 5 hE hX (by exact y_loadA) ?_ rfl rfl rfl rfl; clear hE a; intro a hE); all_goals (refine rl_y 6 hE hX (by exact y_index hA) ?_ rfl rfl rfl rfl; clear hE a; intro a hE); all_goals (refine rl_z (z := 7) hE rfl rfl (by kernel_rfl) ?_; intro K hK; (refine qsR (df := E0) (off := 0) (v := .agg x.cells.toArray) (l := l) (i := i) x hE hS elen rfl ?_; clear hS; intro w hS); refine hK _ _ ?_; clear hK; clear K); all_goals (refine rl_done ?_ (by kernel_rfl); (try clear hX))) | (refine rg_guard 4 ?_; refine rl_start 11 [0, 3] hE hS ?_; clear hS; (try clear w); intro w hS hX; all_goals (refine rl_y 0 hE hX (by exact y_move) ?_ rfl rfl rfl rfl; clear hE a; intro a hE); all_goals (refine rl_y 1 hE hX (by exact y_move) ?_ rfl rfl rfl rfl; clear hE a; intro a hE); all_goals (refine rl_y 2 hE hX (by exact y_nil) ?_ rfl rfl rfl rfl; clear hE a; intro a hE); all_goals (refine rl_y 3 hE hX (by exact y_field) ?_ rfl rfl rfl rfl; clear hE a; intro a hE); all_goals (refine rl_y 4 hE hX (by exact y_load) ?_ rfl rfl rfl rfl; clear hE a; intro a hE); all_goals (refine rl_y 5 hE hX (by exact y_move) ?_ rfl rfl rfl rfl; clear hE a; intro a hE); all_goals (refine rl_y 6 hE hX (by exact y_loadA) ?_ rfl rfl rfl rfl; clear hE a; intro a hE); all_goals (refine rl_e 7 hE rfl rfl (by kernel_rfl) ?_; intro K hK; (refine qbs1 hE hS ?_; clear hE hS; clear a; intro g a w hE hS); refine rl_k hK hS ?_; clear hK hX; clear K; intro hX); all_goals (refine rl_e 8 hE rfl rfl (by kernel_rfl) ?_; intro K hK; (refine is_call 86 rfl ?_; refine qc hE (insert_j A c l i x g 1 u0 _ _ hi0 hi1 hl hS.fit) ?_; clear hE hS; clear a; rintro _ a w ⟨A2, c2, rfl, hS⟩ hE); refine rl_k hK hS ?_; clear hK hX; clear K; intro hX); all_goals (refine rl_e 9 hE rfl rfl (by kernel_rfl) ?_; intro K hK; (refine qn hE ?_; clear hE a; intro a hE); refine rl_k hK hS ?_; clear hK hX; clear K; intro hX); all_goals (refine rl_y 10 hE hX (by exact y_field) ?_ rfl rfl rfl rfl; clear hE a; intro a hE); all_goals (refine rl_z (z := 11) hE rfl rfl (by kernel_rfl) ?_; intro K hK; (refine qst hE hS ?_; clear hS; intro w hS); refine hK _ _ ?_; clear hK; clear K); all_goals (refine rl_done ?_ (by kernel_rfl); (try clear hX))) | ((refine c_cond hE rfl ?_ ?_) <;> (intro hb; (first | replace hb := of_decide_eq_true hb | replace hb := of_decide_eq_false hb | (simp only [Bool.not_eq_true', Bool.not_eq_false', decide_eq_true_eq, decide_eq_false_iff_not] at hb) | skip); try (exfalso; first | omega | exact absurd trivial hb | exact absurd rfl hb | (simp only [beq_self_eq_true, bne_self_eq_false, reduceCtorEq] at hb; done)))))
  all_goals subst hg0
  · refine p_none hE rfl ⟨_, rfl, rfl, i, hi, ?_⟩
    have e : (putAt l i x) = l.set i.toNat x := by unfold putAt; rw [if_pos hb]
    rw [e]
    have h2 : l.length = (l.set i.toNat x).length := by simp
    refine Ag.in_ (A := A) (c := c) ?_
    rw [← h2]
    exact hS.fit
  · refine p_end hE rfl ⟨_, rfl, rfl, i, hi, ?_⟩
    have e : (putAt l i x) = insAt l i.toNat x := by unfold putAt; rw [if_neg hb]
    rw [e]
    have h2 : (insAt l i.toNat x).length = l.length + 1 := insAt_len l _ x (by omega)
    refine Ag.in_ (A := A2) (c := c2) ?_
    rw [h2]
    exact hS.fit
  · exact ⟨i, hi, _, hE.cut ⟨rfl, rfl, rfl, rfl, trivial⟩, hS⟩
end Go.Proofs.Ytdgpjkddpbiieaa
/- DERIVED. Layer 10: the first that is so; without those that are so. No condition. -/
namespace Go.Proofs.Ytdgpjkddpbiieaa
open Go.RowKit Go.Sx Go.Proofs.YtdgpjkddpbiieaaTy
set_option linter.unusedVariables false
set_option linter.unusedSimpArgs false
set_option maxRecDepth 100000
attribute [local irreducible] Oper.wp Code.wp wpList wpAnyH Calls bodyPost Exit.then Exit.inBlock Code.rounds
set_option maxHeartbeats 1000000
/-- A function value that tells of each entry of some what p tells. -/
def Tells (f : FuncId) (cs : List Value) (l : List En) (p : En → Bool) (w0 : World) : Prop := ∀ x ∈ l, ∀ w L, Sep w0 w L → Calls Try.prog f (.agg x.cells.toArray :: cs).toArray w fun e w' => ∃ r, e = .returned r ∧ r = .bool (p x) ∧ Sep w w' []
theorem Tells.move {f : FuncId} {cs : List Value} {l : List En} {p : En → Bool} {w0 w : World} {L : List Asn} (h : Tells f cs l p w0) (hS : Sep w0 w L) : Tells f cs l p w := fun x hx w' L' h' => h x hx w' [] (hS.clean.same ⟨h'.below.os, h'.below.tape, h'.below.output, h'.below.size, h'.below.block⟩)
def FoundAt (l : List En) (p : En → Bool) (k : Int) : Prop := (∃ i : Nat, k = i ∧ i < l.length ∧ (∀ y ∈ l.take i, p y = false) ∧ p (l.getD i E0) = true) ∨ (k = -1 ∧ ∀ y ∈ l, p y = false)
theorem FoundAt.rng {l : List En} {p : En → Bool} {k : Int} (h : FoundAt l p k) : k = -1 ∨ (0 ≤ k ∧ k < l.length) := by
  rcases h with ⟨i, h1, h2, _⟩ | ⟨h, _⟩ <;> omega
theorem getD_memE {l : List En} {i : Nat} (h : i < l.length) : l.getD i E0 ∈ l := by simp [h]
theorem take_no {l : List En} {p : En → Bool} {i : Int} (h0 : 0 ≤ i) (h1 : i < (l.length : Int)) (hx : ∀ y ∈ l.take i.toNat, p y = false) (hne : p (l.getD i.toNat E0) = false) : ∀ y ∈ l.take (i + 1).toNat, p y = false := by
  intro y hy
  have hlt : i.toNat < l.length := by omega
  rw [show (i + 1).toNat = i.toNat + 1 by omega, List.take_succ_eq_append_getElem hlt] at hy
  rcases List.mem_append.1 hy with h | h
  · exact hx y h
  · simp at h; subst h; simpa [hlt] using hne
theorem indexF_s (A : Option Addr) (c : Nat) (l : List En) (f : FuncId) [FnTy Try.prog f] (cs : List Value) (p : En → Bool) (w0 : World) (hR : Rd w0 A (l.flatMap En.cells)) (hl : l.length ≤ 9223372036854775806) (hp : Tells f cs l p w0) :
    Calls Try.prog 93 #[.slice A l.length c, .func (.func f) #[] cs.toArray] w0 fun e w' => ∃ r, e = .returned r ∧ (∃ k : Int, r = .int .i64 k ∧ FoundAt l p k) ∧ Sep w0 w' [] := by
  have hA : (0 : Int) < l.length → A = some (adr A) := fun h => hR.some (by rw [flat_len elen]; omega)
  have hT := hR.at_
  refine enter (args := [.slice A l.length c, .func (.func f) #[] cs.toArray]) 19 Try.func93 rfl rfl rfl ?_
  intro a hE hS
  repeat' (first | refine wl_nil ?_ | refine then_n ?_ | refine c_block ?_ | (refine c_regI 0 ?_; all_goals (refine wl hE rfl ?_; refine qa hE ?_; clear hE a; intro a hE)) | (refine c_regI 1 ?_; all_goals (refine wl hE rfl ?_; refine qm hE ?_; clear hE a; intro a hE); all_goals (refine wl hE rfl ?_; refine qn1 hE ?_; clear hE a; intro a hE); all_goals (refine wl hE rfl ?_; refine qm hE ?_; clear hE a; intro a hE)) | refine c_seq ?_)
  refine c_loopN (fun m a w => ∃ i : Int, 0 ≤ i ∧ i ≤ l.length ∧ m = (l.length - i).toNat ∧ (∀ y ∈ l.take i.toNat, p y = false) ∧ Env a 19 [(0, .slice A l.length c), (1, .func (.func f) #[] cs.toArray), (7, .int .i64 l.length), (8, .int .i64 i)] ∧ Sep w0 w []) _ ⟨0, by omega, by omega, rfl, by simp, hE.cut ⟨rfl, rfl, rfl, rfl, trivial⟩, hS⟩ ?_
  clear hE hS a
  rintro m a w ⟨i, h0, h1, rfl, hx, hE, hS⟩
  obtain ⟨x, hxd⟩ : ∃ x, l.getD i.toNat E0 = x := ⟨_, rfl⟩
  have hxm : ∀ _ : Unit, i < l.length → x ∈ l := fun _ h => hxd ▸ getD_memE (by omega)
  repeat' (first | refine wl_nil ?_ | refine then_n ?_ | refine c_block ?_ | refine c_skip ?_ | refine c_exit ?_ | refine c_ret ?_ | refine then_r ?_ | refine then_e ?_ | refine inb_n ?_ | refine inb_r ?_ | refine inb_e ?_ | (refine c_regI 2 ?_; all_goals (refine wl hE rfl ?_; refine qb hE ?_; clear hE a; intro a hE)) | (refine c_regI 3 ?_; all_goals (refine wl hE rfl ?_; refine qm hE ?_; clear hE a; intro a hE); all_goals (refine wl hE rfl ?_; refine qa hE ?_; clear hE a; intro a hE)) | (refine c_regI 4 ?_; all_goals (refine wl hE rfl ?_; refine qm hE ?_; clear hE a; intro a hE); all_goals (refine wl hE rfl ?_; refine qm hE ?_; clear hE a; intro a hE); all_goals (refine wl hE rfl ?_; refine qm hE ?_; clear hE a; intro a hE); all_goals (refine wl hE rfl ?_; refine qi hE hA ?_; clear hE a; intro a hE); all_goals (refine wl hE rfl ?_; refine qLs (i := i) (us := x.cells) (df := E0) hE hS elen hT (by rw [hxd]) ?_; clear hE a; intro a hE); all_goals (refine wl hE rfl ?_; refine qcF (vs := [.agg x.cells.toArray]) hE (hp x (hxm () (by omega)) _ _ hS) ?_; clear hE; clear a; rintro _ a w ⟨rfl, hS1⟩ hE; replace hS := hS.then hS1; clear hS1)) | (refine c_regI 5 ?_; all_goals (refine wl hE rfl ?_; refine qm hE ?_; clear hE a; intro a hE); all_goals (refine wl hE rfl ?_; refine qa hE ?_; clear hE a; intro a hE)) | (refine c_regI 6 ?_; all_goals (refine wl hE rfl ?_; refine qb hE ?_; clear hE a; intro a hE); all_goals (refine wl hE rfl ?_; refine qm hE ?_; clear hE a; intro a hE)) | (refine c_regI 7 ?_; all_goals (refine wl hE rfl ?_; refine qa hE ?_; clear hE a; intro a hE)) | refine c_seq ?_ | ((refine c_cond hE rfl ?_ ?_) <;> (intro hb; (first | replace hb := of_decide_eq_true hb | replace hb := of_decide_eq_false hb | (simp only [Bool.not_eq_true', Bool.not_eq_false', decide_eq_true_eq, decide_eq_false_iff_not] at hb) | skip); try (exfalso; first | omega | exact absurd trivial hb | exact absurd rfl hb | (simp only [beq_self_eq_true, bne_self_eq_false, reduceCtorEq] at hb; done)))))
  · exact p_ret hE rfl rfl ⟨_, rfl, ⟨_, rfl, .inl ⟨i.toNat, by omega, by omega, hx, by rw [hxd]; exact hb⟩⟩, hS⟩
  · exact ⟨_, by omega, i + 1, by omega, by omega, rfl, take_no h0 (by assumption) hx (by rw [hxd]; exact hb), hE.cut ⟨rfl, rfl, rfl, rfl, trivial⟩, hS⟩
  · exact p_ret hE rfl rfl ⟨_, rfl, ⟨_, rfl, .inr ⟨rfl, by rwa [List.take_of_length_le (by omega)] at hx⟩⟩, hS⟩
/-- The walk's list: what is kept of those seen so far, ahead; those not yet seen, as they were. -/
structure Kept (l : List En) (p : En → Bool) (l2 : List En) (i j : Int) : Prop where
  h0 : 0 ≤ i
  h1 : i < j
  h2 : j ≤ l.length
  hl : l2.length = l.length
  ht : l2.take i.toNat = (l.take j.toNat).filter fun x => !p x
  hd : l2.drop j.toNat = l.drop j.toNat
theorem Kept.start {l : List En} {p : En → Bool} {i : Nat} (h : i < l.length) (hn : ∀ y ∈ l.take i, p y = false) (hp : p (l.getD i E0) = true) : Kept l p l i (i + 1) := by
  refine ⟨by omega, by omega, by omega, rfl, ?_, rfl⟩
  have e : l.getD i E0 = l[i] := by simp [h]
  rw [e] at hp
  rw [show ((i : Int) + 1).toNat = i + 1 by omega, List.take_succ_eq_append_getElem h, List.filter_append, show ((i : Int)).toNat = i by omega]
  have h1 : (l.take i).filter (fun x => !p x) = l.take i := List.filter_eq_self.2 fun y hy => by rw [hn y hy]; rfl
  rw [h1]
  simp [hp]
theorem Kept.get {l l2 : List En} {p : En → Bool} {i j : Int} (h : Kept l p l2 i j) (hj : j < l.length) : l2.getD j.toNat E0 = l.getD j.toNat E0 := by
  have e := congrArg (fun q => q[0]?) h.hd
  simp only [List.getElem?_drop, Nat.add_zero] at e
  simp [e]
theorem Kept.skip {l l2 : List En} {p : En → Bool} {i j : Int} (h : Kept l p l2 i j) (hj : j < l.length) (hp : p (l.getD j.toNat E0) = true) : Kept l p l2 i (j + 1) := by
  have h0 := h.h0
  have h1 := h.h1
  have hjl : j.toNat < l.length := by omega
  have hjl2 : j.toNat < l2.length := by rw [h.hl]; exact hjl
  refine ⟨h0, by omega, by omega, h.hl, ?_, ?_⟩
  · have e : l.getD j.toNat E0 = l[j.toNat] := by simp [hjl]
    rw [e] at hp
    rw [show (j + 1).toNat = j.toNat + 1 by omega, List.take_succ_eq_append_getElem hjl, List.filter_append, ← h.ht]
    simp [hp]
  · rw [show (j + 1).toNat = j.toNat + 1 by omega, ← List.drop_drop, ← List.drop_drop, h.hd]
theorem Kept.keep {l l2 : List En} {p : En → Bool} {i j : Int} (h : Kept l p l2 i j) (hj : j < l.length) (hp : p (l.getD j.toNat E0) = false) : Kept l p (l2.set i.toNat (l.getD j.toNat E0)) (i + 1) (j + 1) := by
  have h0 := h.h0
  have h1 := h.h1
  have hjl : j.toNat < l.length := by omega
  have hil2 : i.toNat < l2.length := by rw [h.hl]; omega
  have e : l.getD j.toNat E0 = l[j.toNat] := by simp [hjl]
  rw [e] at hp ⊢
  refine ⟨by omega, by omega, by omega, by simp [h.hl], ?_, ?_⟩
  · rw [show (j + 1).toNat = j.toNat + 1 by omega, show (i + 1).toNat = i.toNat + 1 by omega, List.take_succ_eq_append_getElem hjl, List.filter_append, ← h.ht, List.take_succ_eq_append_getElem (by simpa using hil2), List.take_set_of_le (Nat.le_refl _)]
    simp [hp]
  · rw [show (j + 1).toNat = j.toNat + 1 by omega, List.drop_set_of_lt (by omega), ← List.drop_drop, ← List.drop_drop, h.hd]
theorem kept_end (l2 : List En) (i : Nat) (h : i ≤ l2.length) : (putL (l2.flatMap En.cells) (i * 4) (List.replicate (l2.length - i) [Value.int .u64 0, .int .u64 0, .int .i64 0, .bool false]).flatten).take (i * 4) = (l2.take i).flatMap En.cells := by
  have h1 : (l2.flatMap En.cells).length = l2.length * 4 := flat_len elen l2
  unfold putL
  rw [List.append_assoc, List.take_append_of_le_length (by rw [List.length_take, h1]; omega), List.take_take, Nat.min_self, flat_take elen l2 i h]
theorem deleteF_s (A : Option Addr) (c : Nat) (l : List En) (f : FuncId) [FnTy Try.prog f] (cs : List Value) (p : En → Bool) (u0 w0 : World) (L : List Asn) (hS0 : Sep u0 w0 (row 107 4 (.slice A l.length c) l.length (l.flatMap En.cells) :: L)) (hl : l.length ≤ 1073741823)
    (hp : ∀ x ∈ l, ∀ w, Sep u0 w L → Calls Try.prog f (.agg x.cells.toArray :: cs).toArray w fun e w' => ∃ r, e = .returned r ∧ r = .bool (p x) ∧ Sep w w' []) :
    Calls Try.prog 89 #[.slice A l.length c, .func (.func f) #[] cs.toArray] w0 fun e w' => ∃ r, e = .returned r ∧ ∃ m, m = (l.filter fun x => !p x).length ∧ r = .slice A m c ∧ Sep u0 w' (row 107 4 (.slice A m c) m ((l.filter fun x => !p x).flatMap En.cells) :: L) := by
  obtain ⟨hc1, hc2, _⟩ := hS0.row_cap
  have hA : (0 : Int) < l.length → A = some (adr A) := fun h => (Rd.row (A := A) (n := l.length) (c := c) (xs := l.flatMap En.cells) hS0).some (by rw [flat_len elen]; omega)
  refine enter (args := [.slice A l.length c, .func (.func f) #[] cs.toArray]) 42 Try.func89 rfl rfl rfl ?_
  intro a hE _
  have hS := hS0
  clear hS0
  revert hE
  revert hS
  generalize w0 = w
  intro hS hE
  have hT : Tells f cs l p w := fun x hx w2 L2 h2 => hp x hx w2 (hS.drop.then h2.clean)
  repeat' (first | refine wl_nil ?_ | refine then_n ?_ | refine c_block ?_ | refine c_skip ?_ | refine c_ret ?_ | refine then_r ?_ | (refine c_regI 0 ?_; all_goals (refine wl hE rfl ?_; refine qa hE ?_; clear hE a; intro a hE)) | (refine c_regI 1 ?_; all_goals (refine wl hE rfl ?_; refine qm hE ?_; clear hE a; intro a hE); all_goals (refine wl hE rfl ?_; refine qm hE ?_; clear hE a; intro a hE); all_goals (refine wl hE rfl ?_; refine is_call 93 rfl ?_; refine qc hE (indexF_s A c l f cs p _ (Rd.row (A := A) (n := l.length) (c := c) (xs := l.flatMap En.cells) hS) (by omega) hT) ?_; clear hE; clear a; rintro _ a w ⟨⟨k, rfl, hk⟩, hS1⟩ hE; replace hS := hS.then hS1; clear hS1; have hk1 := hk.rng); all_goals (refine wl hE rfl ?_; refine qa hE ?_; clear hE a; intro a hE)) | (refine c_regI 2 ?_; all_goals (refine wl hE rfl ?_; refine qm hE ?_; clear hE a; intro a hE); all_goals (refine wl hE rfl ?_; refine qb hE ?_; clear hE a; intro a hE)) | (refine c_regI 3 ?_; all_goals (refine wl hE rfl ?_; refine qm hE ?_; clear hE a; intro a hE); all_goals (refine wl hE rfl ?_; refine qa hE ?_; clear hE a; intro a hE)) | (refine c_regI 4 ?_; all_goals (refine wl hE rfl ?_; refine qm hE ?_; clear hE a; intro a hE); all_goals (refine wl hE rfl ?_; refine qb hE ?_; clear hE a; intro a hE); all_goals (refine wl hE rfl ?_; refine qa hE ?_; clear hE a; intro a hE)) | refine c_seq ?_ | ((refine c_cond hE rfl ?_ ?_) <;> (intro hb; (first | replace hb := of_decide_eq_true hb | replace hb := of_decide_eq_false hb | (simp only [Bool.not_eq_true', Bool.not_eq_false', decide_eq_true_eq, decide_eq_false_iff_not] at hb) | skip); try (exfalso; first | omega | exact absurd trivial hb | exact absurd rfl hb | (simp only [beq_self_eq_true, bne_self_eq_false, reduceCtorEq] at hb; done)))))
  · have hno : ∀ y ∈ l, p y = false := by
      rcases hk with ⟨i, h1, _⟩ | ⟨_, h⟩
      · omega
      · exact h
    have e : (l.filter fun x => !p x) = l := List.filter_eq_self.2 fun y hy => by rw [hno y hy]; rfl
    refine p_ret hE rfl rfl ⟨_, rfl, l.length, by rw [e], rfl, ?_⟩
    rw [e]
    exact hS
  · have hK : Kept l p l k (k + 1) := by
      rcases hk with ⟨i, rfl, h1, h2, h3⟩ | ⟨h, _⟩
      · exact Kept.start h1 h2 h3
      · exact absurd h hb
    refine c_loopN (fun m a w => ∃ (l2 : List En) (i j : Int), Kept l p l2 i j ∧ m = (l.length - j).toNat ∧ Env a 42 [(0, .slice A l.length c), (1, .func (.func f) #[] cs.toArray), (5, .int .i64 i), (6, .int .i64 j)] ∧ Sep u0 w (row 107 4 (.slice A l.length c) l.length (l2.flatMap En.cells) :: L)) _ ⟨l, k, k + 1, hK, rfl, hE.cut ⟨rfl, rfl, rfl, rfl, trivial⟩, hS⟩ ?_
    clear hE hS hT a hK hb hk1 hk
    clear w
    rintro m a w ⟨l2, i, j, hK, rfl, hE, hS⟩
    have h0 := hK.h0
    have h1 := hK.h1
    have h2 := hK.h2
    have hl2 := hK.hl
    obtain ⟨x, hx⟩ : ∃ x, l2.getD j.toNat E0 = x := ⟨_, rfl⟩
    have hxm : ∀ _ : Unit, j < l.length → x ∈ l := fun _ h => by rw [← hx, hK.get h]; exact getD_memE (by omega)
    repeat' (first | refine wl_nil ?_ | refine then_n ?_ | refine c_block ?_ | refine c_skip ?_ | refine c_exit ?_ | refine c_ret ?_ | refine then_e ?_ | refine inb_n ?_ | refine inb_e ?_ | (refine c_regI 5 ?_; all_goals (refine wl hE rfl ?_; refine qm hE ?_; clear hE a; intro a hE); all_goals (refine wl hE rfl ?_; refine qm hE ?_; clear hE a; intro a hE); all_goals (refine wl hE rfl ?_; refine qn1 hE ?_; clear hE a; intro a hE); all_goals (refine wl hE rfl ?_; refine qb hE ?_; clear hE a; intro a hE)) | (refine c_regI 7 ?_; all_goals (refine wl hE rfl ?_; refine qm hE ?_; clear hE a; intro a hE); all_goals (refine wl hE rfl ?_; refine qm hE ?_; clear hE a; intro a hE); all_goals (refine wl hE rfl ?_; refine qi hE hA ?_; clear hE a; intro a hE); all_goals (refine wl hE rfl ?_; refine qlR (i := j) (us := x.cells) (df := E0) hE hS elen (by rw [hx]) ?_; clear hE a; intro a hE); all_goals (refine wl hE rfl ?_; refine qal hE hS ?_; clear hE hS; clear a; intro g a w hE hS); all_goals (refine wl hE rfl ?_; refine qst0 hE hS ?_; clear hS; intro w hS)) | (refine c_regI 8 ?_; all_goals (refine wl hE rfl ?_; refine qm hE ?_; clear hE a; intro a hE); all_goals (refine wl hE rfl ?_; refine qL hE hS ?_; clear hE a; intro a hE); all_goals (refine wl hE rfl ?_; refine qcF (vs := [.agg x.cells.toArray]) hE (hp x (hxm () (by omega)) _ hS.fit) ?_; clear hE; clear a; rintro _ a w ⟨rfl, hS1⟩ hE; replace hS := hS.then hS1; clear hS1); all_goals (refine wl hE rfl ?_; refine qu hE ?_; clear hE a; intro a hE)) | (refine c_regI 9 ?_; all_goals (refine wl hE rfl ?_; refine qm hE ?_; clear hE a; intro a hE); all_goals (refine wl hE rfl ?_; refine qm hE ?_; clear hE a; intro a hE); all_goals (refine wl hE rfl ?_; refine qL hE hS ?_; clear hE a; intro a hE); all_goals (refine wl hE rfl ?_; refine qi hE hA ?_; clear hE a; intro a hE); all_goals (refine wl hE rfl ?_; refine qsR (df := E0) (off := 0) (v := .agg x.cells.toArray) (l := l2) (i := i) (A := A) (p := (adr A).add (i.toNat * 4)) x hE hS elen rfl ?_; clear hS; intro w hS)) | (refine c_regI 10 ?_; all_goals (refine wl hE rfl ?_; refine qm hE ?_; clear hE a; intro a hE); all_goals (refine wl hE rfl ?_; refine qb hE ?_; clear hE a; intro a hE); all_goals (refine wl hE rfl ?_; refine qa hE ?_; clear hE a; intro a hE)) | (refine c_regI 6 ?_; all_goals (refine wl hE rfl ?_; refine qm hE ?_; clear hE a; intro a hE); all_goals (refine wl hE rfl ?_; refine qb hE ?_; clear hE a; intro a hE); all_goals (refine wl hE rfl ?_; refine qa hE ?_; clear hE a; intro a hE)) | (refine c_regI 11 ?_; all_goals (refine wl hE rfl ?_; refine qm hE ?_; clear hE a; intro a hE); all_goals (refine wl hE rfl ?_; refine qm hE ?_; clear hE a; intro a hE); all_goals (refine wl hE rfl ?_; refine qsL i.toNat hE ?_; clear hE; clear a; intro a hE); all_goals (refine wl hE rfl ?_; refine qclr (sz := 4) (c := c) (dc := c - i.toNat) (dl := l.length - i.toNat) (zs := [.int .u64 0, .int .u64 0, .int .i64 0, .bool false]) i.toNat (l2.length - i.toNat) (A := A) (N := l.length) (xs := l2.flatMap En.cells) hE hS ?_ (by decide) (by rw [hl2]) (by omega) (by omega) rfl; clear hS; intro w hS)) | (refine c_regI 12 ?_; all_goals (refine wl hE rfl ?_; refine qm hE ?_; clear hE a; intro a hE); all_goals (refine wl hE rfl ?_; refine qm hE ?_; clear hE a; intro a hE); all_goals (refine wl hE rfl ?_; refine qsh i.toNat hE ?_; clear hE; clear a; intro a hE); all_goals (refine wl hE rfl ?_; refine qa hE ?_; clear hE a; intro a hE)) | refine c_seq ?_ | ((refine c_cond hE rfl ?_ ?_) <;> (intro hb; (first | replace hb := of_decide_eq_true hb | replace hb := of_decide_eq_false hb | (simp only [Bool.not_eq_true', Bool.not_eq_false', decide_eq_true_eq, decide_eq_false_iff_not] at hb) | skip); try (exfalso; first | omega | exact absurd trivial hb | exact absurd rfl hb | (simp only [beq_self_eq_true, bne_self_eq_false, reduceCtorEq] at hb; done)))))
    · exact ⟨_, by omega, _, i + 1, j + 1, hK.keep (by omega) (by rw [← hK.get (by omega), hx]; simpa using hb), rfl, hE.cut ⟨rfl, rfl, rfl, rfl, trivial⟩, by rw [← hK.get (by omega), hx]; exact hS.fit⟩
    · exact ⟨_, by omega, l2, i, j + 1, hK.skip (by omega) (by rw [← hK.get (by omega), hx]; simpa using hb), rfl, hE.cut ⟨rfl, rfl, rfl, rfl, trivial⟩, hS.fit⟩
    · have e : j = l.length := by omega
      have ht := hK.ht
      rw [e, List.take_of_length_le (l := l) (by omega)] at ht
      have e1 : (l.filter fun x => !p x).length = i.toNat := by rw [← ht, List.length_take]; omega
      refine p_ret hE rfl rfl ⟨_, rfl, i.toNat, e1.symm, rfl, ?_⟩
      have h3 := hS.row_cut (A := A) (n := l.length) (c := c) i.toNat c (by omega) (by omega) (by omega)
      rw [kept_end l2 i.toNat (by omega), ht] at h3
      exact h3.fit
end Go.Proofs.Ytdgpjkddpbiieaa
/- DERIVED. Layer 10: drop; time, old; Drop, Clear, Expire. No condition. -/
namespace Go.Proofs.Ytdgpjkddpbiieaa
open Go.RowKit Go.Sx Go.Proofs.YtdgpjkddpbiieaaTy
set_option linter.unusedVariables false
set_option linter.unusedSimpArgs false
set_option maxRecDepth 100000
attribute [local irreducible] Oper.wp Code.wp wpList wpAnyH Calls bodyPost Exit.then Exit.inBlock Code.rounds
set_option maxHeartbeats 1000000
def tabC (A : Option Addr) (n c : Nat) (room life : Int) : List Value := [.slice A n c, .func (.func 66) #[] #[], .int .i64 room, .int .i64 life]
theorem odrop_s (g : Nat) (l : List En) (room life : Int) (f : FuncId) [FnTy Try.prog f] (cs : List Value) (p : En → Bool) (u0 w0 : World) (L : List Asn) (hS0 : Sep u0 w0 (Ag g l room life :: L)) (hl : l.length ≤ 1073741823)
    (hp : ∀ x ∈ l, ∀ w A c, Sep u0 w (blk g (tabC A l.length c room life) 136 :: L) → Calls Try.prog f (.agg x.cells.toArray :: cs).toArray w fun e w' => ∃ r, e = .returned r ∧ r = .bool (p x) ∧ Sep w w' []) :
    Calls Try.prog 77 #[.pointer (some ⟨g, 0, none⟩), .func (.func f) #[] cs.toArray] w0 fun e w' => ∃ r, e = .returned r ∧ r = .int .i64 ((l.length : Int) - (l.filter fun x => !p x).length) ∧ Sep u0 w' (Ag g (l.filter fun x => !p x) room life :: L) := by
  refine enter (args := [.pointer (some ⟨g, 0, none⟩), .func (.func f) #[] cs.toArray]) 27 Try.func77 rfl rfl rfl ?_
  intro a hE _
  obtain ⟨A, c, hS⟩ := Ag.out hS0
  clear hS0
  obtain ⟨hc1, hc2, _⟩ := hS.drop.row_cap
  have hle : (l.filter fun x => !p x).length ≤ l.length := List.length_filter_le _ _
  obtain ⟨g0, hg0⟩ : ∃ g0, g0 = g := ⟨_, rfl⟩
  rw [← hg0] at hE hS hp
  revert hE
  revert hS
  generalize w0 = w
  intro hS hE
  repeat' (first | refine wl_nil ?_ | refine then_n ?_ | refine c_ret ?_ | (refine c_regI 0 ?_; all_goals (refine wl hE rfl ?_; refine qa hE ?_; clear hE a; intro a hE)) | (refine c_regI 1 ?_; all_goals (refine wl hE rfl ?_; refine qm hE ?_; clear hE a; intro a hE); all_goals (refine wl hE rfl ?_; refine qn hE ?_; clear hE a; intro a hE); all_goals (refine wl hE rfl ?_; refine qf hE ?_; clear hE a; intro a hE); all_goals (refine wl hE rfl ?_; refine ql hE hS ?_; clear hE a; intro a hE); all_goals (refine wl hE rfl ?_; refine qn1 hE ?_; clear hE a; intro a hE); all_goals (refine wl hE rfl ?_; refine qa hE ?_; clear hE a; intro a hE)) | (refine c_regI 2 ?_; all_goals (refine wl hE rfl ?_; refine qm hE ?_; clear hE a; intro a hE); all_goals (refine wl hE rfl ?_; refine qm hE ?_; clear hE a; intro a hE); all_goals (refine wl hE rfl ?_; refine qn hE ?_; clear hE a; intro a hE); all_goals (refine wl hE rfl ?_; refine qf hE ?_; clear hE a; intro a hE); all_goals (refine wl hE rfl ?_; refine ql hE hS ?_; clear hE a; intro a hE); all_goals (refine wl hE rfl ?_; refine qm hE ?_; clear hE a; intro a hE); all_goals (refine wl hE rfl ?_; refine qc hE (deleteF_s A c l f cs p u0 _ _ hS.fit hl (fun x hx w h => hp x hx w A c h)) ?_; clear hE hS; clear a; rintro _ a w ⟨m, hm, rfl, hS⟩ hE); all_goals (refine wl hE rfl ?_; refine qn hE ?_; clear hE a; intro a hE); all_goals (refine wl hE rfl ?_; refine qf hE ?_; clear hE a; intro a hE); all_goals (refine wl hE rfl ?_; refine qst hE hS ?_; clear hS; intro w hS)) | (refine c_regI 3 ?_; all_goals (refine wl hE rfl ?_; refine qm hE ?_; clear hE a; intro a hE); all_goals (refine wl hE rfl ?_; refine qm hE ?_; clear hE a; intro a hE); all_goals (refine wl hE rfl ?_; refine qn hE ?_; clear hE a; intro a hE); all_goals (refine wl hE rfl ?_; refine qf hE ?_; clear hE a; intro a hE); all_goals (refine wl hE rfl ?_; refine ql hE hS ?_; clear hE a; intro a hE); all_goals (refine wl hE rfl ?_; refine qn1 hE ?_; clear hE a; intro a hE); all_goals (refine wl hE rfl ?_; refine qb hE ?_; clear hE a; intro a hE); all_goals (refine wl hE rfl ?_; refine qa hE ?_; clear hE a; intro a hE)) | refine c_seq ?_)
  subst hg0
  refine p_ret hE rfl rfl ⟨_, rfl, by rw [hm], ?_⟩
  refine Ag.in_ (A := A) (c := c) ?_
  rw [← hm]
  exact hS.fit
end Go.Proofs.Ytdgpjkddpbiieaa
/- DERIVED. Layer 10: what is dropped: by a key, by a value, what is old. No condition. -/
namespace Go.Proofs.Ytdgpjkddpbiieaa
open Go.RowKit Go.Sx Go.Proofs.YtdgpjkddpbiieaaTy
set_option linter.unusedVariables false
set_option linter.unusedSimpArgs false
set_option maxRecDepth 100000
attribute [local irreducible] Oper.wp Code.wp wpList wpAnyH Calls bodyPost Exit.then Exit.inBlock Code.rounds
set_option maxHeartbeats 1000000
def okT (now : Int) : Bool := decide (0 ≤ now ∧ now ≤ 1099511627776)
theorem time_s (now : Int) (w0 : World) : Calls Try.prog 68 #[.int .i64 now] w0 fun e w' => ∃ r, e = .returned r ∧ r = .bool (okT now) ∧ Sep w0 w' [] := by
  refine enter (args := [.int .i64 now]) 9 Try.func68 rfl rfl rfl ?_
  intro a hE hS
  repeat' (first | refine wl_nil ?_ | refine then_n ?_ | refine c_ret ?_ | (refine c_regI 0 ?_; all_goals (refine wl hE rfl ?_; refine qa hE ?_; clear hE a; intro a hE)) | (refine c_regI 1 ?_; all_goals (refine wl hE rfl ?_; refine qm hE ?_; clear hE a; intro a hE); all_goals (refine wl hE rfl ?_; refine qb hE ?_; clear hE a; intro a hE); all_goals (refine wl hE rfl ?_; refine qm hE ?_; clear hE a; intro a hE); all_goals ((refine wl_splitg hE rfl rfl ?_ ?_) <;> (clear hE; intro hb hE; (first | replace hb := of_decide_eq_true hb | replace hb := of_decide_eq_false hb | (simp only [Bool.not_eq_true', Bool.not_eq_false', decide_eq_true_eq, decide_eq_false_iff_not] at hb) | skip); try (exfalso; first | omega | exact absurd trivial hb | exact absurd rfl hb | (simp only [beq_self_eq_true, bne_self_eq_false, reduceCtorEq] at hb; done))) <;> (first | (refine wl hE rfl ?_; refine qm hE ?_; clear hE a; intro a hE) | (refine wl_skip hE rfl rfl rfl ?_; clear hE a; intro a hE))); all_goals (first | (refine wl hE rfl ?_; refine qb hE ?_; clear hE a; intro a hE) | (refine wl_skip hE rfl rfl rfl ?_; clear hE a; intro a hE)); all_goals (refine wl hE rfl ?_; first | (refine qpt hE ?_; clear hE a; intro a hE) | (refine qpf hE ?_; clear hE a; intro a hE)); all_goals (refine wl hE rfl ?_; refine qa hE ?_; clear hE a; intro a hE)) | refine c_seq ?_)
  all_goals exact p_ret hE rfl rfl ⟨_, rfl, by simp [okT, *], hS⟩
/-- Is an entry too old? -/
def oldE (life now : Int) (x : En) : Bool := !x.f && decide (life ≤ now - x.t)
theorem clearv_s (b : Nat) (v : Int) (x : En) (w0 : World) (hB : At w0 ⟨b, 0, none⟩ [.int .u64 v]) : Calls Try.prog 78 #[.agg x.cells.toArray, .pointer (some ⟨b, 0, none⟩)] w0 fun e w' => ∃ r, e = .returned r ∧ r = .bool (!x.f && decide (x.v = v)) ∧ Sep w0 w' [] := by
  refine enter (args := [.agg x.cells.toArray, .pointer (some ⟨b, 0, none⟩)]) 13 Try.func78 rfl rfl rfl ?_
  intro a hE hS
  repeat' (first | refine wl_nil ?_ | refine then_n ?_ | refine c_block ?_ | refine c_skip ?_ | refine c_exit ?_ | refine c_ret ?_ | refine then_r ?_ | refine then_e ?_ | refine inb_n ?_ | refine inb_r ?_ | refine inb_e ?_ | refine inb_o rfl ?_ | refine c_cond_t hE rfl ?_ | refine c_cond_f hE rfl ?_ | refine c_rnd ?_ | (refine c_regI 0 ?_; all_goals (refine wl hE rfl ?_; refine qbx hE hS ?_; clear hE hS; clear a; intro g a w hE hS); all_goals (refine wl hE rfl ?_; refine qa hE ?_; clear hE a; intro a hE)) | (refine c_regI 1 ?_; all_goals (refine wl hE rfl ?_; first | (refine qf hE ?_; clear hE a; intro a hE) | (refine qFF hE ?_; clear hE a; intro a hE) | (refine qF hE ?_; clear hE a; intro a hE)); all_goals (refine wl hE rfl ?_; first | (refine q0 hE hS hB ?_; clear hE a; intro a hE) | (refine ql hE hS ?_; clear hE a; intro a hE) | (refine qL hE hS ?_; clear hE a; intro a hE) | (refine qlr hE hS ?_; clear hE a; intro a hE)); all_goals (refine wl hE rfl ?_; first | (refine qu hE ?_; clear hE a; intro a hE) | (refine qng hE ?_; clear hE a; intro a hE)); all_goals (refine wl hE rfl ?_; refine qm hE ?_; clear hE a; intro a hE); all_goals (first | (refine wl hE rfl ?_; first | (refine qf hE ?_; clear hE a; intro a hE) | (refine qFF hE ?_; clear hE a; intro a hE) | (refine qF hE ?_; clear hE a; intro a hE)) | (refine wl_skip hE rfl rfl rfl ?_; clear hE a; intro a hE) | ((refine wl_splitg hE rfl rfl ?_ ?_) <;> (clear hE; intro hb hE; (first | replace hb := of_decide_eq_true hb | replace hb := of_decide_eq_false hb | (simp only [Bool.not_eq_true', Bool.not_eq_false', decide_eq_true_eq, decide_eq_false_iff_not] at hb) | skip); try (exfalso; first | omega | exact absurd trivial hb | exact absurd rfl hb | (simp only [beq_self_eq_true, bne_self_eq_false, reduceCtorEq] at hb; done))) <;> (first | (refine wl hE rfl ?_; first | (refine qf hE ?_; clear hE a; intro a hE) | (refine qFF hE ?_; clear hE a; intro a hE) | (refine qF hE ?_; clear hE a; intro a hE)) | (refine wl_skip hE rfl rfl rfl ?_; clear hE a; intro a hE)))); all_goals (first | (refine wl hE rfl ?_; first | (refine q0 hE hS hB ?_; clear hE a; intro a hE) | (refine ql hE hS ?_; clear hE a; intro a hE) | (refine qL hE hS ?_; clear hE a; intro a hE) | (refine qlr hE hS ?_; clear hE a; intro a hE)) | (refine wl_skip hE rfl rfl rfl ?_; clear hE a; intro a hE)); all_goals (first | (refine wl hE rfl ?_; first | (refine q0 hE hS hB ?_; clear hE a; intro a hE) | (refine ql hE hS ?_; clear hE a; intro a hE) | (refine qL hE hS ?_; clear hE a; intro a hE) | (refine qlr hE hS ?_; clear hE a; intro a hE)) | (refine wl_skip hE rfl rfl rfl ?_; clear hE a; intro a hE)); all_goals (first | (refine wl hE rfl ?_; first | (refine qb hE ?_; clear hE a; intro a hE) | (refine qb2 hE ?_; clear hE a; intro a hE) | (refine qbE hE ?_; clear hE a; intro a hE) | (refine qbN hE ?_; clear hE a; intro a hE) | (refine qpn hE ?_; clear hE a; intro a hE)) | (refine wl_skip hE rfl rfl rfl ?_; clear hE a; intro a hE)); all_goals (refine wl hE rfl ?_; first | (refine qpt hE ?_; clear hE a; intro a hE) | (refine qpf hE ?_; clear hE a; intro a hE)); all_goals (refine wl hE rfl ?_; refine qa hE ?_; clear hE a; intro a hE)) | refine c_seq ?_ | ((refine c_cond hE rfl ?_ ?_) <;> (intro hb; (first | replace hb := of_decide_eq_true hb | replace hb := of_decide_eq_false hb | (simp only [Bool.not_eq_true', Bool.not_eq_false', decide_eq_true_eq, decide_eq_false_iff_not] at hb) | skip); try (exfalso; first | omega | exact absurd trivial hb | exact absurd rfl hb | (simp only [beq_self_eq_true, bne_self_eq_false, reduceCtorEq] at hb; done)))))
  all_goals exact p_ret hE rfl rfl ⟨_, rfl, by simp [*], hS.clean⟩
theorem old_s (g : Nat) (life now : Int) (x : En) (w0 : World) (hF : At w0 ⟨g, 3, none⟩ [.int .i64 life]) (hn : 0 ≤ now ∧ now ≤ 1099511627776) (ht : 0 ≤ x.t ∧ x.t ≤ 1099511627776) : Calls Try.prog 69 #[.pointer (some ⟨g, 0, none⟩), .agg x.cells.toArray, .int .i64 now] w0 fun e w' => ∃ r, e = .returned r ∧ r = .bool (oldE life now x) ∧ Sep w0 w' [] := by
  refine enter (args := [.pointer (some ⟨g, 0, none⟩), .agg x.cells.toArray, .int .i64 now]) 21 Try.func69 rfl rfl rfl ?_
  intro a hE hS
  repeat' (first | refine wl_nil ?_ | refine then_n ?_ | refine c_ret ?_ | (refine c_regI 0 ?_; all_goals (refine wl hE rfl ?_; refine qbx hE hS ?_; clear hE hS; clear a; intro g a w hE hS); all_goals (refine wl hE rfl ?_; refine qa hE ?_; clear hE a; intro a hE)) | refine c_seq ?_ | (refine rg_guard 1 ?_; refine rg_start [4, 0] hE hS ?_; clear hS; (try clear w); intro w hS hX; all_goals (refine rg_y 0 hE hX (by exact y_field) ?_ rfl rfl rfl rfl; clear hE a; intro a hE); all_goals (refine rg_y 1 hE hX (by exact y_load) ?_ rfl rfl rfl rfl; clear hE a; intro a hE); all_goals (refine rg_y 2 hE hX (by exact y_not) ?_ rfl rfl rfl rfl; clear hE a; intro a hE); all_goals (refine rg_y 3 hE hX (by exact y_move) ?_ rfl rfl rfl rfl; clear hE a; intro a hE); all_goals ((refine rg_split hE 10 rfl ?_ ?_) <;> (clear hE; intro hb hE; (first | replace hb := of_decide_eq_true hb | replace hb := of_decide_eq_false hb | (simp only [Bool.not_eq_true', Bool.not_eq_false', decide_eq_true_eq, decide_eq_false_iff_not] at hb) | skip); try (exfalso; first | omega | exact absurd trivial hb | exact absurd rfl hb | (simp only [beq_self_eq_true, bne_self_eq_false, reduceCtorEq] at hb; done))) <;> (first | (refine rg_y 4 hE hX (by exact y_move) ?_ rfl rfl rfl rfl; clear hE a; intro a hE) | (refine rg_n 4 hE hX ?_ rfl rfl rfl rfl; clear hE a; intro a hE))); all_goals (first | (refine rg_y 5 hE hX (by exact y_field) ?_ rfl rfl rfl rfl; clear hE a; intro a hE) | (refine rg_n 5 hE hX ?_ rfl rfl rfl rfl; clear hE a; intro a hE)); all_goals (first | (refine rg_y 6 hE hX (by exact y_load) ?_ rfl rfl rfl rfl; clear hE a; intro a hE) | (refine rg_n 6 hE hX ?_ rfl rfl rfl rfl; clear hE a; intro a hE)); all_goals (first | (refine rg_y 7 hE hX (by exact y_bin) ?_ rfl rfl rfl rfl; clear hE a; intro a hE) | (refine rg_n 7 hE hX ?_ rfl rfl rfl rfl; clear hE a; intro a hE)); all_goals (first | (refine rg_y 8 hE hX (by exact y_move) ?_ rfl rfl rfl rfl; clear hE a; intro a hE) | (refine rg_n 8 hE hX ?_ rfl rfl rfl rfl; clear hE a; intro a hE)); all_goals (first | (refine rg_y 9 hE hX (by exact y_nil) ?_ rfl rfl rfl rfl; clear hE a; intro a hE) | (refine rg_n 9 hE hX ?_ rfl rfl rfl rfl; clear hE a; intro a hE)); all_goals (first | (refine rg_y 10 hE hX (by exact y_field) ?_ rfl rfl rfl rfl; clear hE a; intro a hE) | (refine rg_n 10 hE hX ?_ rfl rfl rfl rfl; clear hE a; intro a hE)); all_goals (first | (refine rg_y 11 hE hX (by exact y_load0 hF) ?_ rfl rfl rfl rfl; clear hE a; intro a hE) | (refine rg_n 11 hE hX ?_ rfl rfl rfl rfl; clear hE a; intro a hE)); all_goals (first | (refine rg_y 12 hE hX (by exact y_bin) ?_ rfl rfl rfl rfl; clear hE a; intro a hE) | (refine rg_n 12 hE hX ?_ rfl rfl rfl rfl; clear hE a; intro a hE)); all_goals (refine rg_y 13 hE hX (by first | exact y_pick_t | exact y_pick_f) ?_ rfl rfl rfl rfl; clear hE a; intro a hE); all_goals (refine rg_y 14 hE hX (by exact y_assign) ?_ rfl rfl rfl rfl; clear hE a; intro a hE); all_goals (refine rg_done ?_ (by kernel_rfl); (try clear hX))))
  all_goals exact p_ret hE rfl rfl ⟨_, rfl, by simp [oldE, *], hS.clean⟩
end Go.Proofs.Ytdgpjkddpbiieaa
/- DERIVED. Layer 10: Drop, Clear, Expire. No condition. -/
namespace Go.Proofs.Ytdgpjkddpbiieaa
open Go.RowKit Go.Sx Go.Proofs.YtdgpjkddpbiieaaTy
set_option linter.unusedVariables false
set_option linter.unusedSimpArgs false
set_option maxRecDepth 100000
attribute [local irreducible] Oper.wp Code.wp wpList wpAnyH Calls bodyPost Exit.then Exit.inBlock Code.rounds
set_option maxHeartbeats 1000000
/-- The times of a table's entries are times. -/
def Times (l : List En) : Prop := ∀ x ∈ l, 0 ≤ x.t ∧ x.t ≤ 1099511627776
def noVal (v : Int) (l : List En) : List En := l.filter fun x => !(!x.f && decide (x.v = v))
def noOld (life now : Int) (l : List En) : List En := l.filter fun x => !oldE life now x
theorem clear_s (g0 : Nat) (l : List En) (room life v : Int) (u0 w0 : World) (L : List Asn) (hS0 : Sep u0 w0 (Ag g0 l room life :: L)) (hl : l.length ≤ 1073741823) : Calls Try.prog 61 #[.pointer (some ⟨g0, 0, none⟩), .int .u64 v] w0 fun e w' => ∃ r, e = .returned r ∧ r = .int .i64 ((l.length : Int) - (noVal v l).length) ∧ Sep u0 w' (Ag g0 (noVal v l) room life :: L) := by
  refine enter (args := [.pointer (some ⟨g0, 0, none⟩), .int .u64 v]) 10 Try.func61 rfl rfl rfl ?_
  intro a hE _
  have hS := hS0
  clear hS0
  revert hE
  revert hS
  generalize w0 = w
  intro hS hE
  repeat' (first | refine wl_nil ?_ | refine then_n ?_ | refine c_block ?_ | refine c_skip ?_ | refine c_exit ?_ | refine c_ret ?_ | refine then_r ?_ | refine then_e ?_ | refine inb_n ?_ | refine inb_r ?_ | refine inb_e ?_ | refine inb_o rfl ?_ | refine c_cond_t hE rfl ?_ | refine c_cond_f hE rfl ?_ | refine c_rnd ?_ | (refine c_regI 0 ?_; all_goals (refine wl hE rfl ?_; refine qbx hE hS ?_; clear hE hS; clear a; intro g a w hE hS); all_goals (refine wl hE rfl ?_; refine qa hE ?_; clear hE a; intro a hE)) | (refine c_regI 1 ?_; all_goals (refine wl hE rfl ?_; refine qm hE ?_; clear hE a; intro a hE); all_goals (refine wl hE rfl ?_; first | (refine qn hE ?_; clear hE a; intro a hE) | (refine qnf hE ?_; clear hE a; intro a hE)); all_goals (refine wl hE rfl ?_; first | (refine qf hE ?_; clear hE a; intro a hE) | (refine qFF hE ?_; clear hE a; intro a hE) | (refine qF hE ?_; clear hE a; intro a hE)); all_goals (refine wl hE rfl ?_; refine qmf2 hE ?_; clear hE; clear a; intro a hE); all_goals (refine wl hE rfl ?_; refine is_call 77 rfl ?_; refine qc hE (odrop_s g0 l room life 78 [.pointer (some ⟨g, 0, none⟩)] (fun x => !x.f && decide (x.v = v)) u0 _ (blk g [.int .u64 v] 35 :: L) hS.fit hl (fun x _ w A c h => clearv_s g v x w (blk_At h))) ?_; clear hE hS; clear a; rintro _ a w ⟨rfl, hS⟩ hE); all_goals (refine wl hE rfl ?_; refine qa hE ?_; clear hE a; intro a hE)) | refine c_seq ?_ | ((refine c_cond hE rfl ?_ ?_) <;> (intro hb; (first | replace hb := of_decide_eq_true hb | replace hb := of_decide_eq_false hb | (simp only [Bool.not_eq_true', Bool.not_eq_false', decide_eq_true_eq, decide_eq_false_iff_not] at hb) | skip); try (exfalso; first | omega | exact absurd trivial hb | exact absurd rfl hb | (simp only [beq_self_eq_true, bne_self_eq_false, reduceCtorEq] at hb; done)))))
  exact p_ret hE rfl rfl ⟨_, rfl, rfl, hS.fit⟩
theorem expire1_s (b1 b2 g0 : Nat) (life now : Int) (x : En) (w0 : World) (h1 : At w0 ⟨b1, 0, none⟩ [.pointer (some ⟨g0, 0, none⟩)]) (h2 : At w0 ⟨b2, 0, none⟩ [.int .i64 now]) (hF : At w0 ⟨g0, 3, none⟩ [.int .i64 life]) (hn : 0 ≤ now ∧ now ≤ 1099511627776) (ht : 0 ≤ x.t ∧ x.t ≤ 1099511627776) : Calls Try.prog 84 #[.agg x.cells.toArray, .pointer (some ⟨b1, 0, none⟩), .pointer (some ⟨b2, 0, none⟩)] w0 fun e w' => ∃ r, e = .returned r ∧ r = .bool (oldE life now x) ∧ Sep w0 w' [] := by
  refine enter (args := [.agg x.cells.toArray, .pointer (some ⟨b1, 0, none⟩), .pointer (some ⟨b2, 0, none⟩)]) 9 Try.func84 rfl rfl rfl ?_
  intro a hE hS
  repeat' (first | refine wl_nil ?_ | refine then_n ?_ | refine c_ret ?_ | (refine c_regI 0 ?_; all_goals (refine wl hE rfl ?_; refine qbx hE hS ?_; clear hE hS; clear a; intro g a w hE hS); all_goals (refine wl hE rfl ?_; refine qa hE ?_; clear hE a; intro a hE)) | (refine c_regI 1 ?_; all_goals (refine wl hE rfl ?_; refine q0 hE hS h1 ?_; clear hE a; intro a hE); all_goals (refine wl hE rfl ?_; refine qL hE hS ?_; clear hE a; intro a hE); all_goals (refine wl hE rfl ?_; refine q0 hE hS h2 ?_; clear hE a; intro a hE); all_goals (refine wl hE rfl ?_; refine is_call 69 rfl ?_; refine qc hE (old_s g0 life now x _ (hF.move hS) hn ht) ?_; clear hE; clear a; rintro _ a w ⟨rfl, hS1⟩ hE; replace hS := hS.then hS1; clear hS1); all_goals (refine wl hE rfl ?_; refine qa hE ?_; clear hE a; intro a hE)) | refine c_seq ?_)
  exact p_ret hE rfl rfl ⟨_, rfl, rfl, hS.clean⟩
theorem tab_life {A : Option Addr} {n c : Nat} {g : Nat} {room life : Int} {w0 w : World} {L : List Asn} (h : Sep w0 w (blk g (tabC A n c room life) 136 :: L)) : At w ⟨g, 3, none⟩ [.int .i64 life] := At.tail (At.tail (At.tail (blk_At h Pull.here)))
theorem expire_s (g0 : Nat) (l : List En) (room life now : Int) (u0 w0 : World) (L : List Asn) (hS0 : Sep u0 w0 (Ag g0 l room life :: L)) (hl : l.length ≤ 1073741823) (ht : Times l) : Calls Try.prog 72 #[.pointer (some ⟨g0, 0, none⟩), .int .i64 now] w0 fun e w' => ∃ r, e = .returned r ∧ r = .int .i64 (if okT now = true then (l.length : Int) - (noOld life now l).length else 0) ∧ Sep u0 w' (Ag g0 (if okT now = true then noOld life now l else l) room life :: L) := by
  refine enter (args := [.pointer (some ⟨g0, 0, none⟩), .int .i64 now]) 13 Try.func72 rfl rfl rfl ?_
  intro a hE _
  have hS := hS0
  clear hS0
  revert hE
  revert hS
  generalize w0 = w
  intro hS hE
  repeat' (first | refine wl_nil ?_ | refine then_n ?_ | refine c_skip ?_ | refine c_ret ?_ | refine then_r ?_ | (refine c_regI 0 ?_; all_goals (refine wl hE rfl ?_; refine qbx hE hS ?_; clear hE hS; clear a; intro g a w hE hS); all_goals (refine wl hE rfl ?_; refine qbx hE hS ?_; clear hE hS; clear a; intro g a w hE hS); all_goals (refine wl hE rfl ?_; refine qa hE ?_; clear hE a; intro a hE)) | (refine c_regI 1 ?_; all_goals (refine wl hE rfl ?_; refine ql hE hS ?_; clear hE a; intro a hE); all_goals (refine wl hE rfl ?_; refine is_call 68 rfl ?_; refine qc hE (time_s _ _) ?_; clear hE; clear a; rintro _ a w ⟨rfl, hS1⟩ hE; replace hS := hS.then hS1; clear hS1); all_goals (refine wl hE rfl ?_; refine qu hE ?_; clear hE a; intro a hE)) | (refine c_regI 2 ?_; all_goals (refine wl hE rfl ?_; refine qa hE ?_; clear hE a; intro a hE)) | refine c_seq ?_ | ((refine c_cond hE rfl ?_ ?_) <;> (intro hb; (first | replace hb := of_decide_eq_true hb | replace hb := of_decide_eq_false hb | (simp only [Bool.not_eq_true', Bool.not_eq_false', decide_eq_true_eq, decide_eq_false_iff_not] at hb) | skip); try (exfalso; first | omega | exact absurd trivial hb | exact absurd rfl hb | (simp only [beq_self_eq_true, bne_self_eq_false, reduceCtorEq] at hb; done)))))
  · exact p_ret hE rfl rfl ⟨_, rfl, by rw [hb]; rfl, by rw [hb]; exact hS.fit⟩
  · obtain ⟨b1, hS2, hE2⟩ : ∃ b1, Sep u0 w (blk g [.int .i64 now] 3 :: blk b1 [.pointer (some ⟨g0, 0, none⟩)] 97 :: Ag g0 l room life :: L) ∧ Env a 13 [(2, .pointer (some ⟨b1, 0, none⟩)), (3, .pointer (some ⟨g, 0, none⟩))] := ⟨_, hS, hE.cut ⟨rfl, rfl, trivial⟩⟩
    replace hS := hS2
    replace hE := hE2
    clear hS2 hE2
    have hn : 0 ≤ now ∧ now ≤ 1099511627776 := of_decide_eq_true hb
    repeat' (first | refine wl_nil ?_ | refine then_n ?_ | refine c_ret ?_ | (refine c_regI 3 ?_; all_goals (refine wl hE rfl ?_; refine ql hE hS ?_; clear hE a; intro a hE); all_goals (refine wl hE rfl ?_; refine qn hE ?_; clear hE a; intro a hE); all_goals (refine wl hE rfl ?_; refine qf hE ?_; clear hE a; intro a hE); all_goals (refine wl hE rfl ?_; refine qmf2 hE ?_; clear hE; clear a; intro a hE); all_goals (refine wl hE rfl ?_; refine is_call 77 rfl ?_; refine qc hE (odrop_s g0 l room life 84 [.pointer (some ⟨b1, 0, none⟩), .pointer (some ⟨g, 0, none⟩)] (oldE life now) u0 _ (blk g [.int .i64 now] 3 :: blk b1 [.pointer (some ⟨g0, 0, none⟩)] 97 :: L) hS.fit hl (fun x hx w A c h => expire1_s b1 g g0 life now x w (blk_At h) (blk_At h) (tab_life h) hn (ht x hx))) ?_; clear hE hS; clear a; rintro _ a w ⟨rfl, hS⟩ hE); all_goals (refine wl hE rfl ?_; refine qa hE ?_; clear hE a; intro a hE)))
    exact p_ret hE rfl rfl ⟨_, rfl, by rw [if_pos hb]; rfl, by rw [if_pos hb]; exact hS.fit⟩
end Go.Proofs.Ytdgpjkddpbiieaa
/- DERIVED. Layer 10: slices.Delete of one. No condition. -/
namespace Go.Proofs.Ytdgpjkddpbiieaa
open Go.RowKit Go.Sx Go.Proofs.YtdgpjkddpbiieaaTy
set_option linter.unusedVariables false
set_option linter.unusedSimpArgs false
set_option maxRecDepth 100000
attribute [local irreducible] Oper.wp Code.wp wpList wpAnyH Calls bodyPost Exit.then Exit.inBlock Code.rounds
set_option maxHeartbeats 1000000
theorem del_ys (l : List En) (i : Nat) (hi : i < l.length) : (l.take i).flatMap En.cells ++ (l.drop (i + 1)).flatMap En.cells = (l.eraseIdx i).flatMap En.cells := by
  rw [← List.flatMap_append, List.eraseIdx_eq_take_drop_succ]
theorem del_len (l : List En) (i : Nat) (hi : i < l.length) : (l.eraseIdx i).length = l.length - 1 := List.length_eraseIdx_of_lt hi
theorem delete_s (A : Option Addr) (c : Nat) (l : List En) (i : Nat) (u0 w0 : World) (L : List Asn) (hi : i < l.length) (hl : l.length ≤ 1073741822)
    (hS0 : Sep u0 w0 (row 107 4 (.slice A l.length c) l.length (l.flatMap En.cells) :: L)) :
    Calls Try.prog 85 #[.slice A l.length c, .int .i64 i, .int .i64 (i + 1)] w0 fun e w' => ∃ r, e = .returned r ∧ r = .slice A (l.length - 1) c ∧ Sep u0 w' (row 107 4 (.slice A (l.length - 1) c) (l.length - 1) ((l.eraseIdx i).flatMap En.cells) :: L) := by
  refine enter (args := [.slice A l.length c, .int .i64 i, .int .i64 (i + 1)]) 33 Try.func85 rfl rfl rfl ?_
  intro a hE _
  have hS := hS0
  clear hS0
  obtain ⟨hc1, hc2, _⟩ := hS.row_cap
  have hAne : A ≠ none := fun e => by
    subst e
    exact absurd ((Rd.row (A := none) (n := l.length) (c := c) (xs := l.flatMap En.cells) hS).some (by rw [flat_len elen]; omega)) (by simp [adr])
  revert hE
  revert hS
  generalize w0 = w
  intro hS hE
  repeat' (first | refine wl_nil ?_ | refine then_n ?_ | refine c_skip ?_ | (refine c_regI 0 ?_; all_goals (refine wl hE rfl ?_; refine qa hE ?_; clear hE a; intro a hE)) | (refine c_regI 1 ?_; all_goals (refine wl hE rfl ?_; refine qm hE ?_; clear hE a; intro a hE); all_goals (refine wl hE rfl ?_; refine qm hE ?_; clear hE a; intro a hE); all_goals (refine wl hE rfl ?_; refine qm hE ?_; clear hE a; intro a hE); all_goals (refine wl hE rfl ?_; refine qm hE ?_; clear hE a; intro a hE); all_goals (refine wl hE rfl ?_; refine qn1 hE ?_; clear hE a; intro a hE); all_goals (refine wl hE rfl ?_; refine qsLHM i (i + 1) l.length hE ?_; clear hE; clear a; intro a hE)) | (refine c_regI 2 ?_; all_goals (refine wl hE rfl ?_; refine qm hE ?_; clear hE a; intro a hE); all_goals (refine wl hE rfl ?_; refine qm hE ?_; clear hE a; intro a hE); all_goals (refine wl hE rfl ?_; refine qb hE ?_; clear hE a; intro a hE)) | (refine c_regI 4 ?_; all_goals (refine wl hE rfl ?_; refine qm hE ?_; clear hE a; intro a hE); all_goals (refine wl hE rfl ?_; refine qn1 hE ?_; clear hE a; intro a hE); all_goals (refine wl hE rfl ?_; refine qa hE ?_; clear hE a; intro a hE)) | refine c_seq ?_ | (refine rg_guard 5 ?_; refine rg_start [] hE hS ?_; clear hS; (try clear w); intro w hS hX; all_goals (refine rg_y 0 hE hX (by exact y_move) ?_ rfl rfl rfl rfl; clear hE a; intro a hE); all_goals (refine rg_y 1 hE hX (by exact y_move) ?_ rfl rfl rfl rfl; clear hE a; intro a hE); all_goals (refine rg_y 3 hE hX (by exact y_move) ?_ rfl rfl rfl rfl; clear hE a; intro a hE); all_goals (refine rg_y 4 hE hX (by exact y_move) ?_ rfl rfl rfl rfl; clear hE a; intro a hE); all_goals ((refine rg_e2 2 5 (by kernel_rfl) ?_ ?_) <;> first | (intro K hK; refine rg_op (i := 2) hE rfl rfl ?_; (refine qsh i hE ?_; clear hE a; intro a hE); refine rg_k hK hS ?_; clear hK hX; clear K; intro hX; all_goals (refine rg_e 5 hE rfl rfl (by kernel_rfl) ?_; intro K hK; (refine qsL (i + 1) hE ?_; clear hE a; intro a hE); refine rg_k hK hS ?_; clear hK hX; clear K; intro hX); all_goals (refine rg_e 6 hE rfl rfl (by kernel_rfl) ?_; intro K hK; (refine qapR (A := A) (c := c) (N := l.length - 1) (k := i) (m := l.length - (i + 1)) (xs := (l.flatMap En.cells).take (i * 4)) (news := (l.drop (i + 1)).flatMap En.cells) (ys := (l.eraseIdx i).flatMap En.cells) hE (hS.row_cut (A := A) (n := l.length) (c := c) i c (by omega) (by omega) (by omega)) (by have := (Rd.row (A := A) (n := l.length) (c := c) (xs := l.flatMap En.cells) hS).sub (flat_len elen l) (i + 1) (by omega) hc1; rwa [flat_drop elen l (i + 1) (by omega)] at this) (en_one _) ?_ (hl := by rw [flat_len elen, List.length_drop]) (hY := by rw [flat_take elen l i (by omega)]; exact del_ys l i hi); clear hE hS; clear a; intro a w hE hS); refine rg_k hK hS ?_; clear hK hX; clear K; intro hX); all_goals (refine rg_y 7 hE hX (by exact y_assign) ?_ rfl rfl rfl rfl; clear hE a; intro a hE); all_goals (refine rg_done ?_ (by kernel_rfl); (try clear hX))) | (intro K hK; refine rg_op (i := 5) hE rfl rfl ?_; (refine qsL (i + 1) hE ?_; clear hE a; intro a hE); refine rg_k hK hS ?_; clear hK hX; clear K; intro hX; all_goals (refine rg_e 2 hE rfl rfl (by kernel_rfl) ?_; intro K hK; (refine qsh i hE ?_; clear hE a; intro a hE); refine rg_k hK hS ?_; clear hK hX; clear K; intro hX); all_goals (refine rg_e 6 hE rfl rfl (by kernel_rfl) ?_; intro K hK; (refine qapR (A := A) (c := c) (N := l.length - 1) (k := i) (m := l.length - (i + 1)) (xs := (l.flatMap En.cells).take (i * 4)) (news := (l.drop (i + 1)).flatMap En.cells) (ys := (l.eraseIdx i).flatMap En.cells) hE (hS.row_cut (A := A) (n := l.length) (c := c) i c (by omega) (by omega) (by omega)) (by have := (Rd.row (A := A) (n := l.length) (c := c) (xs := l.flatMap En.cells) hS).sub (flat_len elen l) (i + 1) (by omega) hc1; rwa [flat_drop elen l (i + 1) (by omega)] at this) (en_one _) ?_ (hl := by rw [flat_len elen, List.length_drop]) (hY := by rw [flat_take elen l i (by omega)]; exact del_ys l i hi); clear hE hS; clear a; intro a w hE hS); refine rg_k hK hS ?_; clear hK hX; clear K; intro hX); all_goals (refine rg_y 7 hE hX (by exact y_assign) ?_ rfl rfl rfl rfl; clear hE a; intro a hE); all_goals (refine rg_done ?_ (by kernel_rfl); (try clear hX))))) | ((refine c_cond hE rfl ?_ ?_) <;> (intro hb; (first | replace hb := of_decide_eq_true hb | replace hb := of_decide_eq_false hb | (simp only [Bool.not_eq_true', Bool.not_eq_false', decide_eq_true_eq, decide_eq_false_iff_not] at hb) | skip); try (exfalso; first | omega | exact absurd trivial hb | exact absurd rfl hb | (simp only [beq_self_eq_true, bne_self_eq_false, reduceCtorEq] at hb; done)))))
  all_goals (obtain ⟨ys, hy, hS2⟩ := hS.row_ext (A := A) (n := l.length - 1) (c := c) 1 (by omega) hAne
             have hz := del_len l i hi
             obtain ⟨hS, hE2⟩ : Sep u0 w (row 107 4 (.slice A (l.length - 1 + 1) c) (l.length - 1 + 1) ((l.eraseIdx i).flatMap En.cells ++ ys) :: L) ∧ Env a 33 [(0, .slice A (l.length - 1) c), (7, .int .i64 l.length)] := ⟨hS2, hE.cut ⟨rfl, rfl, trivial⟩⟩
             replace hE := hE2
             clear hS2 hE2)
  all_goals repeat' (first | refine wl_nil ?_ | refine then_n ?_ | refine c_ret ?_ | (refine c_regI 6 ?_; all_goals (refine wl hE rfl ?_; refine qm hE ?_; clear hE a; intro a hE); all_goals (refine wl hE rfl ?_; refine qm hE ?_; clear hE a; intro a hE); all_goals (refine wl hE rfl ?_; refine qn1 hE ?_; clear hE a; intro a hE); all_goals (refine wl hE rfl ?_; refine qm hE ?_; clear hE a; intro a hE); all_goals (refine wl hE rfl ?_; refine qsLH (l.length - 1) l.length hE ?_; clear hE a; intro a hE); all_goals (refine wl hE rfl ?_; refine qclr (sz := 4) (c := c) (dc := c - (l.length - 1)) (dl := l.length - (l.length - 1)) (zs := [.int .u64 0, .int .u64 0, .int .i64 0, .bool false]) (l.length - 1) 1 (A := A) (N := l.length - 1 + 1) (xs := (l.eraseIdx i).flatMap En.cells ++ ys) hE hS ?_ (by decide) (by omega) (by omega) (by omega) rfl; clear hS; intro w hS)) | (refine c_regI 7 ?_; all_goals (refine wl hE rfl ?_; refine qm hE ?_; clear hE a; intro a hE); all_goals (refine wl hE rfl ?_; refine qa hE ?_; clear hE a; intro a hE)) | refine c_seq ?_)
  all_goals (have h3 := hS.row_cut (A := A) (n := l.length - 1 + 1) (c := c) (l.length - 1) c (by omega) (by omega) (by omega)
             refine p_ret hE rfl rfl ⟨_, rfl, rfl, ?_⟩
             have e : (putL ((l.eraseIdx i).flatMap En.cells ++ ys) ((l.length - 1) * 4) (List.replicate 1 [Value.int .u64 0, .int .u64 0, .int .i64 0, .bool false]).flatten).take ((l.length - 1) * 4) = (l.eraseIdx i).flatMap En.cells := by
               have h1 : ((l.eraseIdx i).flatMap En.cells).length = (l.length - 1) * 4 := by rw [flat_len elen, hz]
               unfold putL
               rw [List.append_assoc, List.take_append_of_le_length (by rw [List.length_take, List.length_append, h1]; omega), List.take_take, Nat.min_self, List.take_append_of_le_length (by omega), ← h1, List.take_length]
             rw [e] at h3
             exact h3.fit)
end Go.Proofs.Ytdgpjkddpbiieaa
/- DERIVED. Layer 10: room for one more. No condition. -/
namespace Go.Proofs.Ytdgpjkddpbiieaa
open Go.RowKit Go.Sx Go.Proofs.YtdgpjkddpbiieaaTy
set_option linter.unusedVariables false
set_option linter.unusedSimpArgs false
set_option maxRecDepth 100000
attribute [local irreducible] Oper.wp Code.wp wpList wpAnyH Calls bodyPost Exit.then Exit.inBlock Code.rounds
set_option maxHeartbeats 1000000
/-- Which of the first i entries, that are not fixed, is the oldest one (-1: there is none). -/
def oldestTo (l : List En) : Nat → Int
  | 0 => -1
  | i + 1 => if (!(l.getD i E0).f && (decide (oldestTo l i < 0) || decide ((l.getD i E0).t < (l.getD (oldestTo l i).toNat E0).t))) = true then (i : Int) else oldestTo l i
theorem oldestTo_rng (l : List En) : ∀ i : Nat, -1 ≤ oldestTo l i ∧ oldestTo l i < i
  | 0 => by simp [oldestTo]
  | i + 1 => by
    have := oldestTo_rng l i
    simp only [oldestTo]
    split <;> omega
/-- What is left when there is to be room for one more; none: all are fixed. -/
def spareE (room : Int) (l : List En) : Option (List En) := if (l.length : Int) < room then some l else if oldestTo l l.length < 0 then none else some (l.eraseIdx (oldestTo l l.length).toNat)
theorem delete_j (A : Option Addr) (c : Nat) (l : List En) (i : Int) (u0 w0 : World) (L : List Asn) (h0 : 0 ≤ i) (hi : i < l.length) (hl : l.length ≤ 1073741822)
    (hS0 : Sep u0 w0 (row 107 4 (.slice A l.length c) l.length (l.flatMap En.cells) :: L)) :
    Calls Try.prog 85 #[.slice A l.length c, .int .i64 i, .int .i64 (i + 1)] w0 fun e w' => ∃ r, e = .returned r ∧ r = .slice A (l.length - 1) c ∧ Sep u0 w' (row 107 4 (.slice A (l.length - 1) c) (l.length - 1) ((l.eraseIdx i.toNat).flatMap En.cells) :: L) := by
  have := delete_s A c l i.toNat u0 w0 L (by omega) hl hS0
  rw [Int.toNat_of_nonneg h0] at this
  exact this
theorem makeRoom_s (g : Nat) (l : List En) (room life : Int) (u0 w0 : World) (L : List Asn) (hS0 : Sep u0 w0 (Ag g l room life :: L)) (hl : l.length ≤ 1073741822) : Calls Try.prog 73 #[.pointer (some ⟨g, 0, none⟩)] w0 fun e w' => ∃ r, e = .returned r ∧ r = .bool (spareE room l).isSome ∧ Sep u0 w' (Ag g ((spareE room l).getD l) room life :: L) := by
  refine enter (args := [.pointer (some ⟨g, 0, none⟩)]) 66 Try.func73 rfl rfl rfl ?_
  intro a hE _
  obtain ⟨A, c, hS⟩ := Ag.out hS0
  clear hS0
  obtain ⟨hc1, hc2, _⟩ := hS.drop.row_cap
  have hA : (0 : Int) < l.length → A = some (adr A) := fun h => (Rd.row (A := A) (n := l.length) (c := c) (xs := l.flatMap En.cells) hS).some (by rw [flat_len elen]; omega)
  obtain ⟨g0, hg0⟩ : ∃ g0, g0 = g := ⟨_, rfl⟩
  rw [← hg0] at hE hS
  revert hE
  revert hS
  generalize w0 = w
  intro hS hE
  repeat' (first | refine wl_nil ?_ | refine then_n ?_ | refine c_block ?_ | refine c_skip ?_ | refine c_ret ?_ | refine then_r ?_ | (refine c_regI 0 ?_; all_goals (refine wl hE rfl ?_; refine qa hE ?_; clear hE a; intro a hE)) | (refine c_regI 2 ?_; all_goals (refine wl hE rfl ?_; refine qa hE ?_; clear hE a; intro a hE)) | (refine c_regI 3 ?_; all_goals (refine wl hE rfl ?_; refine qa hE ?_; clear hE a; intro a hE)) | (refine c_regI 4 ?_; all_goals (refine wl hE rfl ?_; refine qm hE ?_; clear hE a; intro a hE); all_goals (refine wl hE rfl ?_; refine qn hE ?_; clear hE a; intro a hE); all_goals (refine wl hE rfl ?_; refine qf hE ?_; clear hE a; intro a hE); all_goals (refine wl hE rfl ?_; refine qf hE ?_; clear hE a; intro a hE); all_goals (refine wl hE rfl ?_; refine ql hE hS ?_; clear hE a; intro a hE); all_goals (refine wl hE rfl ?_; refine qn1 hE ?_; clear hE a; intro a hE); all_goals (refine wl hE rfl ?_; refine qm hE ?_; clear hE a; intro a hE)) | refine c_seq ?_ | (refine rg_guard 1 ?_; refine rg_start [0] hE hS ?_; clear hS; (try clear w); intro w hS hX; all_goals (refine rg_y 0 hE hX (by exact y_move) ?_ rfl rfl rfl rfl; clear hE a; intro a hE); all_goals (refine rg_y 1 hE hX (by exact y_nil) ?_ rfl rfl rfl rfl; clear hE a; intro a hE); all_goals (refine rg_y 2 hE hX (by exact y_field) ?_ rfl rfl rfl rfl; clear hE a; intro a hE); all_goals (refine rg_y 3 hE hX (by exact y_field) ?_ rfl rfl rfl rfl; clear hE a; intro a hE); all_goals (refine rg_y 4 hE hX (by exact y_load) ?_ rfl rfl rfl rfl; clear hE a; intro a hE); all_goals (refine rg_y 5 hE hX (by exact y_len) ?_ rfl rfl rfl rfl; clear hE a; intro a hE); all_goals (refine rg_y 6 hE hX (by exact y_move) ?_ rfl rfl rfl rfl; clear hE a; intro a hE); all_goals (refine rg_y 7 hE hX (by exact y_nil) ?_ rfl rfl rfl rfl; clear hE a; intro a hE); all_goals (refine rg_y 8 hE hX (by exact y_field) ?_ rfl rfl rfl rfl; clear hE a; intro a hE); all_goals (refine rg_y 9 hE hX (by exact y_load) ?_ rfl rfl rfl rfl; clear hE a; intro a hE); all_goals (refine rg_y 10 hE hX (by exact y_bin) ?_ rfl rfl rfl rfl; clear hE a; intro a hE); all_goals (refine rg_done ?_ (by kernel_rfl); (try clear hX))) | ((refine c_cond hE rfl ?_ ?_) <;> (intro hb; (first | replace hb := of_decide_eq_true hb | replace hb := of_decide_eq_false hb | (simp only [Bool.not_eq_true', Bool.not_eq_false', decide_eq_true_eq, decide_eq_false_iff_not] at hb) | skip); try (exfalso; first | omega | exact absurd trivial hb | exact absurd rfl hb | (simp only [beq_self_eq_true, bne_self_eq_false, reduceCtorEq] at hb; done)))))
  · subst hg0
    have e : spareE room l = some l := by unfold spareE; rw [if_pos hb]
    rw [e]
    exact p_ret hE rfl rfl ⟨_, rfl, rfl, Ag.in_ hS.fit⟩
  refine c_loopN (fun m a w => ∃ i : Int, 0 ≤ i ∧ i ≤ l.length ∧ m = (l.length - i).toNat ∧ Env a 66 [(0, .pointer (some ⟨g0, 0, none⟩)), (3, .int .i64 (oldestTo l i.toNat)), (21, .slice A l.length c), (22, .int .i64 l.length), (23, .int .i64 i)] ∧ Sep u0 w (blk g0 [.slice A l.length c, .func (.func 66) #[] #[], .int .i64 room, .int .i64 life] 136 :: row 107 4 (.slice A l.length c) l.length (l.flatMap En.cells) :: L)) _ ⟨0, by omega, by omega, rfl, hE.cut ⟨rfl, rfl, rfl, rfl, rfl, trivial⟩, hS⟩ ?_
  clear hE hS a
  clear w
  rintro m a w ⟨i, h0, h1, rfl, hE, hS⟩
  obtain ⟨fi, hfi⟩ : ∃ fi, fi = oldestTo l i.toNat := ⟨_, rfl⟩
  have hrg := oldestTo_rng l i.toNat
  rw [← hfi] at hrg hE
  obtain ⟨x, hx⟩ : ∃ x, l.getD i.toNat E0 = x := ⟨_, rfl⟩
  obtain ⟨y, hy⟩ : ∃ y, l.getD fi.toNat E0 = y := ⟨_, rfl⟩
  repeat' (first | refine wl_nil ?_ | refine then_n ?_ | refine c_block ?_ | refine c_skip ?_ | refine c_exit ?_ | refine c_ret ?_ | refine then_r ?_ | refine then_e ?_ | refine inb_n ?_ | refine inb_e ?_ | (refine c_midr (id := 7) (I := fun a w => Env a 66 [(0, .pointer (some ⟨g0, 0, none⟩)), (3, .int .i64 fi), (4, .int .i64 i), (21, .slice A l.length c), (22, .int .i64 l.length), (23, .int .i64 i), (48, .bool (!x.f && (or (decide (fi < 0)) (decide (x.t < y.t)))))] ∧ Sep u0 w (blk g0 [.slice A l.length c, .func (.func 66) #[] #[], .int .i64 room, .int .i64 life] 136 :: row 107 4 (.slice A l.length c) l.length (l.flatMap En.cells) :: L)) ?_ ?_; rotate_left; clear hE hS; clear a w; rintro a w ⟨hE, hS⟩; skip) | (refine c_regI 5 ?_; all_goals (refine wl hE rfl ?_; refine qb hE ?_; clear hE a; intro a hE)) | (refine c_regI 6 ?_; all_goals (refine wl hE rfl ?_; refine qm hE ?_; clear hE a; intro a hE); all_goals (refine wl hE rfl ?_; refine qi hE hA ?_; clear hE a; intro a hE); all_goals (refine wl hE rfl ?_; refine qlR (i := i) (us := x.cells) (df := E0) hE hS elen (by rw [hx]) ?_; clear hE a; intro a hE); all_goals (refine wl hE rfl ?_; refine qal hE hS ?_; clear hE hS; clear a; intro g a w hE hS); all_goals (refine wl hE rfl ?_; refine qa hE ?_; clear hE a; intro a hE); all_goals (refine wl hE rfl ?_; refine qst0 hE hS ?_; clear hS; intro w hS)) | (refine c_regI 8 ?_; all_goals (refine wl hE rfl ?_; refine qm hE ?_; clear hE a; intro a hE); all_goals (refine wl hE rfl ?_; refine qa hE ?_; clear hE a; intro a hE)) | (refine c_regI 9 ?_; all_goals (refine wl hE rfl ?_; refine qb hE ?_; clear hE a; intro a hE); all_goals (refine wl hE rfl ?_; refine qm hE ?_; clear hE a; intro a hE)) | (refine c_regI 10 ?_; all_goals (refine wl hE rfl ?_; refine qm hE ?_; clear hE a; intro a hE); all_goals (refine wl hE rfl ?_; refine qb hE ?_; clear hE a; intro a hE)) | (refine c_regI 11 ?_; all_goals (refine wl hE rfl ?_; refine qa hE ?_; clear hE a; intro a hE)) | refine c_seq ?_ | ((refine c_cond hE rfl ?_ ?_) <;> (intro hb; (first | replace hb := of_decide_eq_true hb | replace hb := of_decide_eq_false hb | (simp only [Bool.not_eq_true', Bool.not_eq_false', decide_eq_true_eq, decide_eq_false_iff_not] at hb) | skip); try (exfalso; first | omega | exact absurd trivial hb | exact absurd rfl hb | (simp only [beq_self_eq_true, bne_self_eq_false, reduceCtorEq] at hb; done)))))
  rotate_left
  rotate_left
  · skip
    repeat' (first | refine then_n ?_ | (refine rg_guard 7 ?_; refine rg_start [5, 0] hE hS ?_; clear hS; (try clear w); intro w hS hX; all_goals (refine rg_y 0 hE hX (by exact y_field) ?_ rfl rfl rfl rfl; clear hE a; intro a hE); all_goals (refine rg_y 1 hE hX (by exact y_load) ?_ rfl rfl rfl rfl; clear hE a; intro a hE); all_goals (refine rg_y 2 hE hX (by exact y_not) ?_ rfl rfl rfl rfl; clear hE a; intro a hE); all_goals (refine rg_y 3 hE hX (by exact y_move) ?_ rfl rfl rfl rfl; clear hE a; intro a hE); all_goals ((refine rg_split hE 31 rfl ?_ ?_) <;> (clear hE; intro hb hE; (first | replace hb := of_decide_eq_true hb | replace hb := of_decide_eq_false hb | (simp only [Bool.not_eq_true', Bool.not_eq_false', decide_eq_true_eq, decide_eq_false_iff_not] at hb) | skip); try (exfalso; first | omega | exact absurd trivial hb | exact absurd rfl hb | (simp only [beq_self_eq_true, bne_self_eq_false, reduceCtorEq] at hb; done))) <;> (first | (refine rg_y 4 hE hX (by exact y_move) ?_ rfl rfl rfl rfl; clear hE a; intro a hE) | (refine rg_n 4 hE hX ?_ rfl rfl rfl rfl; clear hE a; intro a hE))); all_goals (first | (refine rg_y 5 hE hX (by exact y_bin) ?_ rfl rfl rfl rfl; clear hE a; intro a hE) | (refine rg_n 5 hE hX ?_ rfl rfl rfl rfl; clear hE a; intro a hE)); all_goals (first | (refine rg_y 6 hE hX (by exact y_move) ?_ rfl rfl rfl rfl; clear hE a; intro a hE) | (refine rg_n 6 hE hX ?_ rfl rfl rfl rfl; clear hE a; intro a hE)); all_goals (first | (refine rg_n 7 hE hX ?_ rfl rfl rfl rfl; clear hE a; intro a hE) | ((refine rg_split hE 34 rfl ?_ ?_) <;> (clear hE; intro hb hE; (first | replace hb := of_decide_eq_true hb | replace hb := of_decide_eq_false hb | (simp only [Bool.not_eq_true', Bool.not_eq_false', decide_eq_true_eq, decide_eq_false_iff_not] at hb) | skip); try (exfalso; first | omega | exact absurd trivial hb | exact absurd rfl hb | (simp only [beq_self_eq_true, bne_self_eq_false, reduceCtorEq] at hb; done))) <;> (first | (refine rg_y 7 hE hX (by exact y_field) ?_ rfl rfl rfl rfl; clear hE a; intro a hE) | (refine rg_n 7 hE hX ?_ rfl rfl rfl rfl; clear hE a; intro a hE)))); all_goals (first | (refine rg_y 8 hE hX (by exact y_load) ?_ rfl rfl rfl rfl; clear hE a; intro a hE) | (refine rg_n 8 hE hX ?_ rfl rfl rfl rfl; clear hE a; intro a hE)); all_goals (first | (refine rg_y 9 hE hX (by exact y_move) ?_ rfl rfl rfl rfl; clear hE a; intro a hE) | (refine rg_n 9 hE hX ?_ rfl rfl rfl rfl; clear hE a; intro a hE)); all_goals (first | (refine rg_y 10 hE hX (by exact y_nil) ?_ rfl rfl rfl rfl; clear hE a; intro a hE) | (refine rg_n 10 hE hX ?_ rfl rfl rfl rfl; clear hE a; intro a hE)); all_goals (first | (refine rg_y 11 hE hX (by exact y_field) ?_ rfl rfl rfl rfl; clear hE a; intro a hE) | (refine rg_n 11 hE hX ?_ rfl rfl rfl rfl; clear hE a; intro a hE)); all_goals (first | (refine rg_y 12 hE hX (by exact y_field) ?_ rfl rfl rfl rfl; clear hE a; intro a hE) | (refine rg_n 12 hE hX ?_ rfl rfl rfl rfl; clear hE a; intro a hE)); all_goals (first | (refine rg_y 13 hE hX (by exact y_load) ?_ rfl rfl rfl rfl; clear hE a; intro a hE) | (refine rg_n 13 hE hX ?_ rfl rfl rfl rfl; clear hE a; intro a hE)); all_goals (first | (refine rg_y 14 hE hX (by exact y_move) ?_ rfl rfl rfl rfl; clear hE a; intro a hE) | (refine rg_n 14 hE hX ?_ rfl rfl rfl rfl; clear hE a; intro a hE)); all_goals (first | (refine rg_y 15 hE hX (by exact y_index hA) ?_ rfl rfl rfl rfl; clear hE a; intro a hE) | (refine rg_n 15 hE hX ?_ rfl rfl rfl rfl; clear hE a; intro a hE)); all_goals (first | (refine rg_y 16 hE hX (by exact y_fieldFF) ?_ rfl rfl rfl rfl; clear hE a; intro a hE) | (refine rg_n 16 hE hX ?_ rfl rfl rfl rfl; clear hE a; intro a hE)); all_goals (first | (refine rg_e 17 hE rfl rfl (by kernel_rfl) ?_; intro K hK; (refine qlP (i := fi) (df := E0) 2 hE hS elen (by rw [hy]; rfl) ?_; clear hE a; intro a hE); refine rg_k hK hS ?_; clear hK hX; clear K; intro hX) | (refine rg_es 17 hE hX rfl rfl rfl rfl (by kernel_rfl) ?_; clear hE a; intro a hE)); all_goals (first | (refine rg_y 18 hE hX (by exact y_bin) ?_ rfl rfl rfl rfl; clear hE a; intro a hE) | (refine rg_n 18 hE hX ?_ rfl rfl rfl rfl; clear hE a; intro a hE)); all_goals (first | (refine rg_y 19 hE hX (by first | exact y_pick_t | exact y_pick_f) ?_ rfl rfl rfl rfl; clear hE a; intro a hE) | (refine rg_n 19 hE hX ?_ rfl rfl rfl rfl; clear hE a; intro a hE)); all_goals (refine rg_y 20 hE hX (by first | exact y_pick_t | exact y_pick_f) ?_ rfl rfl rfl rfl; clear hE a; intro a hE); all_goals (refine rg_done ?_ (by kernel_rfl); (try clear hX))))
    all_goals refine ⟨hE.cut ⟨rfl, rfl, rfl, rfl, rfl, rfl, (Eq.trans (b := some (Value.bool _)) rfl (congrArg (fun b => some (Value.bool b)) ?_)), trivial⟩, hS.fit⟩
    all_goals clear hE hS hfi hx hy hrg
    all_goals simp [*]
  · subst hg0
    have ei : i.toNat = l.length := by omega
    have e : spareE room l = none := by
      unfold spareE
      rw [if_neg (by omega), ← ei, ← hfi, if_pos hb]
    rw [e]
    exact p_ret hE rfl rfl ⟨_, rfl, rfl, Ag.in_ hS.fit⟩
  · have ei : i.toNat = l.length := by omega
    have hfi2 : fi.toNat < l.length := by omega
    have hz := del_len l fi.toNat hfi2
    repeat' (first | refine wl_nil ?_ | refine then_n ?_ | refine c_ret ?_ | (refine c_regI 12 ?_; all_goals (refine wl hE rfl ?_; refine qm hE ?_; clear hE a; intro a hE); all_goals (refine wl hE rfl ?_; refine qm hE ?_; clear hE a; intro a hE); all_goals (refine wl hE rfl ?_; refine qn hE ?_; clear hE a; intro a hE); all_goals (refine wl hE rfl ?_; refine qf hE ?_; clear hE a; intro a hE); all_goals (refine wl hE rfl ?_; refine qf hE ?_; clear hE a; intro a hE); all_goals (refine wl hE rfl ?_; refine ql hE hS ?_; clear hE a; intro a hE); all_goals (refine wl hE rfl ?_; refine qm hE ?_; clear hE a; intro a hE); all_goals (refine wl hE rfl ?_; refine qm hE ?_; clear hE a; intro a hE); all_goals (refine wl hE rfl ?_; refine qb hE ?_; clear hE a; intro a hE); all_goals (refine wl hE rfl ?_; refine is_call 85 rfl ?_; refine qc hE (delete_j A c l fi u0 _ _ (by omega) (by omega) hl hS.fit) ?_; clear hE hS; clear a; rintro _ a w ⟨rfl, hS⟩ hE); all_goals (refine wl hE rfl ?_; refine qn hE ?_; clear hE a; intro a hE); all_goals (refine wl hE rfl ?_; refine qf hE ?_; clear hE a; intro a hE); all_goals (refine wl hE rfl ?_; refine qf hE ?_; clear hE a; intro a hE); all_goals (refine wl hE rfl ?_; refine qst hE hS ?_; clear hS; intro w hS)) | (refine c_regI 13 ?_; all_goals (refine wl hE rfl ?_; refine qa hE ?_; clear hE a; intro a hE)) | refine c_seq ?_)
    all_goals subst hg0
    have e : spareE room l = some (l.eraseIdx fi.toNat) := by
      unfold spareE
      rw [if_neg (by omega), ← ei, ← hfi, if_neg hb]
    rw [e]
    refine p_ret hE rfl rfl ⟨_, rfl, rfl, Ag.in_ (A := A) (c := c) ?_⟩
    simp only [Option.getD_some]
    rw [hz]
    exact hS.fit
  · refine ⟨_, ?_, i + 1, by omega, by omega, rfl, ?_, hS.fit⟩
    · omega
    have e : oldestTo l (i + 1).toNat = i := by
      have e1 : (i + 1).toNat = i.toNat + 1 := by omega
      rw [e1, oldestTo, ← hfi, hx, hy, if_pos hb]
      omega
    rw [e]
    exact hE.cut ⟨rfl, rfl, rfl, rfl, rfl, trivial⟩
  · refine ⟨_, ?_, i + 1, by omega, by omega, rfl, ?_, hS.fit⟩
    · omega
    have e : oldestTo l (i + 1).toNat = fi := by
      have e1 : (i + 1).toNat = i.toNat + 1 := by omega
      rw [e1, oldestTo, ← hfi, hx, hy, if_neg (by rw [hb]; decide)]
    rw [e]
    exact hE.cut ⟨rfl, rfl, rfl, rfl, rfl, trivial⟩
end Go.Proofs.Ytdgpjkddpbiieaa
/- DERIVED. Layer 10: a table as a list by rising keys. No condition. -/
namespace Go.Proofs.Ytdgpjkddpbiieaa
open Go.RowKit Go.Sx Go.Proofs.YtdgpjkddpbiieaaTy
set_option linter.unusedVariables false
set_option linter.unusedSimpArgs false
def getE (l : List En) (k : Int) : Option En := l.find? fun x => decide (x.k = k)
def putE (l : List En) (x : En) : List En := (l.filter fun y => decide (y.k < x.k)) ++ x :: l.filter fun y => decide (x.k < y.k)
theorem getE_mem {l : List En} (h : Rising l) {x : En} (hx : x ∈ l) : getE l x.k = some x := by
  induction l with
  | nil => simp at hx
  | cons a l ih =>
    rw [Rising, List.pairwise_cons] at h
    rcases List.mem_cons.1 hx with rfl | hx
    · simp [getE]
    · have := h.1 x hx
      have hne : ¬ a.k = x.k := by omega
      simp only [getE, List.find?_cons, hne, decide_false]
      exact ih h.2 hx
theorem getE_some {l : List En} {k : Int} {x : En} (h : getE l k = some x) : x ∈ l ∧ x.k = k := ⟨List.mem_of_find?_eq_some h, by simpa using List.find?_some h⟩
theorem find_getE {l : List En} (h : Rising l) {k i : Int} (hi : At1 l k i) : (getE l k = none ∧ ¬ (i < l.length ∧ (l.getD i.toNat E0).k = k)) ∨ (getE l k = some (l.getD i.toNat E0) ∧ i < l.length ∧ (l.getD i.toNat E0).k = k) := by
  obtain ⟨h0, h1, h2, h3⟩ := hi
  by_cases hc : i < l.length ∧ (l.getD i.toNat E0).k = k
  · right
    refine ⟨?_, hc⟩
    have := getE_mem h (x := l.getD i.toNat E0) (getD_memE (by omega))
    rwa [hc.2] at this
  · left
    refine ⟨?_, hc⟩
    cases hg : getE l k with
    | none => rfl
    | some x =>
      exfalso
      obtain ⟨hm, hk⟩ := getE_some hg
      obtain ⟨j, hj, rfl⟩ := List.getElem_of_mem hm
      have e : l.getD j E0 = l[j] := by simp [hj]
      by_cases hji : (j : Int) < i
      · have := h2 j hji
        rw [e] at this
        omega
      · have hi' : i < l.length := by omega
        have h4 := h3 i.toNat (by omega) (by omega)
        by_cases hji2 : (j : Int) = i
        · apply hc
          refine ⟨hi', ?_⟩
          have : i.toNat = j := by omega
          rw [this, e, hk]
        · have h5 := h.lt (i := i.toNat) (j := j) (by omega) hj
          rw [e] at h5
          omega
theorem take_lt {l : List En} {k i : Int} (hi : At1 l k i) : ∀ y ∈ l.take i.toNat, y.k < k := by
  intro y hy
  obtain ⟨j, hj, rfl⟩ := List.getElem_of_mem hy
  rw [List.length_take] at hj
  have := hi.2.2.1 j (by have := hi.1; omega)
  rw [List.getElem_take]
  have e : l.getD j E0 = l[j] := by simp [show j < l.length by omega]
  rwa [e] at this
theorem drop_ge {l : List En} {k i : Int} (hi : At1 l k i) : ∀ y ∈ l.drop i.toNat, k ≤ y.k := by
  intro y hy
  obtain ⟨j, hj, rfl⟩ := List.getElem_of_mem hy
  rw [List.length_drop] at hj
  have := hi.2.2.2 (i.toNat + j) (by have := hi.1; omega) (by omega)
  rw [List.getElem_drop]
  have e : l.getD (i.toNat + j) E0 = l[i.toNat + j] := by simp [show i.toNat + j < l.length by omega]
  rwa [e] at this
theorem putAt_putE {l : List En} (h : Rising l) {x : En} {i : Int} (hi : At1 l x.k i) : putAt l i x = putE l x := by
  have ht := take_lt hi
  have hd := drop_ge hi
  have hsplit : l = l.take i.toNat ++ l.drop i.toNat := (List.take_append_drop _ _).symm
  have f1 : (l.take i.toNat).filter (fun y => decide (y.k < x.k)) = l.take i.toNat := List.filter_eq_self.2 (fun y hy => decide_eq_true (ht y hy))
  have f2 : (l.take i.toNat).filter (fun y => decide (x.k < y.k)) = [] := List.filter_eq_nil_iff.2 (fun y hy => by have := ht y hy; simp; omega)
  have f3 : (l.drop i.toNat).filter (fun y => decide (y.k < x.k)) = [] := List.filter_eq_nil_iff.2 (fun y hy => by have := hd y hy; simp; omega)
  have e1 : l.filter (fun y => decide (y.k < x.k)) = l.take i.toNat := by
    conv => lhs; rw [hsplit]
    rw [List.filter_append, f1, f3, List.append_nil]
  have e2 : l.filter (fun y => decide (x.k < y.k)) = (l.drop i.toNat).filter (fun y => decide (x.k < y.k)) := by
    conv => lhs; rw [hsplit]
    rw [List.filter_append, f2, List.nil_append]
  unfold putE
  rw [e1, e2]
  unfold putAt
  split
  case isTrue hc =>
    have hlt : i.toNat < l.length := by have := hi.1; omega
    rw [List.drop_eq_getElem_cons hlt]
    have e : l.getD i.toNat E0 = l[i.toNat] := by simp [hlt]
    rw [e] at hc
    rw [List.filter_cons_of_neg (by rw [hc.2]; simp)]
    have f5 : (l.drop (i.toNat + 1)).filter (fun y => decide (x.k < y.k)) = l.drop (i.toNat + 1) := List.filter_eq_self.2 (fun y hy => by
      obtain ⟨j, hj, rfl⟩ := List.getElem_of_mem hy
      rw [List.length_drop] at hj
      rw [List.getElem_drop]
      have := h.lt (i := i.toNat) (j := i.toNat + 1 + j) (by omega) (by omega)
      have e3 : l.getD (i.toNat + 1 + j) E0 = l[i.toNat + 1 + j] := by simp [show i.toNat + 1 + j < l.length by omega]
      rw [e, e3] at this
      exact decide_eq_true (by omega))
    rw [f5, List.set_eq_take_append_cons_drop, if_pos hlt]
  case isFalse hc =>
    have f5 : (l.drop i.toNat).filter (fun y => decide (x.k < y.k)) = l.drop i.toNat := List.filter_eq_self.2 (fun y hy => by
      have h1 := hd y hy
      apply decide_eq_true
      rcases Int.lt_or_eq_of_le h1 with h1 | h1
      · exact h1
      · exfalso
        obtain ⟨j, hj, rfl⟩ := List.getElem_of_mem hy
        rw [List.length_drop] at hj
        rw [List.getElem_drop] at h1
        have hlt : i.toNat < l.length := by omega
        have h6 := hd (l[i.toNat]) (by rw [List.drop_eq_getElem_cons hlt]; exact List.mem_cons_self)
        have e : l.getD i.toNat E0 = l[i.toNat] := by simp [hlt]
        rw [e] at hc
        by_cases hj0 : j = 0
        · subst hj0
          exact hc ⟨by have := hi.1; omega, by simpa using h1.symm⟩
        · have := h.lt (i := i.toNat) (j := i.toNat + j) (by omega) (by omega)
          have e3 : l.getD (i.toNat + j) E0 = l[i.toNat + j] := by simp [show i.toNat + j < l.length by omega]
          rw [e, e3] at this
          omega)
    rw [f5]
    simp [insAt]
/-- What stays true of a table's list. -/
structure Inv (room : Int) (l : List En) : Prop where
  up : Rising l
  times : Times l
  len : l.length ≤ room
theorem filter_inv {room : Int} {l : List En} (h : Inv room l) (p : En → Bool) : Inv room (l.filter p) :=
  ⟨h.up.filter p, fun x hx => h.times x (List.mem_filter.1 hx).1, by have := List.length_filter_le p l; have := h.len; omega⟩
theorem erase_inv {room : Int} {l : List En} (h : Inv room l) (i : Nat) : Inv room (l.eraseIdx i) :=
  ⟨List.Pairwise.sublist (List.eraseIdx_sublist l i) h.up, fun x hx => h.times x (List.mem_of_mem_eraseIdx hx), by have := (List.eraseIdx_sublist l i).length_le; have := h.len; omega⟩
theorem spare_inv {room : Int} {l l2 : List En} (hr : 1 ≤ room) (h : Inv room l) (hs : spareE room l = some l2) : Inv room l2 ∧ (l2.length : Int) < room ∧ ∀ x ∈ l2, x ∈ l := by
  unfold spareE at hs
  split at hs
  · cases hs; exact ⟨h, by assumption, fun x hx => hx⟩
  · split at hs
    · cases hs
    · have hs := Option.some.inj hs
      subst hs
      rename_i h1 h2
      have h3 := (oldestTo_rng l l.length).2
      have h4 := List.length_eraseIdx_of_lt (l := l) (i := (oldestTo l l.length).toNat) (by omega)
      have h5 := h.len
      exact ⟨erase_inv h _, by omega, fun x hx => List.mem_of_mem_eraseIdx hx⟩
theorem put_len {l : List En} (h : Rising l) (x : En) : (putE l x).length + (getE l x.k).toList.length = l.length + 1 := by
  induction l with
  | nil => simp [putE, getE]
  | cons a l ih =>
    rw [Rising, List.pairwise_cons] at h
    have ih := ih h.2
    simp only [putE, List.length_append, List.length_cons] at ih ⊢
    by_cases h1 : a.k < x.k
    · have h2 : ¬ x.k < a.k := by omega
      have h3 : ¬ a.k = x.k := by omega
      have g : getE (a :: l) x.k = getE l x.k := by simp [getE, h3]
      rw [List.filter_cons_of_pos (by simpa using h1), List.filter_cons_of_neg (by simpa using h2), g, List.length_cons]
      omega
    · by_cases h3 : a.k = x.k
      · have h2 : ¬ x.k < a.k := by omega
        have h4 : getE l x.k = none := List.find?_eq_none.2 (fun y hy => by have := h.1 y hy; simp; omega)
        have g : getE (a :: l) x.k = some a := by simp [getE, h3]
        rw [h4] at ih
        rw [List.filter_cons_of_neg (by simpa using h1), List.filter_cons_of_neg (by simpa using h2), g]
        simp only [Option.toList_none, Option.toList_some, List.length_nil, List.length_singleton] at ih ⊢
        omega
      · have h2 : x.k < a.k := by omega
        have g : getE (a :: l) x.k = getE l x.k := by simp [getE, h3]
        rw [List.filter_cons_of_neg (by simpa using h1), List.filter_cons_of_pos (by simpa using h2), g, List.length_cons]
        omega
theorem put_rising {l : List En} (h : Rising l) (x : En) : Rising (putE l x) := by
  unfold putE
  rw [Rising, List.pairwise_append, List.pairwise_cons]
  refine ⟨h.filter _, ⟨?_, h.filter _⟩, ?_⟩
  · intro y hy
    exact of_decide_eq_true (List.mem_filter.1 hy).2
  · intro y hy z hz
    have h1 := of_decide_eq_true (List.mem_filter.1 hy).2
    rcases List.mem_cons.1 hz with rfl | hz
    · exact h1
    · have h2 := of_decide_eq_true (List.mem_filter.1 hz).2
      omega
theorem mem_put {l : List En} {x y : En} : y ∈ putE l x ↔ y = x ∨ (y ∈ l ∧ y.k ≠ x.k) := by
  simp only [putE, List.mem_append, List.mem_cons, List.mem_filter, decide_eq_true_eq]
  constructor
  · rintro (⟨h1, h2⟩ | rfl | ⟨h1, h2⟩)
    · exact .inr ⟨h1, by omega⟩
    · exact .inl rfl
    · exact .inr ⟨h1, by omega⟩
  · rintro (rfl | ⟨h1, h2⟩)
    · exact .inr (.inl rfl)
    · by_cases h3 : y.k < x.k
      · exact .inl ⟨h1, h3⟩
      · exact .inr (.inr ⟨h1, by omega⟩)
theorem put_inv {room : Int} {l : List En} (h : Inv room l) {x : En} (ht : 0 ≤ x.t ∧ x.t ≤ 1099511627776) (hr : (getE l x.k).isSome ∨ (l.length : Int) < room) : Inv room (putE l x) := by
  refine ⟨put_rising h.up x, ?_, ?_⟩
  · intro y hy
    rcases mem_put.1 hy with rfl | ⟨h1, _⟩
    · exact ht
    · exact h.times y h1
  · have h1 := put_len h.up x
    have h2 := h.len
    rcases hr with hr | hr
    · obtain ⟨z, hz⟩ := Option.isSome_iff_exists.1 hr
      rw [hz] at h1
      simp at h1
      omega
    · omega
/-- Put; Fix; Get; on the list. -/
def putT (room life : Int) (l : List En) (k v now : Int) : Int × List En :=
  if okT now = true then
    match getE l k with
    | some x => if x.f = true then (100, l) else (0, putE l ⟨k, v, now, false⟩)
    | none => match spareE room (noOld life now l) with
      | some l2 => (0, putE l2 ⟨k, v, now, false⟩)
      | none => (101, noOld life now l)
  else (1, l)
def getT (life : Int) (l : List En) (k now : Int) : En × Bool :=
  match getE l k with
  | some x => if okT now = true ∧ oldE life now x = false then (x, true) else (E0, false)
  | none => (E0, false)
theorem okT_of {now : Int} (h : okT now = true) : 0 ≤ now ∧ now ≤ 1099511627776 := of_decide_eq_true h
theorem putT_inv {room life : Int} {l : List En} (hr : 1 ≤ room) (h : Inv room l) (k v now : Int) : Inv room (putT room life l k v now).2 := by
  unfold putT
  split
  · rename_i hok
    split
    · rename_i x hx
      split
      · exact h
      · exact put_inv h (okT_of hok) (.inl (by rw [hx]; rfl))
    · split
      · rename_i l2 h2
        obtain ⟨h3, h4, _⟩ := spare_inv hr (filter_inv h _) h2
        exact put_inv h3 (okT_of hok) (.inr h4)
      · exact filter_inv h _
  · exact h
end Go.Proofs.Ytdgpjkddpbiieaa
/- DERIVED. Layer 10: Put, Fix, Get. No condition. -/
namespace Go.Proofs.Ytdgpjkddpbiieaa
open Go.RowKit Go.Sx Go.Proofs.YtdgpjkddpbiieaaTy
set_option linter.unusedVariables false
set_option linter.unusedSimpArgs false
set_option maxRecDepth 100000
attribute [local irreducible] Oper.wp Code.wp wpList wpAnyH Calls bodyPost Exit.then Exit.inBlock Code.rounds
set_option maxHeartbeats 1000000
theorem spareD_inv {room : Int} {l : List En} (hr : 1 ≤ room) (h : Inv room l) : Inv room ((spareE room l).getD l) := by
  cases hs : spareE room l with
  | none => exact h
  | some l2 => exact (spare_inv hr h hs).1
theorem find_g (g : Nat) (l : List En) (room life key : Int) (u0 w0 : World) (L : List Asn) (hS0 : Sep u0 w0 (Ag g l room life :: L)) (hl : l.length ≤ 1073741822) (hs : Rising l) :
    Calls Try.prog 67 #[.pointer (some ⟨g, 0, none⟩), .int .u64 key] w0 fun e w' => ∃ r, e = .returned r ∧ (∃ i : Int, r = .tuple #[.int .i64 i, .bool (decide (i < l.length ∧ (l.getD i.toNat E0).k = key))] ∧ At1 l key i) ∧ Sep u0 w' (Ag g l room life :: L) := by
  obtain ⟨A, c, hS⟩ := Ag.out hS0
  refine (find_t A c g l key _ w0 (blk_At hS) (Rd.row (A := A) (n := l.length) (c := c) (xs := l.flatMap En.cells) hS) (by omega) hs).mono ?_
  rintro e w' ⟨r, rfl, h, h1⟩
  exact ⟨r, rfl, h, Ag.in_ ((hS.then h1).fit)⟩
theorem oput_g (g : Nat) (l : List En) (room life : Int) (x : En) (u0 w0 : World) (L : List Asn) (hS0 : Sep u0 w0 (Ag g l room life :: L)) (hl : l.length ≤ 1073741822) (hs : Rising l) : Calls Try.prog 74 #[.pointer (some ⟨g, 0, none⟩), .agg x.cells.toArray] w0 fun e w' => ∃ r, e = .returned r ∧ r = .tuple #[] ∧ Sep u0 w' (Ag g (putE l x) room life :: L) := by
  refine (oput_s g l room life x u0 w0 L hS0 hl hs).mono ?_
  rintro e w' ⟨r, rfl, h, i, hi, h1⟩
  rw [putAt_putE hs hi] at h1
  exact ⟨r, rfl, h, h1⟩
theorem put_s (g : Nat) (l : List En) (room life k v now : Int) (u0 w0 : World) (L : List Asn) (hS0 : Sep u0 w0 (Ag g l room life :: L)) (hr : 1 ≤ room ∧ room ≤ 4096) (hI : Inv room l) : Calls Try.prog 56 #[.pointer (some ⟨g, 0, none⟩), .int .u64 k, .int .u64 v, .int .i64 now] w0 fun e w' => ∃ r, e = .returned r ∧ r = .int .i64 (putT room life l k v now).1 ∧ Sep u0 w' (Ag g (putT room life l k v now).2 room life :: L) := by
  refine enter (args := [.pointer (some ⟨g, 0, none⟩), .int .u64 k, .int .u64 v, .int .i64 now]) 52 Try.func56 rfl rfl rfl ?_
  intro a hE _
  have hl := hI.len
  have hS := hS0
  clear hS0
  obtain ⟨g0, hg0⟩ : ∃ g0, g0 = g := ⟨_, rfl⟩
  rw [← hg0] at hE hS ⊢
  clear hg0
  revert hE
  revert hS
  generalize w0 = w
  intro hS hE
  have hI2 : Inv room (noOld life now l) := filter_inv hI _
  have hJ : Inv room ((spareE room (noOld life now l)).getD (noOld life now l)) := spareD_inv hr.1 hI2
  repeat' (first | refine wl_nil ?_ | refine then_n ?_ | refine c_block ?_ | refine c_skip ?_ | refine c_ret ?_ | refine then_r ?_ | (refine c_regI 0 ?_; all_goals (refine wl hE rfl ?_; refine qa hE ?_; clear hE a; intro a hE)) | (refine c_regI 1 ?_; all_goals (refine wl hE rfl ?_; refine qm hE ?_; clear hE a; intro a hE); all_goals (refine wl hE rfl ?_; refine is_call 68 rfl ?_; refine qc hE (time_s _ _) ?_; clear hE; clear a; rintro _ a w ⟨rfl, hS1⟩ hE; replace hS := hS.then hS1; clear hS1); all_goals (refine wl hE rfl ?_; refine qu hE ?_; clear hE a; intro a hE)) | (refine c_regI 2 ?_; all_goals (refine wl hE rfl ?_; refine qa hE ?_; clear hE a; intro a hE)) | (refine c_regI 3 ?_; all_goals (refine wl hE rfl ?_; refine qm hE ?_; clear hE a; intro a hE); all_goals (refine wl hE rfl ?_; refine qn hE ?_; clear hE a; intro a hE); all_goals (refine wl hE rfl ?_; refine qf hE ?_; clear hE a; intro a hE); all_goals (refine wl hE rfl ?_; refine qm hE ?_; clear hE a; intro a hE); all_goals (refine wl hE rfl ?_; refine is_call 67 rfl ?_; refine qc hE (find_g g0 l room life k u0 _ _ hS.fit (by omega) hI.up) ?_; clear hE hS; clear a; rintro _ a w ⟨⟨i, rfl, hi⟩, hS⟩ hE); all_goals (refine wl hE rfl ?_; refine qm hE ?_; clear hE a; intro a hE); all_goals (refine wl hE rfl ?_; refine qe hE ?_; clear hE a; intro a hE); all_goals (refine wl hE rfl ?_; refine qe hE ?_; clear hE a; intro a hE); all_goals (refine wl hE rfl ?_; refine qa hE ?_; clear hE a; intro a hE); all_goals (refine wl hE rfl ?_; refine qa hE ?_; clear hE a; intro a hE)) | refine c_seq ?_ | ((refine c_cond hE rfl ?_ ?_) <;> (intro hb; (first | replace hb := of_decide_eq_true hb | replace hb := of_decide_eq_false hb | (simp only [Bool.not_eq_true', Bool.not_eq_false', decide_eq_true_eq, decide_eq_false_iff_not] at hb) | skip); try (exfalso; first | omega | exact absurd trivial hb | exact absurd rfl hb | (simp only [beq_self_eq_true, bne_self_eq_false, reduceCtorEq] at hb; done)))))
  · have e : putT room life l k v now = (1, l) := by simp only [putT, hb, if_neg Bool.false_ne_true]
    rw [e]
    exact p_ret hE rfl rfl ⟨_, rfl, rfl, hS.fit⟩
  have hok := hb
  clear hb
  obtain ⟨A, c, hS⟩ := Ag.out hS
  have hA : (0 : Int) < l.length → A = some (adr A) := fun h => (Rd.row (A := A) (n := l.length) (c := c) (xs := l.flatMap En.cells) hS).some (by rw [flat_len elen]; omega)
  obtain ⟨x, hx⟩ : ∃ x, l.getD i.toNat E0 = x := ⟨_, rfl⟩
  obtain ⟨hc1, hc2, _⟩ := hS.drop.row_cap
  have hi0 := hi.1
  repeat' (first | refine wl_nil ?_ | refine then_n ?_ | refine c_skip ?_ | refine c_ret ?_ | refine then_r ?_ | refine inb_n ?_ | refine inb_r ?_ | refine c_cond_f hE rfl ?_ | (refine c_regI 4 ?_; all_goals (refine wl hE rfl ?_; refine qm hE ?_; clear hE a; intro a hE); all_goals (refine wl hE rfl ?_; refine qm hE ?_; clear hE a; intro a hE); all_goals ((refine wl_splitg hE rfl rfl ?_ ?_) <;> (clear hE; intro hb hE; (first | replace hb := of_decide_eq_true hb | replace hb := of_decide_eq_false hb | (simp only [Bool.not_eq_true', Bool.not_eq_false', decide_eq_true_eq, decide_eq_false_iff_not] at hb) | skip); try (exfalso; first | omega | exact absurd trivial hb | exact absurd rfl hb | (simp only [beq_self_eq_true, bne_self_eq_false, reduceCtorEq] at hb; done))) <;> (first | (refine wl hE rfl ?_; refine qm hE ?_; clear hE a; intro a hE) | (refine wl_skip hE rfl rfl rfl ?_; clear hE a; intro a hE))); all_goals (first | (refine wl hE rfl ?_; refine qn hE ?_; clear hE a; intro a hE) | (refine wl_skip hE rfl rfl rfl ?_; clear hE a; intro a hE)); all_goals (first | (refine wl hE rfl ?_; refine qf hE ?_; clear hE a; intro a hE) | (refine wl_skip hE rfl rfl rfl ?_; clear hE a; intro a hE)); all_goals (first | (refine wl hE rfl ?_; refine qf hE ?_; clear hE a; intro a hE) | (refine wl_skip hE rfl rfl rfl ?_; clear hE a; intro a hE)); all_goals (first | (refine wl hE rfl ?_; refine ql hE hS ?_; clear hE a; intro a hE) | (refine wl_skip hE rfl rfl rfl ?_; clear hE a; intro a hE)); all_goals (first | (refine wl hE rfl ?_; refine qm hE ?_; clear hE a; intro a hE) | (refine wl_skip hE rfl rfl rfl ?_; clear hE a; intro a hE)); all_goals (first | (refine wl hE rfl ?_; refine qi hE hA ?_; clear hE a; intro a hE) | (refine wl_skip hE rfl rfl rfl ?_; clear hE a; intro a hE)); all_goals (first | (refine wl hE rfl ?_; refine qFF hE ?_; clear hE a; intro a hE) | (refine wl_skip hE rfl rfl rfl ?_; clear hE a; intro a hE)); all_goals (first | (refine wl hE rfl ?_; refine qlP (i := i) (df := E0) 3 hE hS elen (by rw [hx]; rfl) ?_; clear hE a; intro a hE) | (refine wl_skip hE rfl rfl rfl ?_; clear hE a; intro a hE)); all_goals (refine wl hE rfl ?_; first | (refine qpt hE ?_; clear hE a; intro a hE) | (refine qpf hE ?_; clear hE a; intro a hE)); all_goals (refine wl hE rfl ?_; refine qa hE ?_; clear hE a; intro a hE)) | (refine c_regI 5 ?_; all_goals (refine wl hE rfl ?_; refine qa hE ?_; clear hE a; intro a hE)) | (refine c_regI 6 ?_; all_goals (refine wl hE rfl ?_; refine qm hE ?_; clear hE a; intro a hE); all_goals (refine wl hE rfl ?_; refine qu hE ?_; clear hE a; intro a hE); all_goals (refine wl hE rfl ?_; refine qa hE ?_; clear hE a; intro a hE)) | (refine c_regI 7 ?_; all_goals (refine wl hE rfl ?_; refine qm hE ?_; clear hE a; intro a hE); all_goals (refine wl hE rfl ?_; refine qm hE ?_; clear hE a; intro a hE); all_goals (refine wl hE rfl ?_; refine is_call 72 rfl ?_; refine qc hE (expire_s g0 l room life now u0 _ _ (Ag.in_ (A := A) (c := c) hS.fit) (by omega) hI.times) ?_; clear hE hS; clear a; rintro _ a w ⟨rfl, hS⟩ hE; rw [if_pos hok] at hS)) | (refine c_regI 8 ?_; all_goals (refine wl hE rfl ?_; refine qm hE ?_; clear hE a; intro a hE); all_goals (refine wl hE rfl ?_; refine is_call 73 rfl ?_; refine qc hE (makeRoom_s g0 (noOld life now l) room life u0 _ _ hS.fit (by have := (hI2).len; omega)) ?_; clear hE hS; clear a; rintro _ a w ⟨rfl, hS⟩ hE); all_goals (refine wl hE rfl ?_; refine qu hE ?_; clear hE a; intro a hE)) | (refine c_regI 9 ?_; all_goals (refine wl hE rfl ?_; refine qa hE ?_; clear hE a; intro a hE)) | (refine c_regI 10 ?_; all_goals (refine wl hE rfl ?_; refine qm hE ?_; clear hE a; intro a hE); all_goals (refine wl hE rfl ?_; refine qn hE ?_; clear hE a; intro a hE); all_goals (refine wl hE rfl ?_; refine qf hE ?_; clear hE a; intro a hE); all_goals (refine wl hE rfl ?_; refine qm hE ?_; clear hE a; intro a hE); all_goals (refine wl hE rfl ?_; refine qm hE ?_; clear hE a; intro a hE); all_goals (refine wl hE rfl ?_; refine qm hE ?_; clear hE a; intro a hE); all_goals (refine wl hE rfl ?_; refine qbu hE ?_; clear hE a; intro a hE); all_goals (refine wl hE rfl ?_; first | (refine is_call 74 rfl ?_; refine qc hE (oput_g g0 l room life ⟨k, v, now, false⟩ u0 _ _ (Ag.in_ (A := A) (c := c) hS.fit) (by have := (hI).len; omega) (hI).up) ?_; clear hE hS; clear a; rintro _ a w ⟨rfl, hS⟩ hE) | (refine is_call 74 rfl ?_; refine qc hE (oput_g g0 ((spareE room (noOld life now l)).getD (noOld life now l)) room life ⟨k, v, now, false⟩ u0 _ _ hS.fit (by have := (hJ).len; omega) (hJ).up) ?_; clear hE hS; clear a; rintro _ a w ⟨rfl, hS⟩ hE))) | (refine c_regI 11 ?_; all_goals (refine wl hE rfl ?_; refine qa hE ?_; clear hE a; intro a hE)) | refine c_seq ?_ | ((refine c_cond hE rfl ?_ ?_) <;> (intro hb; (first | replace hb := of_decide_eq_true hb | replace hb := of_decide_eq_false hb | (simp only [Bool.not_eq_true', Bool.not_eq_false', decide_eq_true_eq, decide_eq_false_iff_not] at hb) | skip); try (exfalso; first | omega | exact absurd trivial hb | exact absurd rfl hb | (simp only [beq_self_eq_true, bne_self_eq_false, reduceCtorEq] at hb; done)))))
  all_goals rcases find_getE hI.up hi with ⟨hg, hn⟩ | ⟨hg, hp⟩
  all_goals first | (exfalso; clear hE; omega) | skip
  all_goals try rw [hx] at hg
  · have e : putT room life l k v now = (100, l) := by simp only [putT, hok, if_true, hg, hb]
    rw [e]
    exact p_ret hE rfl rfl ⟨_, rfl, rfl, Ag.in_ (A := A) (c := c) hS.fit⟩
  · have hxf : x.f = false := by assumption
    have e : putT room life l k v now = (0, putE l ⟨k, v, now, false⟩) := by simp only [putT, hok, if_true, hg, hxf, if_neg Bool.false_ne_true]
    rw [e]
    exact p_ret hE rfl rfl ⟨_, rfl, rfl, hS.fit⟩
  · have e1 : spareE room (noOld life now l) = none := by simpa using hb
    have e : putT room life l k v now = (101, noOld life now l) := by simp only [putT, hok, if_true, hg, e1]
    rw [e1] at hS
    rw [e]
    exact p_ret hE rfl rfl ⟨_, rfl, rfl, hS.fit⟩
  · obtain ⟨l2, e1⟩ := Option.isSome_iff_exists.1 hb
    have e : putT room life l k v now = (0, putE l2 ⟨k, v, now, false⟩) := by simp only [putT, hok, if_true, hg, e1]
    rw [e1] at hS
    rw [e]
    exact p_ret hE rfl rfl ⟨_, rfl, rfl, hS.fit⟩
end Go.Proofs.Ytdgpjkddpbiieaa
/- DERIVED. Layer 10: Get, Entries, Copy, New. No condition. -/
namespace Go.Proofs.Ytdgpjkddpbiieaa
open Go.RowKit Go.Sx Go.Proofs.YtdgpjkddpbiieaaTy
set_option linter.unusedVariables false
set_option linter.unusedSimpArgs false
set_option maxRecDepth 100000
attribute [local irreducible] Oper.wp Code.wp wpList wpAnyH Calls bodyPost Exit.then Exit.inBlock Code.rounds
set_option maxHeartbeats 1000000
theorem get_s (g : Nat) (l : List En) (room life k now : Int) (u0 w0 : World) (L : List Asn) (hS0 : Sep u0 w0 (Ag g l room life :: L)) (hr : 1 ≤ room ∧ room ≤ 4096) (hI : Inv room l) : Calls Try.prog 53 #[.pointer (some ⟨g, 0, none⟩), .int .u64 k, .int .i64 now] w0 fun e w' => ∃ r, e = .returned r ∧ r = .tuple #[.agg (getT life l k now).1.cells.toArray, .bool (getT life l k now).2] ∧ Sep u0 w' (Ag g l room life :: L) := by
  refine enter (args := [.pointer (some ⟨g, 0, none⟩), .int .u64 k, .int .i64 now]) 47 Try.func53 rfl rfl rfl ?_
  intro a hE _
  have hl := hI.len
  have hS := hS0
  clear hS0
  obtain ⟨g0, hg0⟩ : ∃ g0, g0 = g := ⟨_, rfl⟩
  rw [← hg0] at hE hS ⊢
  clear hg0
  revert hE
  revert hS
  generalize w0 = w
  intro hS hE
  repeat' (first | refine wl_nil ?_ | refine then_n ?_ | (refine c_regI 0 ?_; all_goals (refine wl hE rfl ?_; refine qal hE hS ?_; clear hE hS; clear a; intro g a w hE hS); all_goals (refine wl hE rfl ?_; refine qa hE ?_; clear hE a; intro a hE)) | (refine c_regI 1 ?_; all_goals (refine wl hE rfl ?_; refine qm hE ?_; clear hE a; intro a hE); all_goals (refine wl hE rfl ?_; refine qn hE ?_; clear hE a; intro a hE); all_goals (refine wl hE rfl ?_; refine qf hE ?_; clear hE a; intro a hE); all_goals (refine wl hE rfl ?_; refine qm hE ?_; clear hE a; intro a hE); all_goals (refine wl hE rfl ?_; refine is_call 67 rfl ?_; refine qc hE (find_g g0 l room life k u0 _ _ hS.fit (by omega) hI.up) ?_; clear hE hS; clear a; rintro _ a w ⟨⟨i, rfl, hi⟩, hS⟩ hE); all_goals (refine wl hE rfl ?_; refine qm hE ?_; clear hE a; intro a hE); all_goals (refine wl hE rfl ?_; refine qe hE ?_; clear hE a; intro a hE); all_goals (refine wl hE rfl ?_; refine qe hE ?_; clear hE a; intro a hE); all_goals (refine wl hE rfl ?_; refine qa hE ?_; clear hE a; intro a hE); all_goals (refine wl hE rfl ?_; refine qa hE ?_; clear hE a; intro a hE)) | refine c_seq ?_)
  obtain ⟨A, c, hS⟩ := Ag.out hS
  have hA : (0 : Int) < l.length → A = some (adr A) := fun h => (Rd.row (A := A) (n := l.length) (c := c) (xs := l.flatMap En.cells) hS).some (by rw [flat_len elen]; omega)
  obtain ⟨x, hx⟩ : ∃ x, l.getD i.toNat E0 = x := ⟨_, rfl⟩
  obtain ⟨hc1, hc2, _⟩ := hS.drop.row_cap
  have hi0 := hi.1
  repeat' (first | refine wl_nil ?_ | refine then_n ?_ | refine c_skip ?_ | refine c_ret ?_ | refine then_r ?_ | refine c_cond_t hE rfl ?_ | (refine c_regI 2 ?_; all_goals (refine wl hE rfl ?_; refine qm hE ?_; clear hE a; intro a hE); all_goals (refine wl hE rfl ?_; refine qu hE ?_; clear hE a; intro a hE); all_goals (refine wl hE rfl ?_; refine qm hE ?_; clear hE a; intro a hE); all_goals ((refine wl_splitg hE rfl rfl ?_ ?_) <;> (clear hE; intro hb hE; (first | replace hb := of_decide_eq_true hb | replace hb := of_decide_eq_false hb | (simp only [Bool.not_eq_true', Bool.not_eq_false', decide_eq_true_eq, decide_eq_false_iff_not] at hb) | skip); try (exfalso; first | omega | exact absurd trivial hb | exact absurd rfl hb | (simp only [beq_self_eq_true, bne_self_eq_false, reduceCtorEq] at hb; done))) <;> (first | (refine wl hE rfl ?_; refine qm hE ?_; clear hE a; intro a hE) | (refine wl_skip hE rfl rfl rfl ?_; clear hE a; intro a hE))); all_goals (first | (refine wl hE rfl ?_; refine is_call 68 rfl ?_; refine qc hE (time_s _ _) ?_; clear hE; clear a; rintro _ a w ⟨rfl, hS1⟩ hE; replace hS := hS.then hS1; clear hS1) | (refine wl_skip hE rfl rfl rfl ?_; clear hE a; intro a hE)); all_goals (first | (refine wl hE rfl ?_; refine qu hE ?_; clear hE a; intro a hE) | (refine wl_skip hE rfl rfl rfl ?_; clear hE a; intro a hE)); all_goals (refine wl hE rfl ?_; first | (refine qpt hE ?_; clear hE a; intro a hE) | (refine qpf hE ?_; clear hE a; intro a hE)); all_goals (refine wl hE rfl ?_; refine qm hE ?_; clear hE a; intro a hE); all_goals (first | (refine wl_skip hE rfl rfl rfl ?_; clear hE a; intro a hE) | ((refine wl_splitg hE rfl rfl ?_ ?_) <;> (clear hE; intro hb hE; (first | replace hb := of_decide_eq_true hb | replace hb := of_decide_eq_false hb | (simp only [Bool.not_eq_true', Bool.not_eq_false', decide_eq_true_eq, decide_eq_false_iff_not] at hb) | skip); try (exfalso; first | omega | exact absurd trivial hb | exact absurd rfl hb | (simp only [beq_self_eq_true, bne_self_eq_false, reduceCtorEq] at hb; done))) <;> (first | (refine wl hE rfl ?_; refine qm hE ?_; clear hE a; intro a hE) | (refine wl_skip hE rfl rfl rfl ?_; clear hE a; intro a hE)))); all_goals (first | (refine wl hE rfl ?_; refine qm hE ?_; clear hE a; intro a hE) | (refine wl_skip hE rfl rfl rfl ?_; clear hE a; intro a hE)); all_goals (first | (refine wl hE rfl ?_; refine qn hE ?_; clear hE a; intro a hE) | (refine wl_skip hE rfl rfl rfl ?_; clear hE a; intro a hE)); all_goals (first | (refine wl hE rfl ?_; refine qf hE ?_; clear hE a; intro a hE) | (refine wl_skip hE rfl rfl rfl ?_; clear hE a; intro a hE)); all_goals (first | (refine wl hE rfl ?_; refine qf hE ?_; clear hE a; intro a hE) | (refine wl_skip hE rfl rfl rfl ?_; clear hE a; intro a hE)); all_goals (first | (refine wl hE rfl ?_; refine ql hE hS ?_; clear hE a; intro a hE) | (refine wl_skip hE rfl rfl rfl ?_; clear hE a; intro a hE)); all_goals (first | (refine wl hE rfl ?_; refine qm hE ?_; clear hE a; intro a hE) | (refine wl_skip hE rfl rfl rfl ?_; clear hE a; intro a hE)); all_goals (first | (refine wl hE rfl ?_; refine qi hE hA ?_; clear hE a; intro a hE) | (refine wl_skip hE rfl rfl rfl ?_; clear hE a; intro a hE)); all_goals (first | (refine wl hE rfl ?_; refine qlR (i := i) (us := x.cells) (df := E0) hE hS elen (by rw [hx]) ?_; clear hE a; intro a hE) | (refine wl_skip hE rfl rfl rfl ?_; clear hE a; intro a hE)); all_goals (first | (refine wl hE rfl ?_; refine qm hE ?_; clear hE a; intro a hE) | (refine wl_skip hE rfl rfl rfl ?_; clear hE a; intro a hE)); all_goals (first | (refine wl hE rfl ?_; refine is_call 69 rfl ?_; refine qc hE (old_s g0 life now x _ (At.tail (At.tail (At.tail (blk_At hS)))) (okT_of (by assumption)) (by rw [← hx]; exact hI.times _ (getD_memE (by omega)))) ?_; clear hE; clear a; rintro _ a w ⟨rfl, hS1⟩ hE; replace hS := hS.then hS1; clear hS1) | (refine wl_skip hE rfl rfl rfl ?_; clear hE a; intro a hE)); all_goals (refine wl hE rfl ?_; first | (refine qpt hE ?_; clear hE a; intro a hE) | (refine qpf hE ?_; clear hE a; intro a hE))) | (refine c_regI 3 ?_; all_goals (refine wl hE rfl ?_; refine qbu hE ?_; clear hE a; intro a hE); all_goals (refine wl hE rfl ?_; refine qst0 hE hS ?_; clear hS; intro w hS); all_goals (refine wl hE rfl ?_; refine qa hE ?_; clear hE a; intro a hE)) | (refine c_regI 4 ?_; all_goals (refine wl hE rfl ?_; refine qm hE ?_; clear hE a; intro a hE); all_goals (refine wl hE rfl ?_; refine qn hE ?_; clear hE a; intro a hE); all_goals (refine wl hE rfl ?_; refine qf hE ?_; clear hE a; intro a hE); all_goals (refine wl hE rfl ?_; refine qf hE ?_; clear hE a; intro a hE); all_goals (refine wl hE rfl ?_; refine ql hE hS ?_; clear hE a; intro a hE); all_goals (refine wl hE rfl ?_; refine qm hE ?_; clear hE a; intro a hE); all_goals (refine wl hE rfl ?_; refine qi hE hA ?_; clear hE a; intro a hE); all_goals (refine wl hE rfl ?_; refine qlR (i := i) (us := x.cells) (df := E0) hE hS elen (by rw [hx]) ?_; clear hE a; intro a hE); all_goals (refine wl hE rfl ?_; refine qst0 hE hS ?_; clear hS; intro w hS); all_goals (refine wl hE rfl ?_; refine qa hE ?_; clear hE a; intro a hE)) | refine c_seq ?_ | ((refine c_cond hE rfl ?_ ?_) <;> (intro hb; (first | replace hb := of_decide_eq_true hb | replace hb := of_decide_eq_false hb | (simp only [Bool.not_eq_true', Bool.not_eq_false', decide_eq_true_eq, decide_eq_false_iff_not] at hb) | skip); try (exfalso; first | omega | exact absurd trivial hb | exact absurd rfl hb | (simp only [beq_self_eq_true, bne_self_eq_false, reduceCtorEq] at hb; done)))))
  all_goals rcases find_getE hI.up hi with ⟨hg, hn⟩ | ⟨hg, hp⟩
  all_goals first | (exfalso; clear hE; omega) | skip
  all_goals try rw [hx] at hg
  · have e : getT life l k now = (E0, false) := by simp only [getT, hg]
    rw [e]
    exact p_rets hE rfl (rc hE hS (rt hE .nil)) rfl ⟨_, rfl, rfl, (Ag.in_ (A := A) (c := c) hS.drop).fit⟩
  · have e : getT life l k now = (E0, false) := by simp [getT, hg, hb]
    rw [e]
    exact p_rets hE rfl (rc hE hS (rt hE .nil)) rfl ⟨_, rfl, rfl, (Ag.in_ (A := A) (c := c) hS.drop).fit⟩
  · have e : getT life l k now = (E0, false) := by simp [getT, hg, hb]
    rw [e]
    exact p_rets hE rfl (rc hE hS (rt hE .nil)) rfl ⟨_, rfl, rfl, (Ag.in_ (A := A) (c := c) hS.drop).fit⟩
  · have hok : okT now = true := by assumption
    have e : getT life l k now = (x, true) := by simp only [getT, hg, hb, hok, and_self, if_true]
    rw [e]
    exact p_rets hE rfl (rc hE hS (rt hE .nil)) rfl ⟨_, rfl, rfl, (Ag.in_ (A := A) (c := c) hS.drop).fit⟩
theorem new_s (room life : Int) (w0 : World) : Calls Try.prog 46 #[.int .i64 room, .int .i64 life] w0 fun e w' => ∃ r, e = .returned r ∧ ((¬ (1 ≤ room ∧ room ≤ 4096 ∧ 1 ≤ life ∧ life ≤ 1099511627776) ∧ r = .tuple #[.pointer none, .int .i64 1] ∧ Sep w0 w' []) ∨ ((1 ≤ room ∧ room ≤ 4096 ∧ 1 ≤ life ∧ life ≤ 1099511627776) ∧ ∃ g, r = .tuple #[.pointer (some ⟨g, 0, none⟩), .int .i64 0] ∧ Sep w0 w' [Ag g [] room life])) := by
  refine enter (args := [.int .i64 room, .int .i64 life]) 25 Try.func46 rfl rfl rfl ?_
  intro a hE hS
  repeat' (first | refine wl_nil ?_ | refine then_n ?_ | refine c_skip ?_ | refine c_ret ?_ | refine then_r ?_ | refine c_cond_t hE rfl ?_ | (refine c_regI 0 ?_; all_goals (refine wl hE rfl ?_; refine qa hE ?_; clear hE a; intro a hE); all_goals (refine wl hE rfl ?_; refine qa hE ?_; clear hE a; intro a hE)) | (refine c_regI 1 ?_; all_goals (refine wl hE rfl ?_; refine qm hE ?_; clear hE a; intro a hE); all_goals (refine wl hE rfl ?_; refine qb hE ?_; clear hE a; intro a hE); all_goals (refine wl hE rfl ?_; refine qm hE ?_; clear hE a; intro a hE); all_goals ((refine wl_splitg hE rfl rfl ?_ ?_) <;> (clear hE; intro hb hE; (first | replace hb := of_decide_eq_true hb | replace hb := of_decide_eq_false hb | (simp only [Bool.not_eq_true', Bool.not_eq_false', decide_eq_true_eq, decide_eq_false_iff_not] at hb) | skip); try (exfalso; first | omega | exact absurd trivial hb | exact absurd rfl hb | (simp only [beq_self_eq_true, bne_self_eq_false, reduceCtorEq] at hb; done))) <;> (first | (refine wl hE rfl ?_; refine qm hE ?_; clear hE a; intro a hE) | (refine wl_skip hE rfl rfl rfl ?_; clear hE a; intro a hE))); all_goals (first | (refine wl hE rfl ?_; refine qb hE ?_; clear hE a; intro a hE) | (refine wl_skip hE rfl rfl rfl ?_; clear hE a; intro a hE)); all_goals (refine wl hE rfl ?_; first | (refine qpt hE ?_; clear hE a; intro a hE) | (refine qpf hE ?_; clear hE a; intro a hE)); all_goals (refine wl hE rfl ?_; refine qm hE ?_; clear hE a; intro a hE); all_goals (first | (refine wl_skip hE rfl rfl rfl ?_; clear hE a; intro a hE) | ((refine wl_splitg hE rfl rfl ?_ ?_) <;> (clear hE; intro hb hE; (first | replace hb := of_decide_eq_true hb | replace hb := of_decide_eq_false hb | (simp only [Bool.not_eq_true', Bool.not_eq_false', decide_eq_true_eq, decide_eq_false_iff_not] at hb) | skip); try (exfalso; first | omega | exact absurd trivial hb | exact absurd rfl hb | (simp only [beq_self_eq_true, bne_self_eq_false, reduceCtorEq] at hb; done))) <;> (first | (refine wl hE rfl ?_; refine qm hE ?_; clear hE a; intro a hE) | (refine wl_skip hE rfl rfl rfl ?_; clear hE a; intro a hE)))); all_goals (first | (refine wl hE rfl ?_; refine qb hE ?_; clear hE a; intro a hE) | (refine wl_skip hE rfl rfl rfl ?_; clear hE a; intro a hE)); all_goals (refine wl hE rfl ?_; first | (refine qpt hE ?_; clear hE a; intro a hE) | (refine qpf hE ?_; clear hE a; intro a hE)); all_goals (refine wl hE rfl ?_; refine qm hE ?_; clear hE a; intro a hE); all_goals (first | (refine wl_skip hE rfl rfl rfl ?_; clear hE a; intro a hE) | ((refine wl_splitg hE rfl rfl ?_ ?_) <;> (clear hE; intro hb hE; (first | replace hb := of_decide_eq_true hb | replace hb := of_decide_eq_false hb | (simp only [Bool.not_eq_true', Bool.not_eq_false', decide_eq_true_eq, decide_eq_false_iff_not] at hb) | skip); try (exfalso; first | omega | exact absurd trivial hb | exact absurd rfl hb | (simp only [beq_self_eq_true, bne_self_eq_false, reduceCtorEq] at hb; done))) <;> (first | (refine wl hE rfl ?_; refine qm hE ?_; clear hE a; intro a hE) | (refine wl_skip hE rfl rfl rfl ?_; clear hE a; intro a hE)))); all_goals (first | (refine wl hE rfl ?_; refine qb hE ?_; clear hE a; intro a hE) | (refine wl_skip hE rfl rfl rfl ?_; clear hE a; intro a hE)); all_goals (refine wl hE rfl ?_; first | (refine qpt hE ?_; clear hE a; intro a hE) | (refine qpf hE ?_; clear hE a; intro a hE))) | (refine c_regI 2 ?_; all_goals (refine wl hE rfl ?_; refine qa hE ?_; clear hE a; intro a hE); all_goals (refine wl hE rfl ?_; refine qa hE ?_; clear hE a; intro a hE)) | (refine c_regI 3 ?_; all_goals (refine wl hE rfl ?_; refine qbu hE ?_; clear hE a; intro a hE); all_goals (refine wl hE rfl ?_; refine qm hE ?_; clear hE a; intro a hE); all_goals (refine wl hE rfl ?_; refine qm hE ?_; clear hE a; intro a hE); all_goals (refine wl hE rfl ?_; refine qbu hE ?_; clear hE a; intro a hE); all_goals (refine wl hE rfl ?_; refine qbx hE hS ?_; clear hE hS; clear a; intro g a w hE hS); all_goals (refine wl hE rfl ?_; refine qa hE ?_; clear hE a; intro a hE); all_goals (refine wl hE rfl ?_; refine qa hE ?_; clear hE a; intro a hE)) | refine c_seq ?_ | ((refine c_cond hE rfl ?_ ?_) <;> (intro hb; (first | replace hb := of_decide_eq_true hb | replace hb := of_decide_eq_false hb | (simp only [Bool.not_eq_true', Bool.not_eq_false', decide_eq_true_eq, decide_eq_false_iff_not] at hb) | skip); try (exfalso; first | omega | exact absurd trivial hb | exact absurd rfl hb | (simp only [beq_self_eq_true, bne_self_eq_false, reduceCtorEq] at hb; done)))))
  all_goals first
    | exact p_rets hE rfl (rt hE (rt hE .nil)) rfl ⟨_, rfl, .inl ⟨by clear hE; omega, rfl, hS⟩⟩
    | exact p_rets hE rfl (rt hE (rt hE .nil)) rfl ⟨_, rfl, .inr ⟨by clear hE; omega, g, rfl, Ag.in_ (l := []) (A := none) (c := 0) (hS.nil_row.fit)⟩⟩
end Go.Proofs.Ytdgpjkddpbiieaa
/- DERIVED. Layer 10: forms of the contracts with values. No condition. -/
namespace Go.Proofs.Ytdgpjkddpbiieaa
open Go.RowKit Go.Sx Go.Proofs.YtdgpjkddpbiieaaTy
set_option linter.unusedVariables false
set_option linter.unusedSimpArgs false
set_option maxRecDepth 100000
attribute [local irreducible] Oper.wp Code.wp wpList wpAnyH Calls bodyPost Exit.then Exit.inBlock Code.rounds
set_option maxHeartbeats 1000000
deriving instance DecidableEq for En
theorem put_v (g : Nat) (l l2 : List En) (c room life k v now : Int) (u0 w0 : World) (L : List Asn) (h : putT room life l k v now = (c, l2)) (hI : Inv room l) (hS0 : Sep u0 w0 (Ag g l room life :: L)) (hr : 1 ≤ room ∧ room ≤ 4096) : Calls Try.prog 56 #[.pointer (some ⟨g, 0, none⟩), .int .u64 k, .int .u64 v, .int .i64 now] w0 fun e w' => ∃ r, e = .returned r ∧ r = .int .i64 c ∧ Sep u0 w' (Ag g l2 room life :: L) := by
  have := put_s g l room life k v now u0 w0 L hS0 hr hI
  rw [h] at this
  exact this
theorem get_v (g : Nat) (l : List En) (x : En) (b : Bool) (room life k now : Int) (u0 w0 : World) (L : List Asn) (h : getT life l k now = (x, b)) (hI : Inv room l) (hS0 : Sep u0 w0 (Ag g l room life :: L)) (hr : 1 ≤ room ∧ room ≤ 4096) : Calls Try.prog 53 #[.pointer (some ⟨g, 0, none⟩), .int .u64 k, .int .i64 now] w0 fun e w' => ∃ r, e = .returned r ∧ r = .tuple #[.agg x.cells.toArray, .bool b] ∧ Sep u0 w' (Ag g l room life :: L) := by
  have := get_s g l room life k now u0 w0 L hS0 hr hI
  rw [h] at this
  exact this
theorem inv_nil {room : Int} (h : 0 ≤ room) : Inv room [] := ⟨List.Pairwise.nil, fun x hx => by simp at hx, by simpa using h⟩
theorem new_k (room life : Int) (h : 1 ≤ room ∧ room ≤ 4096 ∧ 1 ≤ life ∧ life ≤ 1099511627776) (w0 : World) : Calls Try.prog 46 #[.int .i64 room, .int .i64 life] w0 fun e w' => ∃ r, e = .returned r ∧ ∃ g, r = .tuple #[.pointer (some ⟨g, 0, none⟩), .int .i64 0] ∧ Sep w0 w' [Ag g [] room life] :=
  (new_s room life w0).mono fun e w' ⟨r, hr, hh⟩ => by
    rcases hh with ⟨hn, _⟩ | ⟨_, g, h1, h2⟩
    · exact absurd h hn
    · exact ⟨r, hr, g, h1, h2⟩
theorem new_n (room life : Int) (h : ¬ (1 ≤ room ∧ room ≤ 4096 ∧ 1 ≤ life ∧ life ≤ 1099511627776)) (w0 : World) : Calls Try.prog 46 #[.int .i64 room, .int .i64 life] w0 fun e w' => ∃ r, e = .returned r ∧ r = .tuple #[.pointer none, .int .i64 1] ∧ Sep w0 w' [] :=
  (new_s room life w0).mono fun e w' ⟨r, hr, hh⟩ => by
    rcases hh with ⟨_, h1, h2⟩ | ⟨hk, _⟩
    · exact ⟨r, hr, h1, h2⟩
    · exact absurd hk h
end Go.Proofs.Ytdgpjkddpbiieaa

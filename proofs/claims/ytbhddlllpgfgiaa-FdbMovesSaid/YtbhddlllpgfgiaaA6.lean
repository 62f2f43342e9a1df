/- DERIVED. Layer 10: drop; time, old; Drop, Clear, Expire. No condition. -/
import Derived.Test.YtbhddlllpgfgiaaA5
namespace Go.Proofs.Ytbhddlllpgfgiaa
open Go.RowKit Go.Sx Go.Proofs.YtbhddlllpgfgiaaTy
set_option linter.unusedVariables false
set_option linter.unusedSimpArgs false
set_option maxRecDepth 100000
attribute [local irreducible] Oper.wp Code.wp wpList wpAnyH Calls bodyPost Exit.then Exit.inBlock Code.rounds
set_option maxHeartbeats 1000000
def tabC (A : Option Addr) (n c : Nat) (room life : Int) : List Value := [.slice A n c, .func (.func 38) #[] #[], .int .i64 room, .int .i64 life]
theorem odrop_s (g : Nat) (l : List En) (room life : Int) (f : FuncId) [FnTy Try.prog f] (cs : List Value) (p : En → Bool) (u0 w0 : World) (L : List Asn) (hS0 : Sep u0 w0 (Ag g l room life :: L)) (hl : l.length ≤ 1073741823)
    (hp : ∀ x ∈ l, ∀ w A c, Sep u0 w (blk g (tabC A l.length c room life) 90 :: L) → Calls Try.prog f (.agg x.cells.toArray :: cs).toArray w fun e w' => ∃ r, e = .returned r ∧ r = .bool (p x) ∧ Sep w w' []) :
    Calls Try.prog 49 #[.pointer (some ⟨g, 0, none⟩), .func (.func f) #[] cs.toArray] w0 fun e w' => ∃ r, e = .returned r ∧ r = .int .i64 ((l.length : Int) - (l.filter fun x => !p x).length) ∧ Sep u0 w' (Ag g (l.filter fun x => !p x) room life :: L) := by
  refine enter (args := [.pointer (some ⟨g, 0, none⟩), .func (.func f) #[] cs.toArray]) 27 Try.func49 rfl rfl rfl ?_
  intro a hE _
  obtain ⟨A, c, hS⟩ := Ag.out hS0
  clear hS0
  obtain ⟨hc1, hc2, _⟩ := hS.drop.row_cap
  have hle : (l.filter fun x => !p x).length ≤ l.length := List.length_filter_le _ _
  obtain ⟨g0, hg0⟩ : ∃ g0, g0 = g := ⟨_, rfl⟩
  rw [← hg0] at hE hS hp
  revert hE
  revert hS
  generalize w0 = w
  intro hS hE
  repeat' (first | refine wl_nil ?_ | refine then_n ?_ | refine c_block ?_ | refine c_skip ?_ | refine c_exit ?_ | refine c_ret ?_ | refine then_r ?_ | refine then_e ?_ | refine inb_n ?_ | refine inb_r ?_ | refine inb_e ?_ | refine inb_o rfl ?_ | refine c_cond_t hE rfl ?_ | refine c_cond_f hE rfl ?_ | refine c_rnd ?_ | (refine c_regI 0 ?_; all_goals (refine wl hE rfl ?_; refine qa hE ?_; clear hE a; intro a hE)) | (refine c_regI 1 ?_; all_goals (refine wl hE rfl ?_; refine qm hE ?_; clear hE a; intro a hE); all_goals (refine wl hE rfl ?_; (first | refine qn hE ?_ | refine qnf hE ?_); clear hE a; intro a hE); all_goals (refine wl hE rfl ?_; (first | refine qf hE ?_ | refine qFF hE ?_ | refine qF hE ?_); clear hE a; intro a hE); all_goals (refine wl hE rfl ?_; (first | refine ql hE hS ?_ | refine qL hE hS ?_ | refine qlr hE hS ?_); clear hE a; intro a hE); all_goals (refine wl hE rfl ?_; (first | refine qn1 hE ?_ | refine qns hE ?_); clear hE a; intro a hE); all_goals (refine wl hE rfl ?_; refine qa hE ?_; clear hE a; intro a hE)) | (refine c_regI 2 ?_; all_goals (refine wl hE rfl ?_; refine qm hE ?_; clear hE a; intro a hE); all_goals (refine wl hE rfl ?_; refine qm hE ?_; clear hE a; intro a hE); all_goals (refine wl hE rfl ?_; (first | refine qn hE ?_ | refine qnf hE ?_); clear hE a; intro a hE); all_goals (refine wl hE rfl ?_; (first | refine qf hE ?_ | refine qFF hE ?_ | refine qF hE ?_); clear hE a; intro a hE); all_goals (refine wl hE rfl ?_; (first | refine ql hE hS ?_ | refine qL hE hS ?_ | refine qlr hE hS ?_); clear hE a; intro a hE); all_goals (refine wl hE rfl ?_; refine qm hE ?_; clear hE a; intro a hE); all_goals (refine wl hE rfl ?_; refine qc hE (deleteF_s A c l f cs p u0 _ _ hS.fit hl (fun x hx w h => hp x hx w A c h)) ?_; clear hE hS; clear a; rintro _ a w ⟨m, hm, rfl, hS⟩ hE); all_goals (refine wl hE rfl ?_; (first | refine qn hE ?_ | refine qnf hE ?_); clear hE a; intro a hE); all_goals (refine wl hE rfl ?_; (first | refine qf hE ?_ | refine qFF hE ?_ | refine qF hE ?_); clear hE a; intro a hE); all_goals (refine wl hE rfl ?_; (first | refine qst0 hE hS ?_ | refine qst hE hS ?_); clear hS; intro w hS)) | (refine c_regI 3 ?_; all_goals (refine wl hE rfl ?_; refine qm hE ?_; clear hE a; intro a hE); all_goals (refine wl hE rfl ?_; refine qm hE ?_; clear hE a; intro a hE); all_goals (refine wl hE rfl ?_; (first | refine qn hE ?_ | refine qnf hE ?_); clear hE a; intro a hE); all_goals (refine wl hE rfl ?_; (first | refine qf hE ?_ | refine qFF hE ?_ | refine qF hE ?_); clear hE a; intro a hE); all_goals (refine wl hE rfl ?_; (first | refine ql hE hS ?_ | refine qL hE hS ?_ | refine qlr hE hS ?_); clear hE a; intro a hE); all_goals (refine wl hE rfl ?_; (first | refine qn1 hE ?_ | refine qns hE ?_); clear hE a; intro a hE); all_goals (refine wl hE rfl ?_; (first | refine qb hE ?_ | refine qb2 hE ?_ | refine qbE hE ?_ | refine qbN hE ?_ | refine qpn hE ?_); clear hE a; intro a hE); all_goals (refine wl hE rfl ?_; refine qa hE ?_; clear hE a; intro a hE)) | refine c_seq ?_ | ((refine c_cond hE rfl ?_ ?_) <;> (intro hb; (first | replace hb := of_decide_eq_true hb | replace hb := of_decide_eq_false hb | (simp only [Bool.not_eq_true', Bool.not_eq_false', decide_eq_true_eq, decide_eq_false_iff_not] at hb) | skip); try (exfalso; first | omega | exact absurd trivial hb | exact absurd rfl hb | (simp only [beq_self_eq_true, bne_self_eq_false, reduceCtorEq] at hb; done)))))
  subst hg0
  refine p_ret hE rfl rfl ⟨_, rfl, by rw [hm], ?_⟩
  refine Ag.in_ (A := A) (c := c) ?_
  rw [← hm]
  exact hS.fit
end Go.Proofs.Ytbhddlllpgfgiaa

/- DERIVED. Layer 25: how often a packet is there; plain facts of the order. No condition. -/
import Derived.Test.YtgfhpkoabliamaaW7
namespace Go.Proofs.Ytgfhpkoabliamaa
open Go.RowKit Go.Sx Go.Proofs.YtgfhpkoabliamaaTy Go.Proofs.YtgfhpkoabliamaaOp
set_option linter.unusedVariables false
set_option linter.unusedSimpArgs false
set_option maxRecDepth 100000
attribute [local irreducible] Oper.wp Code.wp wpList wpAnyH Calls bodyPost Exit.then Exit.inBlock Code.rounds
set_option maxHeartbeats 1000000
open Classical in
noncomputable def oftTo (l : List Pkt) (x : Pkt) : Nat → Int
  | 0 => 0
  | i + 1 => if (l.getD i P0).cells = x.cells then oftTo l x i + 1 else oftTo l x i
open Classical in
theorem oftTo_count (l : List Pkt) (x : Pkt) : ∀ i : Nat, i ≤ l.length → oftTo l x i = ((l.take i).countP fun y => decide (y.cells = x.cells) : Nat)
  | 0, _ => by simp [oftTo]
  | i + 1, h => by
    have hi : i < l.length := by omega
    rw [List.take_succ_eq_append_getElem hi, List.countP_append, oftTo, oftTo_count l x i (by omega)]
    have e : l.getD i P0 = l[i] := by simp [hi]
    rw [e]
    split <;> rename_i hc <;> simp [hc]
theorem oftTo_in (l : List Pkt) (x : Pkt) : ∀ i : Nat, 0 ≤ oftTo l x i ∧ oftTo l x i ≤ i
  | 0 => by simp [oftTo]
  | i + 1 => by have := oftTo_in l x i; simp only [oftTo]; split <;> omega
theorem oft_perm {l m : List Pkt} (h : l.Perm m) (x : Pkt) : oftTo l x l.length = oftTo m x m.length := by
  rw [oftTo_count l x _ (Nat.le_refl _), oftTo_count m x _ (Nat.le_refl _), List.take_length, List.take_length, h.countP_eq]
theorem insAt_perm (l : List Pkt) (i : Nat) (x : Pkt) : (insAt l i x).Perm (x :: l) := by
  unfold insAt
  have h1 : (l.take i ++ [x] ++ l.drop i).Perm (x :: (l.take i ++ l.drop i)) := by
    rw [List.append_assoc]
    exact List.perm_middle
  rwa [List.take_append_drop] at h1
theorem erase_perm (l : List Pkt) (i : Nat) (h : i < l.length) : (l.getD i P0 :: l.eraseIdx i).Perm l := by
  have e : l.getD i P0 = l[i] := by simp [h]
  rw [e, List.eraseIdx_eq_take_drop_succ]
  have h1 : (l.take i ++ l[i] :: l.drop (i + 1)).Perm (l[i] :: (l.take i ++ l.drop (i + 1))) := List.perm_middle
  rw [← List.drop_eq_getElem_cons h, List.take_append_drop] at h1
  exact h1.symm
theorem move_perm (l : List Pkt) (i j : Nat) (h : i < l.length) : (insAt (l.eraseIdx i) j (l.getD i P0)).Perm l := (insAt_perm _ _ _).trans (erase_perm l i h)
theorem insAt_get (l : List Pkt) (j : Nat) (x : Pkt) (h : j ≤ l.length) : (insAt l j x).getD j P0 = x := by
  have hl : (l.take j).length = j := by rw [List.length_take]; omega
  simp only [insAt, List.getD_eq_getElem?_getD, List.append_assoc]
  rw [List.getElem?_append_right (by omega), hl]
  simp
theorem insAt_erase (l : List Pkt) (j : Nat) (x : Pkt) (h : j ≤ l.length) : (insAt l j x).eraseIdx j = l := by
  have hl : (l.take j).length = j := by rw [List.length_take]; omega
  unfold insAt
  rw [List.append_assoc, List.eraseIdx_append_of_length_le (by omega), hl]
  simp
theorem erase_insAt (l : List Pkt) (i : Nat) (h : i < l.length) : insAt (l.eraseIdx i) i (l.getD i P0) = l := by
  have e : l.getD i P0 = l[i] := by simp [h]
  have h1 : (l.take i).length = i := by rw [List.length_take]; omega
  rw [e, insAt, List.eraseIdx_eq_take_drop_succ, List.take_append_of_le_length (by omega), List.take_of_length_le (by omega), List.drop_append_of_le_length (by omega), List.drop_of_length_le (by omega)]
  simp only [List.nil_append, List.append_assoc, List.singleton_append]
  rw [← List.drop_eq_getElem_cons h, List.take_append_drop]
theorem move_back (l : List Pkt) (i j : Nat) (h : i < l.length) (hj : j < l.length) : insAt ((insAt (l.eraseIdx i) j (l.getD i P0)).eraseIdx j) i ((insAt (l.eraseIdx i) j (l.getD i P0)).getD j P0) = l := by
  have hl : (l.eraseIdx i).length = l.length - 1 := List.length_eraseIdx_of_lt h
  rw [insAt_erase _ _ _ (by omega), insAt_get _ _ _ (by omega), erase_insAt l i h]
open Classical in
theorem often_s (A : Option Addr) (c : Nat) (l : List Pkt) (x : Pkt) (w0 : World) (hR : Rd w0 A (l.flatMap Pkt.cells)) (hl : l.length ≤ 9223372036854775806) : Calls Try.prog 15 #[.slice A l.length c, .agg x.cells.toArray] w0 fun e w' => ∃ r, e = .returned r ∧ r = .int .i64 (oftTo l x l.length) ∧ Sep w0 w' [] := by
  have hA : (0 : Int) < l.length → A = some (adr A) := fun h => hR.some (by rw [flat_len plen]; omega)
  have hT := hR.at_
  refine enter (args := [.slice A l.length c, .agg x.cells.toArray]) 22 Try.func15 rfl rfl rfl ?_
  intro a hE hS
  repeat' (first | (refine wl hE rfl ?_; first | ((first | refine qm hE ?_ | refine qa hE ?_ | refine qb hE ?_ | refine qFF hE ?_ | refine qf hE ?_ | refine ql hE hS ?_ | refine qn hE ?_ | refine qe hE ?_ | refine qpt hE ?_ | refine qpf hE ?_ | refine qu hE ?_ | refine qn1 hE ?_ | refine qns hE ?_ | refine qL hE hS ?_ | refine qbu hE ?_ | refine qF hE ?_ | refine qnf hE ?_ | refine qmin hE ?_ | refine qmax hE ?_ | refine qssh hE ?_ | refine qix1 hE ?_ | refine qix hE ?_ | refine qia hE ?_ | refine qbA hE ?_ | refine qbE hE ?_ | refine qbN hE ?_ | refine qcv hE ?_ | refine qfd1 hE ?_ | refine qfd hE ?_ | refine qi hE (fun _ => rfl) ?_ | refine qlr hE hS ?_ | refine qb2 hE ?_ | refine qng hE ?_ | refine qpn hE ?_); clear hE; clear a; intro a hE) | ((first | refine qst0 hE hS ?_ | refine qst hE hS ?_); clear hS; intro w hS) | ((first | refine qal hE hS ?_ | refine qbx hE hS ?_ | refine qbs1 hE hS ?_ | refine qbs hE hS ?_ | refine qbs0 hE hS ?_); clear hE hS; clear a; intro g a w hE hS)) | refine c_reg ?_ | refine wl_nil ?_ | refine then_n ?_ | refine c_block ?_ | refine c_skip ?_ | refine c_exit ?_ | refine c_ret ?_ | refine then_r ?_ | refine then_e ?_ | refine inb_n ?_ | refine inb_r ?_ | refine inb_e ?_ | refine inb_o rfl ?_ | refine c_cond_t hE rfl ?_ | refine c_cond_f hE rfl ?_ | refine c_rnd ?_ | refine c_seq ?_ | (refine rg_guard 5 ?_; refine rg_start [3] hE hS ?_; clear hS; clear w; intro w hS hX; all_goals (first | (refine rg_y 0 hE hX (by first | exact y_move) ?_ rfl rfl rfl rfl (by kernel_rfl) (by kernel_rfl) (by kernel_rfl) (fun _ _ _ h => by with_unfolding_all exact h); clear hE; clear a; intro a hE)); all_goals (first | (refine rg_y 1 hE hX (by first | exact y_move) ?_ rfl rfl rfl rfl (by kernel_rfl) (by kernel_rfl) (by kernel_rfl) (fun _ _ _ h => by with_unfolding_all exact h); clear hE; clear a; intro a hE)); all_goals (first | (refine rg_y 2 hE hX (by first | exact y_ia) ?_ rfl rfl rfl rfl (by kernel_rfl) (by kernel_rfl) (by kernel_rfl) (fun _ _ _ h => by with_unfolding_all exact h); clear hE; clear a; intro a hE)); all_goals (first | (refine rg_y 3 hE hX (by first | exact y_load | exact y_loadA) ?_ rfl rfl rfl rfl (by kernel_rfl) (by kernel_rfl) (by kernel_rfl) (fun _ _ _ h => by with_unfolding_all exact h); clear hE; clear a; intro a hE)); all_goals (first | (refine rg_y 4 hE hX (by first | exact y_load | exact y_loadA) ?_ rfl rfl rfl rfl (by kernel_rfl) (by kernel_rfl) (by kernel_rfl) (fun _ _ _ h => by with_unfolding_all exact h); clear hE; clear a; intro a hE)); all_goals (first | (refine rg_y 5 hE hX (by first | exact y_bin | exact y_binE | exact y_binN | exact y_bin2 | exact y_pn) ?_ rfl rfl rfl rfl (by kernel_rfl) (by kernel_rfl) (by kernel_rfl) (fun _ _ _ h => by with_unfolding_all exact h); clear hE; clear a; intro a hE)); all_goals (refine rg_done ?_ (by kernel_rfl); (try clear hX))) | (refine wl_skip hE rfl rfl rfl ?_; clear hE; clear a; intro a hE) | ((refine wl_splitg hE rfl rfl ?_ ?_) <;> (clear hE; intro hb hE; (first | replace hb := of_decide_eq_true hb | replace hb := of_decide_eq_false hb | (simp only [Bool.not_eq_true', Bool.not_eq_false', decide_eq_true_eq, decide_eq_false_iff_not] at hb) | skip); try (exfalso; first | omega | exact absurd trivial hb | exact absurd rfl hb))) | ((refine c_cond hE rfl ?_ ?_) <;> (intro hb; (first | replace hb := of_decide_eq_true hb | replace hb := of_decide_eq_false hb | (simp only [Bool.not_eq_true', Bool.not_eq_false', decide_eq_true_eq, decide_eq_false_iff_not] at hb) | skip); try (exfalso; first | omega | exact absurd trivial hb | exact absurd rfl hb))))
  obtain ⟨g3, hg3⟩ : ∃ g3, g3 = g := ⟨_, rfl⟩
  rw [← hg3] at hE hS
  refine c_loopN (fun m a w => ∃ i : Int, 0 ≤ i ∧ i ≤ l.length ∧ m = (l.length - i).toNat ∧ ∃ k, k = oftTo l x i.toNat ∧ Env a 22 [(0, .slice A l.length c), (3, .pointer (some ⟨g3, 0, none⟩)), (5, .int .i64 k), (6, .int .i64 i)] ∧ Sep w0 w [blk g3 x.cells 34]) _ ⟨0, by omega, by omega, rfl, 0, rfl, hE.cut ⟨rfl, rfl, rfl, rfl, trivial⟩, hS⟩ ?_
  clear hE hS a w hg3
  rintro m a w ⟨i, h0, h1, rfl, k, hk, hE, hS⟩
  have hki := oftTo_in l x i.toNat
  rw [← hk] at hki
  have hst : oftTo l x (i + 1).toNat = if (l.getD i.toNat P0).cells = x.cells then k + 1 else k := by rw [show (i + 1).toNat = i.toNat + 1 by omega, oftTo, hk]
  repeat' (first | (refine wl hE rfl ?_; first | ((first | refine qm hE ?_ | refine qa hE ?_ | refine qb hE ?_ | refine qFF hE ?_ | refine qf hE ?_ | refine ql hE hS ?_ | refine qn hE ?_ | refine qe hE ?_ | refine qpt hE ?_ | refine qpf hE ?_ | refine qu hE ?_ | refine qn1 hE ?_ | refine qns hE ?_ | refine qL hE hS ?_ | refine qbu hE ?_ | refine qF hE ?_ | refine qnf hE ?_ | refine qmin hE ?_ | refine qmax hE ?_ | refine qssh hE ?_ | refine qix1 hE ?_ | refine qix hE ?_ | refine qia hE ?_ | refine qbA hE ?_ | refine qbE hE ?_ | refine qbN hE ?_ | refine qcv hE ?_ | refine qfd1 hE ?_ | refine qfd hE ?_ | refine qi hE (fun _ => rfl) ?_ | refine qlr hE hS ?_ | refine qb2 hE ?_ | refine qng hE ?_ | refine qpn hE ?_); clear hE; clear a; intro a hE) | ((first | refine qst0 hE hS ?_ | refine qst hE hS ?_); clear hS; intro w hS) | ((first | refine qal hE hS ?_ | refine qbx hE hS ?_ | refine qbs1 hE hS ?_ | refine qbs hE hS ?_ | refine qbs0 hE hS ?_); clear hE hS; clear a; intro g a w hE hS)) | refine c_reg ?_ | refine wl_nil ?_ | refine then_n ?_ | refine c_block ?_ | refine c_skip ?_ | refine c_exit ?_ | refine c_ret ?_ | refine then_r ?_ | refine then_e ?_ | refine inb_n ?_ | refine inb_r ?_ | refine inb_e ?_ | refine inb_o rfl ?_ | refine c_cond_t hE rfl ?_ | refine c_cond_f hE rfl ?_ | refine c_rnd ?_ | refine c_seq ?_ | (refine rg_guard 5 ?_; refine rg_start [3] hE hS ?_; clear hS; clear w; intro w hS hX; all_goals (first | (refine rg_y 0 hE hX (by first | exact y_move | exact y_index hA | exact y_load0s (df := P0) plen hT rfl) ?_ rfl rfl rfl rfl (by kernel_rfl) (by kernel_rfl) (by kernel_rfl) (fun _ _ _ h => by with_unfolding_all exact h); clear hE; clear a; intro a hE)); all_goals (first | (refine rg_y 1 hE hX (by first | exact y_move | exact y_index hA | exact y_load0s (df := P0) plen hT rfl) ?_ rfl rfl rfl rfl (by kernel_rfl) (by kernel_rfl) (by kernel_rfl) (fun _ _ _ h => by with_unfolding_all exact h); clear hE; clear a; intro a hE)); all_goals (first | (refine rg_y 2 hE hX (by first | exact y_ia | exact y_index hA | exact y_load0s (df := P0) plen hT rfl) ?_ rfl rfl rfl rfl (by kernel_rfl) (by kernel_rfl) (by kernel_rfl) (fun _ _ _ h => by with_unfolding_all exact h); clear hE; clear a; intro a hE)); all_goals (first | (refine rg_y 3 hE hX (by first | exact y_load | exact y_loadA | exact y_index hA | exact y_load0s (df := P0) plen hT rfl) ?_ rfl rfl rfl rfl (by kernel_rfl) (by kernel_rfl) (by kernel_rfl) (fun _ _ _ h => by with_unfolding_all exact h); clear hE; clear a; intro a hE)); all_goals (first | (refine rg_y 4 hE hX (by first | exact y_load | exact y_loadA | exact y_index hA | exact y_load0s (df := P0) plen hT rfl) ?_ rfl rfl rfl rfl (by kernel_rfl) (by kernel_rfl) (by kernel_rfl) (fun _ _ _ h => by with_unfolding_all exact h); clear hE; clear a; intro a hE)); all_goals (first | (refine rg_y 5 hE hX (by first | exact y_bin | exact y_binE | exact y_binN | exact y_bin2 | exact y_pn | exact y_index hA | exact y_load0s (df := P0) plen hT rfl) ?_ rfl rfl rfl rfl (by kernel_rfl) (by kernel_rfl) (by kernel_rfl) (fun _ _ _ h => by with_unfolding_all exact h); clear hE; clear a; intro a hE)); all_goals (refine rg_done ?_ (by kernel_rfl); (try clear hX))) | (refine wl_skip hE rfl rfl rfl ?_; clear hE; clear a; intro a hE) | ((refine wl_splitg hE rfl rfl ?_ ?_) <;> (clear hE; intro hb hE; (first | replace hb := of_decide_eq_true hb | replace hb := of_decide_eq_false hb | (simp only [Bool.not_eq_true', Bool.not_eq_false', decide_eq_true_eq, decide_eq_false_iff_not] at hb) | skip); try (exfalso; first | omega | exact absurd trivial hb | exact absurd rfl hb))) | ((refine c_cond hE rfl ?_ ?_) <;> (intro hb; (first | replace hb := of_decide_eq_true hb | replace hb := of_decide_eq_false hb | (simp only [Bool.not_eq_true', Bool.not_eq_false', decide_eq_true_eq, decide_eq_false_iff_not] at hb) | skip); try (exfalso; first | omega | exact absurd trivial hb | exact absurd rfl hb))))
  · exact ⟨_, by omega, i + 1, by omega, by omega, rfl, k + 1, by rw [hst, if_pos (show _ = x.cells from hb)], hE.cut ⟨rfl, rfl, rfl, rfl, trivial⟩, hS⟩
  · exact ⟨_, by omega, i + 1, by omega, by omega, rfl, k, by rw [hst, if_neg (show ¬ _ = x.cells from hb)], hE.cut ⟨rfl, rfl, rfl, rfl, trivial⟩, hS⟩
  · exact p_ret hE rfl rfl ⟨_, rfl, by rw [hk, show i.toNat = l.length by omega], hS.clean⟩
end Go.Proofs.Ytgfhpkoabliamaa

/- DERIVED. Layer 25: the reference: twice, move. No condition. -/
import Derived.Test.YtgfhpkoabliamaaW8
import Derived.Test.YtgfhpkoabliamaaW11
namespace Go.Proofs.Ytgfhpkoabliamaa
open Go.RowKit Go.Sx Go.Proofs.YtgfhpkoabliamaaTy
set_option linter.unusedVariables false
set_option linter.unusedSimpArgs false
set_option maxRecDepth 100000
attribute [local irreducible] Oper.wp Code.wp wpList wpAnyH Calls bodyPost Exit.then Exit.inBlock Code.rounds
set_option maxHeartbeats 1000000
theorem reftwice_s (g : Nat) (l : List Pkt) (room i : Int) (u0 w0 : World) (L : List Asn) (hS0 : Sep u0 w0 (Wr 49 g l room :: L)) (hl : l.length ≤ 1073741823) : Calls Try.prog 19 #[.pointer (some ⟨g, 0, none⟩), .int .i64 i] w0 fun e w' => ∃ r, e = .returned r ∧ r = .int .i64 (if 0 ≤ i ∧ i < l.length then (if room ≤ l.length then 250 else 0) else 251) ∧ Sep u0 w' (Wr 49 g (if 0 ≤ i ∧ i < l.length then (if room ≤ l.length then l else l ++ [l.getD i.toNat P0]) else l) room :: L) := by
  refine enter (args := [.pointer (some ⟨g, 0, none⟩), .int .i64 i]) 20 Try.func19 rfl rfl rfl ?_
  intro a hE _
  obtain ⟨A, c, hS⟩ := Wr.out hS0
  clear hS0
  obtain ⟨hc1, hc2, _⟩ := hS.row_cap
  have hA : (0 : Int) < l.length → A = some (adr A) := fun h => (Rd.row (A := A) (n := l.length) (c := c) (xs := l.flatMap Pkt.cells) hS).some (by rw [flat_len plen]; omega)
  obtain ⟨x, hx⟩ : ∃ x, x = l.getD i.toNat P0 := ⟨_, rfl⟩
  obtain ⟨g0, hg0⟩ : ∃ g0, g0 = g := ⟨_, rfl⟩
  rw [← hg0] at hE hS
  revert hE
  revert hS
  generalize w0 = w
  intro hS hE
  rw [← hx]
  repeat' (first | (refine wl hE rfl ?_; first | ((first | refine qm hE ?_ | refine qa hE ?_ | refine qb hE ?_ | refine qFF hE ?_ | refine qf hE ?_ | refine ql hE hS ?_ | refine qn hE ?_ | refine qe hE ?_ | refine qpt hE ?_ | refine qpf hE ?_ | refine qu hE ?_ | refine qn1 hE ?_ | refine qns hE ?_ | refine qL hE hS ?_ | refine qbu hE ?_ | refine qF hE ?_ | refine qnf hE ?_ | refine qmin hE ?_ | refine qmax hE ?_ | refine qssh hE ?_ | refine qix1 hE ?_ | refine qix hE ?_ | refine qia hE ?_ | refine qbA hE ?_ | refine qbE hE ?_ | refine qbN hE ?_ | refine qcv hE ?_ | refine qfd1 hE ?_ | refine qfd hE ?_ | refine qi hE (fun _ => rfl) ?_ | refine qlr hE hS ?_ | refine qb2 hE ?_ | refine qng hE ?_ | refine qpn hE ?_ | refine qi hE hA ?_ | refine qlR (df := P0) (us := x.cells) hE hS plen (by rw [hx]) ?_); clear hE; clear a; intro a hE) | ((first | refine qst0 hE hS ?_ | refine qst hE hS ?_); clear hS; intro w hS) | ((first | refine qal hE hS ?_ | refine qbx hE hS ?_ | refine qbs1 hE hS ?_ | refine qbs hE hS ?_ | refine qbs0 hE hS ?_); clear hE hS; clear a; intro g a w hE hS) | (refine is_call 25 rfl ?_; refine qc hE (refis_s 49 g0 A l.length c room i _ (blk_At hS)) ?_; clear hE; clear a; rintro _ a w ⟨rfl, hS1⟩ hE; replace hS := hS.then hS1; clear hS1) | ((refine is_call 17 rfl ?_; refine qc hE (refput_s g0 l room x u0 _ _ (Wr.in_ hS.fit) hl) ?_; clear hE hS; clear a; rintro _ a w ⟨rfl, hS⟩ hE))) | refine c_reg ?_ | refine wl_nil ?_ | refine then_n ?_ | refine c_block ?_ | refine c_skip ?_ | refine c_exit ?_ | refine c_ret ?_ | refine then_r ?_ | refine then_e ?_ | refine inb_n ?_ | refine inb_r ?_ | refine inb_e ?_ | refine inb_o rfl ?_ | refine c_cond_t hE rfl ?_ | refine c_cond_f hE rfl ?_ | refine c_rnd ?_ | refine c_seq ?_ | (refine wl_skip hE rfl rfl rfl ?_; clear hE; clear a; intro a hE) | ((refine wl_splitg hE rfl rfl ?_ ?_) <;> (clear hE; intro hb hE; (first | replace hb := of_decide_eq_true hb | replace hb := of_decide_eq_false hb | (simp only [Bool.not_eq_true', Bool.not_eq_false', decide_eq_true_eq, decide_eq_false_iff_not] at hb) | skip); try (exfalso; first | omega | exact absurd trivial hb | exact absurd rfl hb))) | ((refine c_cond hE rfl ?_ ?_) <;> (intro hb; (first | replace hb := of_decide_eq_true hb | replace hb := of_decide_eq_false hb | (simp only [Bool.not_eq_true', Bool.not_eq_false', decide_eq_true_eq, decide_eq_false_iff_not] at hb) | skip); try (exfalso; first | omega | exact absurd trivial hb | exact absurd rfl hb))))
  all_goals subst hg0
  · exact p_ret hE rfl rfl ⟨_, rfl, by rw [if_neg hb], by rw [if_neg hb]; exact Wr.in_ hS.fit⟩
  all_goals exact p_ret hE rfl rfl ⟨_, rfl, by rw [if_pos hb], by rw [if_pos hb]; exact hS.fit⟩
theorem reftake_p (g : Nat) (l : List Pkt) (room i : Int) (u0 w0 : World) (L : List Asn) (hi : 0 ≤ i ∧ i < l.length) (hS0 : Sep u0 w0 (Wr 49 g l room :: L)) (hl : l.length ≤ 1073741823) : Calls Try.prog 18 #[.pointer (some ⟨g, 0, none⟩), .int .i64 i] w0 fun e w' => ∃ r, e = .returned r ∧ r = .tuple #[.agg #[.int .i64 (l.getD i.toNat P0).fr, .string (l.getD i.toNat P0).s], .int .i64 0] ∧ Sep u0 w' (Wr 49 g (l.eraseIdx i.toNat) room :: L) := by
  have := reftake_s g l room i u0 w0 L hS0 hl
  rw [if_pos hi, if_pos hi, if_pos hi] at this
  exact this
/-- One put in on the way. -/
def mvTo (l : List Pkt) (j : Nat) (x : Pkt) (k : Nat) : List Pkt := if k ≤ j then l.take k else insAt (l.take k) j x
theorem mvTo_zero (l : List Pkt) (j : Nat) (x : Pkt) : mvTo l j x 0 = [] := by simp [mvTo]
theorem mvTo_le (l : List Pkt) (j : Nat) (x : Pkt) (k : Nat) : (mvTo l j x k).length ≤ k + 1 := by
  unfold mvTo
  split
  · exact Nat.le_succ_of_le (List.length_take_le _ _)
  · rw [insAt, List.length_append, List.length_append, List.length_take, List.length_drop, List.length_take]
    simp only [List.length_singleton]
    omega
theorem insAt_snoc (l : List Pkt) (j : Nat) (x y : Pkt) (h : j ≤ l.length) : insAt l j x ++ [y] = insAt (l ++ [y]) j x := by
  unfold insAt
  rw [List.take_append_of_le_length h, List.drop_append_of_le_length h]
  simp
theorem mvTo_here (l : List Pkt) (k : Nat) (x : Pkt) (hk : k < l.length) : mvTo l k x k ++ [x] ++ [l.getD k P0] = mvTo l k x (k + 1) := by
  have h1 : (l.take k).length = k := by rw [List.length_take]; omega
  have e : l.getD k P0 = l[k] := by simp [hk]
  rw [mvTo, if_pos (Nat.le_refl _), mvTo, if_neg (by omega), List.take_succ_eq_append_getElem hk, e, ← insAt_snoc _ _ _ _ (by omega)]
  congr 1
  have h2 := insAt_end (l.take k) x
  rw [h1] at h2
  exact h2.symm
theorem mvTo_there (l : List Pkt) (j k : Nat) (x : Pkt) (hk : k < l.length) (hne : k ≠ j) : mvTo l j x k ++ [l.getD k P0] = mvTo l j x (k + 1) := by
  have h1 : (l.take k).length = k := by rw [List.length_take]; omega
  have e : l.getD k P0 = l[k] := by simp [hk]
  unfold mvTo
  rcases Nat.lt_or_gt_of_ne hne with h | h
  · rw [if_pos (by omega), if_pos (by omega), List.take_succ_eq_append_getElem hk, e]
  · rw [if_neg (by omega), if_neg (by omega), List.take_succ_eq_append_getElem hk, e, insAt_snoc _ _ _ _ (by omega)]
theorem mvTo_end (l : List Pkt) (x : Pkt) : mvTo l l.length x l.length ++ [x] = mvTo l l.length x (l.length + 1) := by
  rw [mvTo, if_pos (Nat.le_refl _), mvTo, if_neg (by omega), List.take_of_length_le (Nat.le_refl _), List.take_of_length_le (by omega), insAt_end]
theorem mvTo_stop (l : List Pkt) (j : Nat) (x : Pkt) (h : j < l.length) : mvTo l j x l.length = mvTo l j x (l.length + 1) := by
  unfold mvTo
  rw [if_neg (by omega), if_neg (by omega), List.take_of_length_le (Nat.le_refl _), List.take_of_length_le (by omega)]
theorem mvTo_all (l : List Pkt) (j : Nat) (x : Pkt) (h : j ≤ l.length) : mvTo l j x (l.length + 1) = insAt l j x := by
  unfold mvTo
  rw [if_neg (by omega), List.take_of_length_le (by omega)]
theorem refmove_s (g : Nat) (l : List Pkt) (room i j : Int) (u0 w0 : World) (L : List Asn) (hS0 : Sep u0 w0 (Wr 49 g l room :: L)) (hl : l.length ≤ 1073741822) : Calls Try.prog 20 #[.pointer (some ⟨g, 0, none⟩), .int .i64 i, .int .i64 j] w0 fun e w' => ∃ r, e = .returned r ∧ r = .int .i64 (if (0 ≤ i ∧ i < l.length) ∧ (0 ≤ j ∧ j < l.length) then 0 else 251) ∧ Sep u0 w' (Wr 49 g (if (0 ≤ i ∧ i < l.length) ∧ (0 ≤ j ∧ j < l.length) then insAt (l.eraseIdx i.toNat) j.toNat (l.getD i.toNat P0) else l) room :: L) := by
  refine enter (args := [.pointer (some ⟨g, 0, none⟩), .int .i64 i, .int .i64 j]) 65 Try.func20 rfl rfl rfl ?_
  intro a hE _
  obtain ⟨A, c, hS⟩ := Wr.out hS0
  clear hS0
  obtain ⟨x, hx⟩ : ∃ x, x = l.getD i.toNat P0 := ⟨_, rfl⟩
  obtain ⟨M, hM⟩ : ∃ M, M = l.eraseIdx i.toNat := ⟨_, rfl⟩
  obtain ⟨g0, hg0⟩ : ∃ g0, g0 = g := ⟨_, rfl⟩
  rw [← hg0] at hE hS
  have hMl : ∀ _ : Unit, 0 ≤ i → i < l.length → M.length = l.length - 1 := fun _ h0 h => by rw [hM]; exact List.length_eraseIdx_of_lt (by omega)
  revert hE
  revert hS
  generalize w0 = w
  intro hS hE
  repeat' (first | (refine wl hE rfl ?_; first | ((first | refine qm hE ?_ | refine qa hE ?_ | refine qb hE ?_ | refine qFF hE ?_ | refine qf hE ?_ | refine ql hE hS ?_ | refine qn hE ?_ | refine qe hE ?_ | refine qpt hE ?_ | refine qpf hE ?_ | refine qu hE ?_ | refine qn1 hE ?_ | refine qns hE ?_ | refine qL hE hS ?_ | refine qbu hE ?_ | refine qF hE ?_ | refine qnf hE ?_ | refine qmin hE ?_ | refine qmax hE ?_ | refine qssh hE ?_ | refine qix1 hE ?_ | refine qix hE ?_ | refine qia hE ?_ | refine qbA hE ?_ | refine qbE hE ?_ | refine qbN hE ?_ | refine qcv hE ?_ | refine qfd1 hE ?_ | refine qfd hE ?_ | refine qi hE (fun _ => rfl) ?_ | refine qlr hE hS ?_ | refine qb2 hE ?_ | refine qng hE ?_ | refine qpn hE ?_); clear hE; clear a; intro a hE) | ((first | refine qst0 hE hS ?_ | refine qst hE hS ?_); clear hS; intro w hS) | ((first | refine qal hE hS ?_ | refine qbx hE hS ?_ | refine qbs1 hE hS ?_ | refine qbs hE hS ?_ | refine qbs0 hE hS ?_); clear hE hS; clear a; intro g a w hE hS) | (refine is_call 25 rfl ?_; refine qc hE (refis_s 49 g0 A l.length c room i _ (blk_At hS)) ?_; clear hE; clear a; rintro _ a w ⟨rfl, hS1⟩ hE; replace hS := hS.then hS1; clear hS1) | (refine is_call 25 rfl ?_; refine qc hE (refis_s 49 g0 A l.length c room j _ (blk_At hS)) ?_; clear hE; clear a; rintro _ a w ⟨rfl, hS1⟩ hE; replace hS := hS.then hS1; clear hS1) | ((refine is_call 18 rfl ?_; refine qc hE (reftake_p g0 l room i u0 _ _ (by omega) (Wr.in_ hS.fit) (by omega)) ?_; rw [← hx, ← hM]; clear hE hS; clear a; rintro _ a w ⟨rfl, hS⟩ hE; obtain ⟨A2, c2, hS2⟩ := Wr.out hS; replace hS := hS2; clear hS2))) | refine c_reg ?_ | refine wl_nil ?_ | refine then_n ?_ | refine c_block ?_ | refine c_skip ?_ | refine c_exit ?_ | refine c_ret ?_ | refine then_r ?_ | refine then_e ?_ | refine inb_n ?_ | refine inb_r ?_ | refine inb_e ?_ | refine inb_o rfl ?_ | refine c_cond_t hE rfl ?_ | refine c_cond_f hE rfl ?_ | refine c_rnd ?_ | refine c_seq ?_ | (refine wl_skip hE rfl rfl rfl ?_; clear hE; clear a; intro a hE) | ((refine wl_splitg hE rfl rfl ?_ ?_) <;> (clear hE; intro hb hE; (first | replace hb := of_decide_eq_true hb | replace hb := of_decide_eq_false hb | (simp only [Bool.not_eq_true', Bool.not_eq_false', decide_eq_true_eq, decide_eq_false_iff_not] at hb) | skip); try (exfalso; first | omega | exact absurd trivial hb | exact absurd rfl hb))) | ((refine c_cond hE rfl ?_ ?_) <;> (intro hb; (first | replace hb := of_decide_eq_true hb | replace hb := of_decide_eq_false hb | (simp only [Bool.not_eq_true', Bool.not_eq_false', decide_eq_true_eq, decide_eq_false_iff_not] at hb) | skip); try (exfalso; first | omega | exact absurd trivial hb | exact absurd rfl hb))))
  · subst hg0
    exact p_ret hE rfl rfl ⟨_, rfl, by rw [if_neg (fun h => hb h.1)], by rw [if_neg (fun h => hb h.1)]; exact Wr.in_ hS.fit⟩
  · subst hg0
    exact p_ret hE rfl rfl ⟨_, rfl, by rw [if_neg (fun h => hb h.2)], by rw [if_neg (fun h => hb h.2)]; exact Wr.in_ hS.fit⟩
  have hi : 0 ≤ i ∧ i < l.length := by assumption
  have hj : 0 ≤ j ∧ j < l.length := hb
  replace hMl := hMl () hi.1 hi.2
  have hA : (0 : Int) < M.length → A2 = some (adr A2) := fun h => (Rd.row (A := A2) (n := M.length) (c := c2) (xs := M.flatMap Pkt.cells) hS).some (by rw [flat_len plen]; omega)
  refine c_loopN (fun m a w => ∃ k : Int, 0 ≤ k ∧ k ≤ M.length + 1 ∧ m = (M.length + 1 - k).toNat ∧ ∃ D gB A3 c3, D = mvTo M j.toNat x k.toNat ∧ Env a 65 [(0, .pointer (some ⟨g0, 0, none⟩)), (2, .int .i64 j), (7, .pointer (some ⟨gB, 0, none⟩)), (9, .slice A3 D.length c3), (10, .int .i64 k)] ∧ Sep u0 w (row 34 2 (.slice A3 D.length c3) D.length (D.flatMap Pkt.cells) :: blk gB x.cells 34 :: blk g0 [.slice A2 M.length c2, .int .i64 room] 49 :: row 34 2 (.slice A2 M.length c2) M.length (M.flatMap Pkt.cells) :: L)) _ ⟨0, by omega, by omega, rfl, [], _, _, _, by rw [show (0 : Int).toNat = 0 from rfl, mvTo_zero], hE.cut ⟨rfl, rfl, rfl, rfl, rfl, trivial⟩, hS.fit⟩ ?_
  clear hb hE hS a w
  rintro m a w ⟨k, h0, h1, rfl, D, gB, A3, c3, hD, hE, hS⟩
  have hDl : D.length ≤ k.toNat + 1 := by rw [hD]; exact mvTo_le _ _ _ _
  have hkk : (k + 1).toNat = k.toNat + 1 := by omega
  have s1 : ∀ _ : Unit, k < M.length → ¬ k = j → D ++ [M.getD k.toNat P0] = mvTo M j.toNat x (k + 1).toNat := fun _ h h2 => by
    rw [hD, mvTo_there M j.toNat k.toNat x (by omega) (by omega), hkk]
  have s2 : ∀ _ : Unit, k < M.length → k = j → D ++ [x] ++ [M.getD k.toNat P0] = mvTo M j.toNat x (k + 1).toNat := fun _ h h2 => by
    rw [hD, ← h2, mvTo_here M k.toNat x (by omega), hkk]
  have s3 : ∀ _ : Unit, ¬ k < M.length → k ≤ M.length → k = j → D ++ [x] = mvTo M j.toNat x (k + 1).toNat := fun _ h h1 h2 => by
    rw [hD, ← h2, show k.toNat = M.length by omega, mvTo_end, hkk, show k.toNat = M.length by omega]
  have s4 : ∀ _ : Unit, ¬ k < M.length → k ≤ M.length → ¬ k = j → D = mvTo M j.toNat x (k + 1).toNat := fun _ h h1 h2 => by
    rw [hD, show k.toNat = M.length by omega, mvTo_stop M j.toNat x (by omega), hkk, show k.toNat = M.length by omega]
  obtain ⟨y, hy⟩ : ∃ y, M.getD k.toNat P0 = y := ⟨_, rfl⟩
  rw [hy] at s1 s2
  repeat' (first | (refine wl hE rfl ?_; first | ((first | refine qm hE ?_ | refine qa hE ?_ | refine qb hE ?_ | refine qFF hE ?_ | refine qf hE ?_ | refine ql hE hS ?_ | refine qn hE ?_ | refine qe hE ?_ | refine qpt hE ?_ | refine qpf hE ?_ | refine qu hE ?_ | refine qn1 hE ?_ | refine qns hE ?_ | refine qL hE hS ?_ | refine qbu hE ?_ | refine qF hE ?_ | refine qnf hE ?_ | refine qmin hE ?_ | refine qmax hE ?_ | refine qssh hE ?_ | refine qix1 hE ?_ | refine qix hE ?_ | refine qia hE ?_ | refine qbA hE ?_ | refine qbE hE ?_ | refine qbN hE ?_ | refine qcv hE ?_ | refine qfd1 hE ?_ | refine qfd hE ?_ | refine qi hE (fun _ => rfl) ?_ | refine qlr hE hS ?_ | refine qb2 hE ?_ | refine qng hE ?_ | refine qpn hE ?_ | refine qi hE hA ?_ | refine qlR (df := P0) (us := y.cells) (l := M) hE hS plen (by rw [hy]) ?_); clear hE; clear a; intro a hE) | ((first | refine qst0 hE hS ?_ | refine qst hE hS ?_); clear hS; intro w hS) | ((first | refine qal hE hS ?_ | refine qbx hE hS ?_ | refine qbs1 hE hS ?_ | refine qbs hE hS ?_ | refine qbs0 hE hS ?_); clear hE hS; clear a; intro g a w hE hS) | ((refine qap (A := A3) (k := D.length) (N := D.length + 1) (xs := D.flatMap Pkt.cells) (ys := (D ++ [x]).flatMap Pkt.cells) hE hS (Rd.row (n := 1) (xs := x.cells) hS) (fun u hu => pkt_one [x] u (by simpa using hu)) ?_ (hY := snoc_cells D x); clear hE hS; clear a; intro A4 c4 a w hE hS)) | ((refine qap (A := A3) (N := D.length + 1) (ys := (D ++ [y]).flatMap Pkt.cells) hE hS (Rd.row (n := 1) (xs := y.cells) hS) (fun u hu => pkt_one [y] u (by simpa using hu)) ?_ (hY := snoc_cells D y); clear hE hS; clear a; intro A4 c4 a w hE hS)) | ((refine qap (A := A4) (N := D.length + 1 + 1) (ys := (D ++ [x] ++ [y]).flatMap Pkt.cells) hE hS (Rd.row (n := 1) (xs := y.cells) hS) (fun u hu => pkt_one [y] u (by simpa using hu)) ?_ (hY := snoc_cells (D ++ [x]) y); clear hE hS; clear a; intro A5 c5 a w hE hS))) | refine c_reg ?_ | refine wl_nil ?_ | refine then_n ?_ | refine c_block ?_ | refine c_skip ?_ | refine c_exit ?_ | refine c_ret ?_ | refine then_r ?_ | refine then_e ?_ | refine inb_n ?_ | refine inb_r ?_ | refine inb_e ?_ | refine inb_o rfl ?_ | refine c_cond_t hE rfl ?_ | refine c_cond_f hE rfl ?_ | refine c_rnd ?_ | refine c_seq ?_ | (refine wl_skip hE rfl rfl rfl ?_; clear hE; clear a; intro a hE) | ((refine wl_splitg hE rfl rfl ?_ ?_) <;> (clear hE; intro hb hE; (first | replace hb := of_decide_eq_true hb | replace hb := of_decide_eq_false hb | (simp only [Bool.not_eq_true', Bool.not_eq_false', decide_eq_true_eq, decide_eq_false_iff_not] at hb) | skip); try (exfalso; first | omega | exact absurd trivial hb | exact absurd rfl hb))) | ((refine c_cond hE rfl ?_ ?_) <;> (intro hb; (first | replace hb := of_decide_eq_true hb | replace hb := of_decide_eq_false hb | (simp only [Bool.not_eq_true', Bool.not_eq_false', decide_eq_true_eq, decide_eq_false_iff_not] at hb) | skip); try (exfalso; first | omega | exact absurd trivial hb | exact absurd rfl hb))))
  · have e := s2 () (by omega) (by omega)
    have e2 : (D ++ [x] ++ [y]).length = D.length + 1 + 1 := by simp
    rw [← e2] at hS hE
    exact ⟨_, by omega, k + 1, by omega, by omega, rfl, D ++ [x] ++ [y], gB, A5, c5, e, hE.cut ⟨rfl, rfl, rfl, rfl, rfl, trivial⟩, hS.fit⟩
  · have e := s3 () (by omega) (by omega) (by omega)
    have e2 : (D ++ [x]).length = D.length + 1 := by simp
    rw [← e2] at hS hE
    exact ⟨_, by omega, k + 1, by omega, by omega, rfl, D ++ [x], gB, A4, c4, e, hE.cut ⟨rfl, rfl, rfl, rfl, rfl, trivial⟩, hS.fit⟩
  · have e := s1 () (by omega) (by omega)
    have e2 : (D ++ [y]).length = D.length + 1 := by simp
    rw [← e2] at hS hE
    exact ⟨_, by omega, k + 1, by omega, by omega, rfl, D ++ [y], gB, A4, c4, e, hE.cut ⟨rfl, rfl, rfl, rfl, rfl, trivial⟩, hS.fit⟩
  · have e := s4 () (by omega) (by omega) (by omega)
    exact ⟨_, by omega, k + 1, by omega, by omega, rfl, D, gB, A3, c3, e, hE.cut ⟨rfl, rfl, rfl, rfl, rfl, trivial⟩, hS.fit⟩
  · subst hg0
    have e : D = insAt M j.toNat x := by rw [hD, show k.toNat = M.length + 1 by omega, mvTo_all _ _ _ (by omega)]
    refine p_ret hE rfl rfl ⟨_, rfl, by rw [if_pos ⟨hi, hj⟩], ?_⟩
    rw [if_pos ⟨hi, hj⟩, ← e]
    exact Wr.in_ hS.fit
end Go.Proofs.Ytgfhpkoabliamaa

/- DERIVED. The law WiresDoes. No condition. -/
import Derived.Test.YtgfhpkoabliamaaW12
import Derived.Test.YtgfhpkoabliamaaW7
namespace Go.Proofs.Ytgfhpkoabliamaa
open Go.RowKit Go.Sx Go.Proofs.YtgfhpkoabliamaaTy Go.Proofs.YtgfhpkoabliamaaOp
set_option linter.unusedVariables false
set_option linter.unusedSimpArgs false
set_option maxRecDepth 100000
attribute [local irreducible] Oper.wp Code.wp wpList wpAnyH Calls bodyPost Exit.then Exit.inBlock Code.rounds
set_option maxHeartbeats 2000000
structure OpR where
  k : Int
  i : Int
  to_ : Int
  x : Pkt
def OpR.cells (o : OpR) : List Value := [.int .i64 o.k, .int .i64 o.i, .int .i64 o.to_, .int .i64 o.x.fr, .string o.x.s]
def O0 : OpR := ⟨0, 0, 0, P0⟩
theorem olen (o : OpR) : o.cells.length = 5 := rfl
section
variable (g : Nat) (l m : List Pkt) (room : Int) (u0 w0 : World) (L : List Asn) (hl : l.length ≤ 1073741822)
include hl
theorem put_v (x : Pkt) (r : Int) (hS0 : Sep u0 w0 (Wr 52 g l room :: L)) (hr : (if room ≤ l.length then 250 else 0) = r) (hm : (if room ≤ l.length then l else l ++ [x]) = m) : Calls Try.prog 11 #[.pointer (some ⟨g, 0, none⟩), .agg x.cells.toArray] w0 fun e w' => ∃ v, e = .returned v ∧ v = .int .i64 r ∧ Sep u0 w' (Wr 52 g m room :: L) := by
  subst hr hm
  exact put_s g l room x u0 w0 L hS0 (by omega)
theorem refput_v (x : Pkt) (r : Int) (hS0 : Sep u0 w0 (Wr 49 g l room :: L)) (hr : (if room ≤ l.length then 250 else 0) = r) (hm : (if room ≤ l.length then l else l ++ [x]) = m) : Calls Try.prog 17 #[.pointer (some ⟨g, 0, none⟩), .agg x.cells.toArray] w0 fun e w' => ∃ v, e = .returned v ∧ v = .int .i64 r ∧ Sep u0 w' (Wr 49 g m room :: L) := by
  subst hr hm
  exact refput_s g l room x u0 w0 L hS0 (by omega)
theorem put_a (x : Pkt) (hS0 : Sep u0 w0 (Wr 52 g l room :: L)) : Calls Try.prog 11 #[.pointer (some ⟨g, 0, none⟩), .agg x.cells.toArray] w0 fun e w' => ∃ v, e = .returned v ∧ ∃ m, Sep u0 w' (Wr 52 g m room :: L) :=
  (put_s g l room x u0 w0 L hS0 (by omega)).mono fun e w' ⟨v, h1, _, h2⟩ => ⟨v, h1, _, h2⟩
theorem take_v (i : Int) (x : Pkt) (r : Int) (hS0 : Sep u0 w0 (Wr 52 g l room :: L)) (hx : (if 0 ≤ i ∧ i < l.length then l.getD i.toNat P0 else P0) = x) (hr : (if 0 ≤ i ∧ i < l.length then 0 else 251) = r) (hm : (if 0 ≤ i ∧ i < l.length then l.eraseIdx i.toNat else l) = m) : Calls Try.prog 16 #[.pointer (some ⟨g, 0, none⟩), .int .i64 i] w0 fun e w' => ∃ v, e = .returned v ∧ v = .tuple #[.agg #[.int .i64 x.fr, .string x.s], .int .i64 r] ∧ Sep u0 w' (Wr 52 g m room :: L) := by
  subst hx hr hm
  exact take_s g l room i u0 w0 L hS0 (by omega)
theorem reftake_v (i : Int) (x : Pkt) (r : Int) (hS0 : Sep u0 w0 (Wr 49 g l room :: L)) (hx : (if 0 ≤ i ∧ i < l.length then l.getD i.toNat P0 else P0) = x) (hr : (if 0 ≤ i ∧ i < l.length then 0 else 251) = r) (hm : (if 0 ≤ i ∧ i < l.length then l.eraseIdx i.toNat else l) = m) : Calls Try.prog 18 #[.pointer (some ⟨g, 0, none⟩), .int .i64 i] w0 fun e w' => ∃ v, e = .returned v ∧ v = .tuple #[.agg #[.int .i64 x.fr, .string x.s], .int .i64 r] ∧ Sep u0 w' (Wr 49 g m room :: L) := by
  subst hx hr hm
  exact reftake_s g l room i u0 w0 L hS0 (by omega)
theorem take_a (i : Int) (hS0 : Sep u0 w0 (Wr 52 g l room :: L)) : Calls Try.prog 16 #[.pointer (some ⟨g, 0, none⟩), .int .i64 i] w0 fun e w' => ∃ v, e = .returned v ∧ ∃ m, m.length ≤ l.length ∧ Sep u0 w' (Wr 52 g m room :: L) :=
  (take_s g l room i u0 w0 L hS0 (by omega)).mono fun e w' ⟨v, h1, _, h2⟩ => ⟨v, h1, _, by split <;> first | exact List.length_eraseIdx_le _ _ | exact Nat.le_refl _, h2⟩
theorem twice_v (i r : Int) (hS0 : Sep u0 w0 (Wr 52 g l room :: L)) (hr : (if 0 ≤ i ∧ i < l.length then (if room ≤ l.length then 250 else 0) else 251) = r) (hm : (if 0 ≤ i ∧ i < l.length then (if room ≤ l.length then l else l ++ [l.getD i.toNat P0]) else l) = m) : Calls Try.prog 13 #[.pointer (some ⟨g, 0, none⟩), .int .i64 i] w0 fun e w' => ∃ v, e = .returned v ∧ v = .int .i64 r ∧ Sep u0 w' (Wr 52 g m room :: L) := by
  subst hr hm
  exact twice_s g l room i u0 w0 L hS0 (by omega)
theorem reftwice_v (i r : Int) (hS0 : Sep u0 w0 (Wr 49 g l room :: L)) (hr : (if 0 ≤ i ∧ i < l.length then (if room ≤ l.length then 250 else 0) else 251) = r) (hm : (if 0 ≤ i ∧ i < l.length then (if room ≤ l.length then l else l ++ [l.getD i.toNat P0]) else l) = m) : Calls Try.prog 19 #[.pointer (some ⟨g, 0, none⟩), .int .i64 i] w0 fun e w' => ∃ v, e = .returned v ∧ v = .int .i64 r ∧ Sep u0 w' (Wr 49 g m room :: L) := by
  subst hr hm
  exact reftwice_s g l room i u0 w0 L hS0 (by omega)
theorem move_v (i j r : Int) (hS0 : Sep u0 w0 (Wr 52 g l room :: L)) (hr : (if (0 ≤ i ∧ i < l.length) ∧ (0 ≤ j ∧ j < l.length) then 0 else 251) = r) (hm : (if (0 ≤ i ∧ i < l.length) ∧ (0 ≤ j ∧ j < l.length) then insAt (l.eraseIdx i.toNat) j.toNat (l.getD i.toNat P0) else l) = m) : Calls Try.prog 12 #[.pointer (some ⟨g, 0, none⟩), .int .i64 i, .int .i64 j] w0 fun e w' => ∃ v, e = .returned v ∧ v = .int .i64 r ∧ Sep u0 w' (Wr 52 g m room :: L) := by
  subst hr hm
  exact move_s g l room i j u0 w0 L hS0 (by omega)
theorem refmove_v (i j r : Int) (hS0 : Sep u0 w0 (Wr 49 g l room :: L)) (hr : (if (0 ≤ i ∧ i < l.length) ∧ (0 ≤ j ∧ j < l.length) then 0 else 251) = r) (hm : (if (0 ≤ i ∧ i < l.length) ∧ (0 ≤ j ∧ j < l.length) then insAt (l.eraseIdx i.toNat) j.toNat (l.getD i.toNat P0) else l) = m) : Calls Try.prog 20 #[.pointer (some ⟨g, 0, none⟩), .int .i64 i, .int .i64 j] w0 fun e w' => ∃ v, e = .returned v ∧ v = .int .i64 r ∧ Sep u0 w' (Wr 49 g m room :: L) := by
  subst hr hm
  exact refmove_s g l room i j u0 w0 L hS0 (by omega)
end
open Classical in
theorem same_e (A B : Option Addr) (c c2 : Nat) (xs : List Pkt) (w0 : World) (hR : Rd w0 A (xs.flatMap Pkt.cells)) (hR2 : Rd w0 B (xs.flatMap Pkt.cells)) (hl : xs.length ≤ 9223372036854775806) :
    Calls Try.prog 14 #[.slice A xs.length c, .slice B xs.length c2] w0 fun e w' => ∃ r, e = .returned r ∧ r = .bool true ∧ Sep w0 w' [] := by
  have := same_s A B c c2 xs xs w0 hR hR2 hl hl
  rw [decide_eq_true rfl] at this
  exact this
theorem does_law (A : Option Addr) (cap : Nat) (ops : List OpR) (a0 : Int) (w0 : World) (hcap : ops.length ≤ cap) (hR : Rd w0 A (ops.flatMap OpR.cells)) (hlm : ops.length ≤ maxLen) : Calls Try.prog 6 #[.int .i64 a0, .slice A ops.length cap] w0 fun e w' => ∃ rr, e = .returned rr ∧ rr = .bool true ∧ Sep w0 w' [] := by
  have hA : (0 : Int) < ops.length → A = some (adr A) := fun h => hR.some (by rw [flat_len olen]; omega)
  have hT := hR.at_
  have hmax : maxLen ≤ 9223372036854775807 := by decide
  have hrm : bAnd .i64 a0 7 = a0 % 8 := bAnd_mask a0 3 (by decide)
  obtain ⟨room, hroom⟩ : ∃ room, room = 1 + bAnd .i64 a0 7 := ⟨_, rfl⟩
  have hr1 : 1 ≤ room := by omega
  have hr8 : room ≤ 8 := by omega
  refine enter (args := [.int .i64 a0, .slice A ops.length cap]) 168 Try.func6 rfl rfl rfl ?_
  intro a hE hS
  repeat' (first | (refine wl hE rfl ?_; first | ((first | refine qm hE ?_ | refine qa hE ?_ | refine qb hE ?_ | refine qFF hE ?_ | refine qf hE ?_ | refine ql hE hS ?_ | refine qn hE ?_ | refine qe hE ?_ | refine qpt hE ?_ | refine qpf hE ?_ | refine qu hE ?_ | refine qn1 hE ?_ | refine qns hE ?_ | refine qL hE hS ?_ | refine qbu hE ?_ | refine qF hE ?_ | refine qnf hE ?_ | refine qmin hE ?_ | refine qmax hE ?_ | refine qssh hE ?_ | refine qix1 hE ?_ | refine qix hE ?_ | refine qia hE ?_ | refine qbA hE ?_ | refine qbE hE ?_ | refine qbN hE ?_ | refine qcv hE ?_ | refine qfd1 hE ?_ | refine qfd hE ?_ | refine qi hE (fun _ => rfl) ?_ | refine qlr hE hS ?_ | refine qb2 hE ?_ | refine qng hE ?_ | refine qpn hE ?_); clear hE; clear a; intro a hE) | ((first | refine qst0 hE hS ?_ | refine qst hE hS ?_); clear hS; intro w hS) | ((first | refine qal hE hS ?_ | refine qbx hE hS ?_ | refine qbs1 hE hS ?_ | refine qbs hE hS ?_ | refine qbs0 hE hS ?_); clear hE hS; clear a; intro g a w hE hS) | ((refine is_call 7 rfl ?_; refine qc hE (new_k (1 + bAnd .i64 a0 7) (by omega) _) ?_; rw [← hroom]; clear hE; clear a; rintro _ a w ⟨g1, rfl, hS1⟩ hE; replace hS := hS.then hS1; clear hS1)) | ((refine is_call 8 rfl ?_; refine qc hE (refnew_k (1 + bAnd .i64 a0 7) (by omega) _) ?_; rw [← hroom]; clear hE; clear a; rintro _ a w ⟨g2, rfl, hS1⟩ hE; replace hS := hS.then hS1; clear hS1))) | refine c_reg ?_ | refine wl_nil ?_ | refine then_n ?_ | refine c_block ?_ | refine c_skip ?_ | refine c_exit ?_ | refine c_ret ?_ | refine then_r ?_ | refine then_e ?_ | refine inb_n ?_ | refine inb_r ?_ | refine inb_e ?_ | refine inb_o rfl ?_ | refine c_cond_t hE rfl ?_ | refine c_cond_f hE rfl ?_ | refine c_rnd ?_ | refine c_seq ?_ | (refine wl_skip hE rfl rfl rfl ?_; clear hE; clear a; intro a hE) | ((refine wl_splitg hE rfl rfl ?_ ?_) <;> (clear hE; intro hb hE; (first | replace hb := of_decide_eq_true hb | replace hb := of_decide_eq_false hb | (simp only [Bool.not_eq_true', Bool.not_eq_false', decide_eq_true_eq, decide_eq_false_iff_not] at hb) | skip); try (exfalso; first | omega | exact absurd trivial hb | exact absurd rfl hb))) | ((refine c_cond hE rfl ?_ ?_) <;> (intro hb; (first | replace hb := of_decide_eq_true hb | replace hb := of_decide_eq_false hb | (simp only [Bool.not_eq_true', Bool.not_eq_false', decide_eq_true_eq, decide_eq_false_iff_not] at hb) | skip); try (exfalso; first | omega | exact absurd trivial hb | exact absurd rfl hb))))
  refine c_loopN (fun m a w => ∃ i : Int, 0 ≤ i ∧ i ≤ ops.length ∧ m = (ops.length - i).toNat ∧ ∃ (D : List Pkt) (g1 : Nat), D.length ≤ room ∧ Env a 168 [(1, .slice A ops.length cap), (5, .pointer (some ⟨g1, 0, none⟩)), (7, .pointer (some ⟨g2, 0, none⟩)), (9, .int .i64 i)] ∧ Sep w0 w [Wr 52 g1 D room, Wr 49 g2 D room]) _ ⟨0, by omega, by omega, rfl, [], g1, by simp; omega, hE.cut ⟨rfl, rfl, rfl, rfl, trivial⟩, hS.fit⟩ ?_
  clear hE hS a w
  clear g1
  rintro m a w ⟨i, h0, h1, rfl, D, g1, hD, hE, hS⟩
  obtain ⟨y, hy⟩ : ∃ y, ops.getD i.toNat O0 = y := ⟨_, rfl⟩
  obtain ⟨pr, hpr⟩ : ∃ r, (if room ≤ D.length then (250 : Int) else 0) = r := ⟨_, rfl⟩
  obtain ⟨pm, hpm⟩ : ∃ r, (if room ≤ D.length then D else D ++ [cutP y.x]) = r := ⟨_, rfl⟩
  obtain ⟨tx, htx⟩ : ∃ r, (if 0 ≤ y.i ∧ y.i < D.length then D.getD y.i.toNat P0 else P0) = r := ⟨_, rfl⟩
  obtain ⟨tr, htr⟩ : ∃ r, (if 0 ≤ y.i ∧ y.i < D.length then (0 : Int) else 251) = r := ⟨_, rfl⟩
  obtain ⟨tm, htm⟩ : ∃ r, (if 0 ≤ y.i ∧ y.i < D.length then D.eraseIdx y.i.toNat else D) = r := ⟨_, rfl⟩
  obtain ⟨vr, hvr⟩ : ∃ r, (if 0 ≤ y.i ∧ y.i < D.length then (if room ≤ D.length then (250 : Int) else 0) else 251) = r := ⟨_, rfl⟩
  obtain ⟨vm, hvm⟩ : ∃ r, (if 0 ≤ y.i ∧ y.i < D.length then (if room ≤ D.length then D else D ++ [D.getD y.i.toNat P0]) else D) = r := ⟨_, rfl⟩
  obtain ⟨mr, hmr⟩ : ∃ r, (if (0 ≤ y.i ∧ y.i < D.length) ∧ (0 ≤ y.to_ ∧ y.to_ < D.length) then (0 : Int) else 251) = r := ⟨_, rfl⟩
  obtain ⟨mm, hmm⟩ : ∃ r, (if (0 ≤ y.i ∧ y.i < D.length) ∧ (0 ≤ y.to_ ∧ y.to_ < D.length) then insAt (D.eraseIdx y.i.toNat) y.to_.toNat (D.getD y.i.toNat P0) else D) = r := ⟨_, rfl⟩
  have hpl : (pm.length : Int) ≤ room := by rw [← hpm]; split <;> first | omega | (simp only [List.length_append, List.length_singleton]; omega)
  have htl : (tm.length : Int) ≤ room := by
    rw [← htm]
    split
    · have := List.length_eraseIdx_le D y.i.toNat
      omega
    · exact hD
  have hvl : (vm.length : Int) ≤ room := by rw [← hvm]; split <;> (try split) <;> first | omega | (simp only [List.length_append, List.length_singleton]; omega)
  have hml : (mm.length : Int) ≤ room := by
    rw [← hmm]
    split
    · rename_i h
      have e : (D.eraseIdx y.i.toNat).length = D.length - 1 := List.length_eraseIdx_of_lt (by omega)
      rw [insAt_len _ _ _ (by omega)]
      omega
    · exact hD
  repeat' (first | (refine wl hE rfl ?_; first | ((first | refine qm hE ?_ | refine qa hE ?_ | refine qb hE ?_ | refine qFF hE ?_ | refine qf hE ?_ | refine ql hE hS ?_ | refine qn hE ?_ | refine qe hE ?_ | refine qpt hE ?_ | refine qpf hE ?_ | refine qu hE ?_ | refine qn1 hE ?_ | refine qns hE ?_ | refine qL hE hS ?_ | refine qbu hE ?_ | refine qF hE ?_ | refine qnf hE ?_ | refine qmin hE ?_ | refine qmax hE ?_ | refine qssh hE ?_ | refine qix1 hE ?_ | refine qix hE ?_ | refine qia hE ?_ | refine qbA hE ?_ | refine qbE hE ?_ | refine qbN hE ?_ | refine qcv hE ?_ | refine qfd1 hE ?_ | refine qfd hE ?_ | refine qi hE (fun _ => rfl) ?_ | refine qlr hE hS ?_ | refine qb2 hE ?_ | refine qng hE ?_ | refine qpn hE ?_ | refine qi hE hA ?_ | refine qLs (i := i) (us := y.cells) (df := O0) hE hS olen hT (by rw [hy]) ?_); clear hE; clear a; intro a hE) | ((first | refine qst0 hE hS ?_ | refine qst hE hS ?_); clear hS; intro w hS) | ((first | refine qal hE hS ?_ | refine qbx hE hS ?_ | refine qbs1 hE hS ?_ | refine qbs hE hS ?_ | refine qbs0 hE hS ?_); clear hE hS; clear a; intro g a w hE hS) | ((refine is_call 11 rfl ?_; refine qc hE (put_v g1 D pm room w0 _ _ (by omega) (cutP y.x) pr hS.fit hpr hpm) ?_; clear hE hS; clear a; rintro _ a w ⟨rfl, hS⟩ hE)) | ((refine is_call 17 rfl ?_; refine qc hE (refput_v g2 D pm room w0 _ _ (by omega) (cutP y.x) pr hS.fit hpr hpm) ?_; clear hE hS; clear a; rintro _ a w ⟨rfl, hS⟩ hE)) | ((refine is_call 16 rfl ?_; refine qc hE (take_v g1 D tm room w0 _ _ (by omega) y.i tx tr hS.fit htx htr htm) ?_; clear hE hS; clear a; rintro _ a w ⟨rfl, hS⟩ hE)) | ((refine is_call 18 rfl ?_; refine qc hE (reftake_v g2 D tm room w0 _ _ (by omega) y.i tx tr hS.fit htx htr htm) ?_; clear hE hS; clear a; rintro _ a w ⟨rfl, hS⟩ hE)) | ((refine is_call 13 rfl ?_; refine qc hE (twice_v g1 D vm room w0 _ _ (by omega) y.i vr hS.fit hvr hvm) ?_; clear hE hS; clear a; rintro _ a w ⟨rfl, hS⟩ hE)) | ((refine is_call 19 rfl ?_; refine qc hE (reftwice_v g2 D vm room w0 _ _ (by omega) y.i vr hS.fit hvr hvm) ?_; clear hE hS; clear a; rintro _ a w ⟨rfl, hS⟩ hE)) | ((refine is_call 12 rfl ?_; refine qc hE (move_v g1 D mm room w0 _ _ (by omega) y.i y.to_ mr hS.fit hmr hmm) ?_; clear hE hS; clear a; rintro _ a w ⟨rfl, hS⟩ hE)) | ((refine is_call 20 rfl ?_; refine qc hE (refmove_v g2 D mm room w0 _ _ (by omega) y.i y.to_ mr hS.fit hmr hmm) ?_; clear hE hS; clear a; rintro _ a w ⟨rfl, hS⟩ hE)) | ((refine is_call 21 rfl ?_; refine qc hE (copy_s g1 D room w0 _ _ hS.fit (by omega)) ?_; clear hE hS; clear a; rintro _ a w ⟨gn, rfl, hS⟩ hE)) | ((refine is_call 16 rfl ?_; refine qc hE (take_a g1 D room w0 _ _ (by omega) 0 hS.fit) ?_; clear hE hS; clear a; rintro _ a w ⟨mo, hmo, hS⟩ hE)) | ((refine is_call 11 rfl ?_; refine qc hE (put_a g1 mo room w0 _ _ (by omega) (cutP y.x) hS.fit) ?_; clear hE hS; clear a; rintro _ a w ⟨mp, hS⟩ hE)) | ((refine is_call 9 rfl ?_; refine qc hE (all_f g3 M room w0 _ _ hS.fit (by omega)) ?_; clear hE hS; clear a; rintro _ a w ⟨A3, c3, rfl, hS⟩ hE; obtain ⟨A4, c4, hS2⟩ := Wr.out (t := 49) (g := g2) (l := M) hS; replace hS := hS2; clear hS2)) | ((refine qc hE (same_e A3 A4 c3 c4 M _ (Rd.row (A := A3) (n := M.length) (c := c3) hS) (Rd.row (A := A4) (n := M.length) (c := c4) hS) (by omega)) ?_; clear hE; clear a; rintro _ a w ⟨rfl, hS1⟩ hE; replace hS := hS.then hS1; clear hS1)) | (refine is_call 10 rfl ?_; refine qc hE (fixed_s _) ?_; clear hE; clear a; rintro _ a w ⟨rfl, hS1⟩ hE; replace hS := hS.then hS1; clear hS1)) | refine c_reg ?_ | refine wl_nil ?_ | refine then_n ?_ | refine c_block ?_ | refine c_skip ?_ | refine c_exit ?_ | refine c_ret ?_ | refine then_r ?_ | refine then_e ?_ | refine inb_n ?_ | refine inb_r ?_ | refine inb_e ?_ | refine inb_o rfl ?_ | refine c_cond_t hE rfl ?_ | refine c_cond_f hE rfl ?_ | refine c_rnd ?_ | (refine c_midb2 (id := 2) (I := fun a w => ∃ (g3 : Nat) (b : Int) (M : List Pkt), (M.length : Int) ≤ room ∧ Env a 168 [(1, .slice A ops.length cap), (5, .pointer (some ⟨g3, 0, none⟩)), (7, .pointer (some ⟨g2, 0, none⟩)), (9, .int .i64 i), (11, .int .i64 b), (12, .int .i64 b)] ∧ Sep w0 w [Wr 52 g3 M room, Wr 49 g2 M room]) ?_ ?_; rotate_left; clear hE hS; clear a w; rintro a w ⟨g3, b, M, hM, hE, hS⟩; skip) | refine c_seq ?_ | (refine wl_skip hE rfl rfl rfl ?_; clear hE; clear a; intro a hE) | ((refine wl_splitg hE rfl rfl ?_ ?_) <;> (clear hE; intro hb hE; (first | replace hb := of_decide_eq_true hb | replace hb := of_decide_eq_false hb | (simp only [Bool.not_eq_true', Bool.not_eq_false', decide_eq_true_eq, decide_eq_false_iff_not] at hb) | skip); try (exfalso; first | omega | exact absurd trivial hb | exact absurd rfl hb))) | ((refine c_cond hE rfl ?_ ?_) <;> (intro hb; (first | replace hb := of_decide_eq_true hb | replace hb := of_decide_eq_false hb | (simp only [Bool.not_eq_true', Bool.not_eq_false', decide_eq_true_eq, decide_eq_false_iff_not] at hb) | skip); try (exfalso; first | omega | exact absurd trivial hb | exact absurd rfl hb))))
  all_goals try first | exact ⟨g1, pr, pm, hpl, hE.cut ⟨rfl, rfl, rfl, rfl, rfl, rfl, trivial⟩, hS.fit⟩ | exact ⟨g1, tr, tm, htl, hE.cut ⟨rfl, rfl, rfl, rfl, rfl, rfl, trivial⟩, hS.fit⟩ | exact ⟨g1, vr, vm, hvl, hE.cut ⟨rfl, rfl, rfl, rfl, rfl, rfl, trivial⟩, hS.fit⟩ | exact ⟨g1, mr, mm, hml, hE.cut ⟨rfl, rfl, rfl, rfl, rfl, rfl, trivial⟩, hS.fit⟩ | exact ⟨g1, 0, D, hD, hE.cut ⟨rfl, rfl, rfl, rfl, rfl, rfl, trivial⟩, hS.fit⟩ | exact ⟨gn, 0, D, hD, hE.cut ⟨rfl, rfl, rfl, rfl, rfl, rfl, trivial⟩, hS.fit⟩
  · refine c_loopN (fun m a w => ∃ j : Int, 0 ≤ j ∧ j ≤ M.length ∧ m = (M.length - j).toNat ∧ ∃ (N : List Pkt), N.length = M.length ∧ Env a 168 [(1, .slice A ops.length cap), (5, .pointer (some ⟨g3, 0, none⟩)), (7, .pointer (some ⟨g2, 0, none⟩)), (9, .int .i64 i), (18, .slice A3 M.length c3), (19, .int .i64 j)] ∧ Sep w0 w [row 34 2 (.slice A3 M.length c3) M.length (N.flatMap Pkt.cells), Wr 52 g3 M room, Wr 49 g2 M room]) _ ⟨0, by omega, by omega, rfl, M, rfl, hE.cut ⟨rfl, rfl, rfl, rfl, rfl, rfl, trivial⟩, ?_⟩ ?_
    · have h4 : Sep w0 w (Wr 49 g2 M room :: row 34 2 (.slice A3 M.length c3) M.length (M.flatMap Pkt.cells) :: Wr 52 g3 M room :: []) := Wr.in_ (A := A4) (c := c4) hS.fit
      exact h4.fit
    clear hE hS a w
    rintro m a w ⟨j, h2, h3, rfl, N, hN, hE, hS⟩
    have hA3 : (0 : Int) < M.length → A3 = some (adr A3) := fun h => (Rd.row (A := A3) (n := M.length) (c := c3) (xs := N.flatMap Pkt.cells) hS).some (by rw [flat_len plen]; omega)
    repeat' (first | (refine wl hE rfl ?_; first | ((first | refine qm hE ?_ | refine qa hE ?_ | refine qb hE ?_ | refine qFF hE ?_ | refine qf hE ?_ | refine ql hE hS ?_ | refine qn hE ?_ | refine qe hE ?_ | refine qpt hE ?_ | refine qpf hE ?_ | refine qu hE ?_ | refine qn1 hE ?_ | refine qns hE ?_ | refine qL hE hS ?_ | refine qbu hE ?_ | refine qF hE ?_ | refine qnf hE ?_ | refine qmin hE ?_ | refine qmax hE ?_ | refine qssh hE ?_ | refine qix1 hE ?_ | refine qix hE ?_ | refine qia hE ?_ | refine qbA hE ?_ | refine qbE hE ?_ | refine qbN hE ?_ | refine qcv hE ?_ | refine qfd1 hE ?_ | refine qfd hE ?_ | refine qi hE (fun _ => rfl) ?_ | refine qlr hE hS ?_ | refine qb2 hE ?_ | refine qng hE ?_ | refine qpn hE ?_ | refine qi hE hA3 ?_); clear hE; clear a; intro a hE) | ((first | refine qst0 hE hS ?_ | refine qst hE hS ?_); clear hS; intro w hS) | ((first | refine qal hE hS ?_ | refine qbx hE hS ?_ | refine qbs1 hE hS ?_ | refine qbs hE hS ?_ | refine qbs0 hE hS ?_); clear hE hS; clear a; intro g a w hE hS) | ((refine qsR (off := 0) (v := .int .i64 99) (l := N) (i := j) (df := P0) ⟨99, (N.getD j.toNat P0).s⟩ hE hS plen rfl ?_; clear hS; intro w hS))) | refine c_reg ?_ | refine wl_nil ?_ | refine then_n ?_ | refine c_block ?_ | refine c_skip ?_ | refine c_exit ?_ | refine c_ret ?_ | refine then_r ?_ | refine then_e ?_ | refine inb_n ?_ | refine inb_r ?_ | refine inb_e ?_ | refine inb_o rfl ?_ | refine c_cond_t hE rfl ?_ | refine c_cond_f hE rfl ?_ | refine c_rnd ?_ | refine c_seq ?_ | (refine wl_skip hE rfl rfl rfl ?_; clear hE; clear a; intro a hE) | ((refine wl_splitg hE rfl rfl ?_ ?_) <;> (clear hE; intro hb hE; (first | replace hb := of_decide_eq_true hb | replace hb := of_decide_eq_false hb | (simp only [Bool.not_eq_true', Bool.not_eq_false', decide_eq_true_eq, decide_eq_false_iff_not] at hb) | skip); try (exfalso; first | omega | exact absurd trivial hb | exact absurd rfl hb))) | ((refine c_cond hE rfl ?_ ?_) <;> (intro hb; (first | replace hb := of_decide_eq_true hb | replace hb := of_decide_eq_false hb | (simp only [Bool.not_eq_true', Bool.not_eq_false', decide_eq_true_eq, decide_eq_false_iff_not] at hb) | skip); try (exfalso; first | omega | exact absurd trivial hb | exact absurd rfl hb))))
    · exact ⟨_, by omega, j + 1, by omega, by omega, rfl, N.set j.toNat ⟨99, (N.getD j.toNat P0).s⟩, by rw [List.length_set, hN], hE.cut ⟨rfl, rfl, rfl, rfl, rfl, rfl, trivial⟩, hS.fit⟩
    · exact ⟨_, by omega, i + 1, by omega, by omega, rfl, M, g3, hM, hE.cut ⟨rfl, rfl, rfl, rfl, trivial⟩, hS.fit⟩
  all_goals exact p_ret hE rfl rfl ⟨_, rfl, rfl, hS.clean⟩
def opOf (x : Int × Int × Int × Int × ByteArray) : OpR := ⟨x.1, x.2.1, x.2.2.1, ⟨x.2.2.2.1, x.2.2.2.2⟩⟩
theorem ops_cells {W : World} {x : T44} {A : Option Addr} {n c : Nat} (K : kd44.K W x [.slice A n c]) : n = (x.map opOf).length ∧ (x.map opOf).length ≤ c ∧ Rd W A ((x.map opOf).flatMap OpR.cells) := by
  obtain ⟨A', c', rs, e, hle, hr, hR⟩ := K
  cases e
  rw [Kn.Rows.flat (f := fun x => OpR.cells (opOf x)) (fun x r h => by obtain ⟨_, _, rfl, rfl, _, _, rfl, rfl, _, _, rfl, rfl, _, _, rfl, rfl, rfl⟩ := h; rfl) x rs hr] at hR
  refine ⟨by simp, by simpa using hle, ?_⟩
  rwa [List.flatMap_map]
theorem wiresDoes_call (W : World) (a0 : Int) (w0 : (Lit.int .i64 a0).wf = true) (x1 : T44) (A1 : Option Addr) (len1 cap1 : Nat) (K1 : kd44.K W x1 [.slice A1 len1 cap1]) (w1 : wf44 x1) : Calls Try.prog 6 #[.int .i64 a0, .slice A1 len1 cap1] W fun e w' => ∃ r, e = .returned r ∧ r = .bool true ∧ Sep W w' [] := by
  obtain ⟨rfl, hc, hR⟩ := ops_cells K1
  exact does_law A1 cap1 _ a0 W hc hR (by rw [List.length_map]; exact w1.1)
end Go.Proofs.Ytgfhpkoabliamaa

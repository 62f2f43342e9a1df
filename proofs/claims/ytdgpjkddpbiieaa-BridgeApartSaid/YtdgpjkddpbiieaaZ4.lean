/- DERIVED. Texts B6, B7, B8, Sk, B9, B10, B11, F14, B18, B19, B20, B21, B22, F15, B23 of this session, put together by a program of it (merge.py). No condition. -/
import Derived.Laws.MakeOwn
import Derived.Test.YtdgpjkddpbiieaaZ3
/- DERIVED. Layer 17: a frame that comes from a gateway. No condition. -/
namespace Go.Proofs.Ytdgpjkddpbiieaa
open Go.RowKit Go.Sx Go.Proofs.YtdgpjkddpbiieaaTy
set_option linter.unusedVariables false
set_option linter.unusedSimpArgs false
set_option maxRecDepth 100000
attribute [local irreducible] Oper.wp Code.wp wpList wpAnyH Calls bodyPost Exit.then Exit.inBlock Code.rounds
set_option maxHeartbeats 2000000
def foreignR (peer vid : Int) (f : Fr) : Int := if (1 ≤ vid ∧ vid ≤ 4094) ∧ peer ≠ 0 then (if mineB f.d = true ∨ ownB f.s = false then 4 else 0) else 3
theorem foreign_s (peer vid : Int) (f : Fr) (w0 : World) : Calls Try.prog 36 #[.int .u32 peer, .int .i64 vid, .agg #[.int .u64 f.d, .int .u64 f.s, .bool f.h, .int .i64 f.p, .bool f.de, .int .i64 f.v, .int .i64 f.t, .string f.b]] w0 fun e w' => ∃ r, e = .returned r ∧ r = .int .i64 (foreignR peer vid f) ∧ Sep w0 w' [] := by
  refine enter (args := [.int .u32 peer, .int .i64 vid, .agg #[.int .u64 f.d, .int .u64 f.s, .bool f.h, .int .i64 f.p, .bool f.de, .int .i64 f.v, .int .i64 f.t, .string f.b]]) 33 Try.func36 rfl rfl rfl ?_
  intro a hE hS
  unfold foreignR
  obtain ⟨mb, hm⟩ : ∃ mb, mineB f.d = mb := ⟨_, rfl⟩
  obtain ⟨os, hos⟩ : ∃ os, ownB f.s = os := ⟨_, rfl⟩
  rw [hm, hos]
  by_cases h1 : 1 ≤ vid ∧ vid ≤ 4094
  · by_cases h2 : peer = 0
    · repeat' (first | refine wl_nil ?_ | refine then_n ?_ | refine c_block ?_ | refine c_skip ?_ | refine c_exit ?_ | refine c_ret ?_ | refine then_r ?_ | refine then_e ?_ | refine inb_r ?_ | refine inb_e ?_ | refine inb_o rfl ?_ | refine c_cond_t hE rfl ?_ | refine c_cond_f hE rfl ?_ | (refine c_regI 0 ?_; all_goals (refine wl hE rfl ?_; refine qbx hE hS ?_; clear hE hS; clear a; intro g a w hE hS); all_goals (refine wl hE rfl ?_; refine qa hE ?_; clear hE a; intro a hE)) | (refine c_regI 1 ?_; all_goals (refine wl hE rfl ?_; refine qa hE ?_; clear hE a; intro a hE)) | (refine c_regI 2 ?_; all_goals (refine wl hE rfl ?_; refine qm hE ?_; clear hE a; intro a hE); all_goals (refine wl hE rfl ?_; refine qb hE ?_; clear hE a; intro a hE); all_goals (refine wl hE rfl ?_; refine qm hE ?_; clear hE a; intro a hE); all_goals ((refine wl_splitg hE rfl rfl ?_ ?_) <;> (clear hE; intro hb hE; (first | replace hb := of_decide_eq_true hb | replace hb := of_decide_eq_false hb | (simp only [Bool.not_eq_true', Bool.not_eq_false', decide_eq_true_eq, decide_eq_false_iff_not] at hb) | skip); try (exfalso; first | omega | exact absurd trivial hb | exact absurd rfl hb | (simp only [beq_self_eq_true, bne_self_eq_false, reduceCtorEq] at hb; done))) <;> (refine wl hE rfl ?_; refine qm hE ?_; clear hE a; intro a hE)); all_goals (refine wl hE rfl ?_; refine qb hE ?_; clear hE a; intro a hE); all_goals (refine wl hE rfl ?_; refine qpt hE ?_; clear hE a; intro a hE)) | (refine c_regI 3 ?_; all_goals (refine wl hE rfl ?_; refine qm hE ?_; clear hE a; intro a hE); all_goals (refine wl hE rfl ?_; refine qb hE ?_; clear hE a; intro a hE); all_goals (refine wl hE rfl ?_; refine qa hE ?_; clear hE a; intro a hE)) | (refine c_regI 4 ?_; all_goals (refine wl hE rfl ?_; refine qm hE ?_; clear hE a; intro a hE); all_goals (refine wl hE rfl ?_; refine qb hE ?_; clear hE a; intro a hE)) | (refine c_regI 6 ?_; all_goals (refine wl hE rfl ?_; refine qm hE ?_; clear hE a; intro a hE)) | (refine c_regI 7 ?_; all_goals (refine wl hE rfl ?_; refine qb hE ?_; clear hE a; intro a hE); all_goals (refine wl hE rfl ?_; refine qa hE ?_; clear hE a; intro a hE)) | (refine c_regI 8 ?_; all_goals (refine wl hE rfl ?_; refine qb hE ?_; clear hE a; intro a hE); all_goals (refine wl hE rfl ?_; refine qa hE ?_; clear hE a; intro a hE)) | (refine c_regI 9 ?_; all_goals (refine wl hE rfl ?_; refine qa hE ?_; clear hE a; intro a hE)) | refine c_seq ?_ | ((refine c_cond hE rfl ?_ ?_) <;> (intro hb; (first | replace hb := of_decide_eq_true hb | replace hb := of_decide_eq_false hb | (simp only [Bool.not_eq_true', Bool.not_eq_false', decide_eq_true_eq, decide_eq_false_iff_not] at hb) | skip); try (exfalso; first | omega | exact absurd trivial hb | exact absurd rfl hb | (simp only [beq_self_eq_true, bne_self_eq_false, reduceCtorEq] at hb; done)))))
      all_goals rw [if_neg (fun h => h.2 h2)]
      all_goals exact p_ret hE rfl rfl ⟨_, rfl, rfl, hS.clean⟩
    · cases mb <;> cases os
      all_goals repeat' (first | refine wl_nil ?_ | refine then_n ?_ | refine c_block ?_ | refine c_skip ?_ | refine c_exit ?_ | refine c_ret ?_ | refine then_r ?_ | refine then_e ?_ | refine inb_e ?_ | refine inb_o rfl ?_ | refine c_cond_t hE rfl ?_ | refine c_cond_f hE rfl ?_ | (refine c_regI 0 ?_; all_goals (refine wl hE rfl ?_; refine qbx hE hS ?_; clear hE hS; clear a; intro g a w hE hS); all_goals (refine wl hE rfl ?_; refine qa hE ?_; clear hE a; intro a hE)) | (refine c_regI 1 ?_; all_goals (refine wl hE rfl ?_; refine qa hE ?_; clear hE a; intro a hE)) | (refine c_regI 2 ?_; all_goals (refine wl hE rfl ?_; refine qm hE ?_; clear hE a; intro a hE); all_goals (refine wl hE rfl ?_; refine qb hE ?_; clear hE a; intro a hE); all_goals (refine wl hE rfl ?_; refine qm hE ?_; clear hE a; intro a hE); all_goals ((refine wl_splitg hE rfl rfl ?_ ?_) <;> (clear hE; intro hb hE; (first | replace hb := of_decide_eq_true hb | replace hb := of_decide_eq_false hb | (simp only [Bool.not_eq_true', Bool.not_eq_false', decide_eq_true_eq, decide_eq_false_iff_not] at hb) | skip); try (exfalso; first | omega | exact absurd trivial hb | exact absurd rfl hb | (simp only [beq_self_eq_true, bne_self_eq_false, reduceCtorEq] at hb; done))) <;> (refine wl hE rfl ?_; refine qm hE ?_; clear hE a; intro a hE)); all_goals (refine wl hE rfl ?_; refine qb hE ?_; clear hE a; intro a hE); all_goals (refine wl hE rfl ?_; refine qpt hE ?_; clear hE a; intro a hE)) | (refine c_regI 3 ?_; all_goals (refine wl hE rfl ?_; refine qm hE ?_; clear hE a; intro a hE); all_goals (refine wl hE rfl ?_; refine qb hE ?_; clear hE a; intro a hE); all_goals (refine wl hE rfl ?_; refine qa hE ?_; clear hE a; intro a hE)) | (refine c_regI 4 ?_; all_goals (refine wl hE rfl ?_; refine qm hE ?_; clear hE a; intro a hE); all_goals (refine wl hE rfl ?_; refine qb hE ?_; clear hE a; intro a hE)) | (refine c_regI 5 ?_; all_goals (refine wl hE rfl ?_; refine qm hE ?_; clear hE a; intro a hE); all_goals (refine wl hE rfl ?_; refine qb hE ?_; clear hE a; intro a hE); all_goals (refine wl hE rfl ?_; refine qa hE ?_; clear hE a; intro a hE)) | (refine c_regI 6 ?_; all_goals (refine wl hE rfl ?_; refine qm hE ?_; clear hE a; intro a hE)) | (refine c_regI 7 ?_; all_goals (refine wl hE rfl ?_; refine qb hE ?_; clear hE a; intro a hE); all_goals (refine wl hE rfl ?_; refine qa hE ?_; clear hE a; intro a hE)) | (refine c_regI 8 ?_; all_goals (refine wl hE rfl ?_; refine qb hE ?_; clear hE a; intro a hE); all_goals (refine wl hE rfl ?_; refine qa hE ?_; clear hE a; intro a hE)) | (refine c_regI 10 ?_; all_goals (refine wl hE rfl ?_; refine qL hE hS ?_; clear hE a; intro a hE); all_goals (refine wl hE rfl ?_; refine is_call 30 rfl ?_; refine qc hE (mine_s f _) ?_; rw [hm]; clear hE; clear a; rintro _ a w ⟨rfl, hS1⟩ hE; replace hS := hS.then hS1; clear hS1); all_goals (refine wl hE rfl ?_; refine qm hE ?_; clear hE a; intro a hE); all_goals (first | (refine wl hE rfl ?_; refine qf hE ?_; clear hE a; intro a hE) | (refine wl_skip hE rfl rfl rfl ?_; clear hE a; intro a hE)); all_goals (first | (refine wl hE rfl ?_; refine ql hE hS ?_; clear hE a; intro a hE) | (refine wl_skip hE rfl rfl rfl ?_; clear hE a; intro a hE)); all_goals (first | (refine wl hE rfl ?_; refine is_call 32 rfl ?_; refine qc hE (own_s f.s _) ?_; rw [hos]; clear hE; clear a; rintro _ a w ⟨rfl, hS1⟩ hE; replace hS := hS.then hS1; clear hS1) | (refine wl_skip hE rfl rfl rfl ?_; clear hE a; intro a hE)); all_goals (first | (refine wl hE rfl ?_; refine qu hE ?_; clear hE a; intro a hE) | (refine wl_skip hE rfl rfl rfl ?_; clear hE a; intro a hE)); all_goals (refine wl hE rfl ?_; first | (refine qpt hE ?_; clear hE a; intro a hE) | (refine qpf hE ?_; clear hE a; intro a hE))) | (refine c_regI 11 ?_; all_goals (refine wl hE rfl ?_; refine qa hE ?_; clear hE a; intro a hE)) | (refine c_regI 12 ?_; all_goals (refine wl hE rfl ?_; refine qa hE ?_; clear hE a; intro a hE)) | refine c_seq ?_ | ((refine c_cond hE rfl ?_ ?_) <;> (intro hb; (first | replace hb := of_decide_eq_true hb | replace hb := of_decide_eq_false hb | (simp only [Bool.not_eq_true', Bool.not_eq_false', decide_eq_true_eq, decide_eq_false_iff_not] at hb) | skip); try (exfalso; first | omega | exact absurd trivial hb | exact absurd rfl hb | (simp only [beq_self_eq_true, bne_self_eq_false, reduceCtorEq] at hb; done)))))
      all_goals rw [if_pos ⟨h1, h2⟩]
      all_goals exact p_ret hE rfl rfl ⟨_, rfl, rfl, hS.clean⟩
  · by_cases h2 : peer = 0
    all_goals repeat' (first | refine wl_nil ?_ | refine then_n ?_ | refine c_block ?_ | refine c_skip ?_ | refine c_exit ?_ | refine c_ret ?_ | refine then_r ?_ | refine then_e ?_ | refine inb_n ?_ | refine inb_r ?_ | refine inb_e ?_ | refine inb_o rfl ?_ | refine c_cond_t hE rfl ?_ | refine c_cond_f hE rfl ?_ | (refine c_regI 0 ?_; all_goals (refine wl hE rfl ?_; refine qbx hE hS ?_; clear hE hS; clear a; intro g a w hE hS); all_goals (refine wl hE rfl ?_; refine qa hE ?_; clear hE a; intro a hE)) | (refine c_regI 1 ?_; all_goals (refine wl hE rfl ?_; refine qa hE ?_; clear hE a; intro a hE)) | (refine c_regI 2 ?_; all_goals (refine wl hE rfl ?_; refine qm hE ?_; clear hE a; intro a hE); all_goals (refine wl hE rfl ?_; refine qb hE ?_; clear hE a; intro a hE); all_goals (refine wl hE rfl ?_; refine qm hE ?_; clear hE a; intro a hE); all_goals ((refine wl_splitg hE rfl rfl ?_ ?_) <;> (clear hE; intro hb hE; (first | replace hb := of_decide_eq_true hb | replace hb := of_decide_eq_false hb | (simp only [Bool.not_eq_true', Bool.not_eq_false', decide_eq_true_eq, decide_eq_false_iff_not] at hb) | skip); try (exfalso; first | omega | exact absurd trivial hb | exact absurd rfl hb | (simp only [beq_self_eq_true, bne_self_eq_false, reduceCtorEq] at hb; done))) <;> (first | (refine wl hE rfl ?_; refine qm hE ?_; clear hE a; intro a hE) | (refine wl_skip hE rfl rfl rfl ?_; clear hE a; intro a hE))); all_goals (first | (refine wl hE rfl ?_; refine qb hE ?_; clear hE a; intro a hE) | (refine wl_skip hE rfl rfl rfl ?_; clear hE a; intro a hE)); all_goals (refine wl hE rfl ?_; first | (refine qpt hE ?_; clear hE a; intro a hE) | (refine qpf hE ?_; clear hE a; intro a hE))) | (refine c_regI 4 ?_; all_goals (refine wl hE rfl ?_; refine qm hE ?_; clear hE a; intro a hE); all_goals (refine wl hE rfl ?_; refine qb hE ?_; clear hE a; intro a hE)) | (refine c_regI 5 ?_; all_goals (refine wl hE rfl ?_; refine qm hE ?_; clear hE a; intro a hE); all_goals (refine wl hE rfl ?_; refine qb hE ?_; clear hE a; intro a hE); all_goals (refine wl hE rfl ?_; refine qa hE ?_; clear hE a; intro a hE)) | (refine c_regI 6 ?_; all_goals (refine wl hE rfl ?_; refine qm hE ?_; clear hE a; intro a hE)) | (refine c_regI 7 ?_; all_goals (refine wl hE rfl ?_; refine qb hE ?_; clear hE a; intro a hE); all_goals (refine wl hE rfl ?_; refine qa hE ?_; clear hE a; intro a hE)) | (refine c_regI 8 ?_; all_goals (refine wl hE rfl ?_; refine qb hE ?_; clear hE a; intro a hE); all_goals (refine wl hE rfl ?_; refine qa hE ?_; clear hE a; intro a hE)) | (refine c_regI 9 ?_; all_goals (refine wl hE rfl ?_; refine qa hE ?_; clear hE a; intro a hE)) | refine c_seq ?_ | ((refine c_cond hE rfl ?_ ?_) <;> (intro hb; (first | replace hb := of_decide_eq_true hb | replace hb := of_decide_eq_false hb | (simp only [Bool.not_eq_true', Bool.not_eq_false', decide_eq_true_eq, decide_eq_false_iff_not] at hb) | skip); try (exfalso; first | omega | exact absurd trivial hb | exact absurd rfl hb | (simp only [beq_self_eq_true, bne_self_eq_false, reduceCtorEq] at hb; done)))))
    all_goals rw [if_neg (fun h => h1 h.1)]
    all_goals exact p_ret hE rfl rfl ⟨_, rfl, rfl, hS.clean⟩
/-- What becomes of a frame that comes from a gateway; the table behind it. -/
def fromT (D : List Cfg) (St : List Int) (kp : Kp) (S : List En) (F : Int → List Int) (peer vid : Int) (f : Fr) (now : Int) : Vd × List En × (Int → List Int) :=
  if foreignR peer vid f = 0 then
    let l := learnT kp S F vid f.s 1 peer now
    if l.1 = 4 then (VdW 5, l.2.1, l.2.2)
    else
      let t := findT kp l.2.1 vid f.d now
      let r := sendR D St vid f.bare 0 t.1 t.2
      (if r.2.2.1 = 0 then ⟨0, vid, f.bare, r.2.1, r.2.2.1, false⟩ else VdW 7, l.2.1, l.2.2)
  else (VdW (foreignR peer vid f), S, F)
theorem bfrom_s (gb gt : Nat) (A : Option Addr) (c : Nat) (D : List Cfg) (St : List Int) (S S2 : List En) (F F2 : Int → List Int) (nn : Nat) (kp : Kp) (V : Vd) (peer vid : Int) (f : Fr) (now : Int) (u0 w0 : World) (L : List Asn) (hV : fromT D St kp S F peer vid f now = (V, S2, F2)) (hSt : StI St) (hn : D.length ≤ 64) (hI : FdI S F nn kp) (hnn : nn ≤ 1000000) (hd : 0 ≤ f.d) (hs : 0 ≤ f.s) (hpr : 0 ≤ peer ∧ peer < 4294967296)
    (hS0 : Sep u0 w0 (Bk gb gt A D.length c St :: row 55 3 (.slice A D.length c) D.length (D.flatMap Cfg.cells) :: stars (D.map cfgRow) :: Fd gt S F nn kp :: L)) :
    Calls Try.prog 14 #[.pointer (some ⟨gb, 0, none⟩), .int .u32 peer, .int .i64 vid, .agg #[.int .u64 f.d, .int .u64 f.s, .bool f.h, .int .i64 f.p, .bool f.de, .int .i64 f.v, .int .i64 f.t, .string f.b], .int .i64 now] w0 fun e w' => ∃ r, e = .returned r ∧ ∃ A3 c3 n', r = .agg #[.int .i64 V.what, .int .i64 V.vid, .int .u64 V.f.d, .int .u64 V.f.s, .bool V.f.h, .int .i64 V.f.p, .bool V.f.de, .int .i64 V.f.v, .int .i64 V.f.t, .string V.f.b, .slice A3 V.outs.length c3, .int .u32 V.peer, .bool V.fl] ∧ n' ≤ nn + 1 ∧ FdI S2 F2 n' kp ∧ Sep u0 w' (row 57 9 (.slice A3 V.outs.length c3) V.outs.length (V.outs.flatMap Ot.cells) :: Bk gb gt A D.length c St :: row 55 3 (.slice A D.length c) D.length (D.flatMap Cfg.cells) :: stars (D.map cfgRow) :: Fd gt S2 F2 n' kp :: L) := by
  refine enter (args := [.pointer (some ⟨gb, 0, none⟩), .int .u32 peer, .int .i64 vid, .agg #[.int .u64 f.d, .int .u64 f.s, .bool f.h, .int .i64 f.p, .bool f.de, .int .i64 f.v, .int .i64 f.t, .string f.b], .int .i64 now]) 49 Try.func14 rfl rfl rfl ?_
  intro a hE _
  (have hS := hS0); clear hS0; unfold Bk at hS ⊢; (obtain ⟨g0, hg0⟩ : ∃ g0, g0 = gb := ⟨_, rfl⟩); rw [← hg0] at hE hS ⊢; clear hg0; revert hE; revert hS; generalize w0 = w; intro hS hE
  replace hS : Sep u0 w (row 57 9 (.slice none 0 0) 0 [] :: blk g0 (.slice A D.length c :: (ints St ++ [.pointer (some ⟨gt, 0, none⟩)])) 75 :: row 55 3 (.slice A D.length c) D.length (D.flatMap Cfg.cells) :: stars (D.map cfgRow) :: Fd gt S F nn kp :: L) := hS.nil_row
  have hlen := hSt.1
  unfold fromT at hV
  obtain ⟨fo, hfo⟩ : ∃ fo, foreignR peer vid f = fo := ⟨_, rfl⟩
  rw [hfo] at hV
  by_cases h0 : fo = 0
  · rw [if_pos h0] at hV
    obtain ⟨cc, S3, F3, hle⟩ : ∃ cc S3 F3, learnT kp S F vid f.s 1 peer now = (cc, S3, F3) := ⟨_, _, _, rfl⟩
    rw [hle] at hV
    dsimp only at hV
    by_cases h4 : cc = 4
    · rw [if_pos h4] at hV
      obtain ⟨rfl, rfl, rfl⟩ := hV
      repeat' (first | refine wl_nil ?_ | refine then_n ?_ | refine c_skip ?_ | refine c_ret ?_ | refine then_r ?_ | (refine c_regI 0 ?_; all_goals (refine wl hE rfl ?_; refine qbx hE hS ?_; clear hE hS; clear a; intro g a w hE hS); all_goals (refine wl hE rfl ?_; refine qal hE hS ?_; clear hE hS; clear a; intro g a w hE hS)) | (refine c_regI 1 ?_; all_goals (refine wl hE rfl ?_; refine qm hE ?_; clear hE a; intro a hE); all_goals (refine wl hE rfl ?_; refine qm hE ?_; clear hE a; intro a hE); all_goals (refine wl hE rfl ?_; refine qL hE hS ?_; clear hE a; intro a hE); all_goals (refine wl hE rfl ?_; refine is_call 36 rfl ?_; refine qc hE (foreign_s peer vid f _) ?_; rw [hfo]; clear hE; clear a; rintro _ a w ⟨rfl, hS1⟩ hE; replace hS := hS.then hS1; clear hS1); all_goals (refine wl hE rfl ?_; refine qa hE ?_; clear hE a; intro a hE)) | (refine c_regI 2 ?_; all_goals (refine wl hE rfl ?_; refine qm hE ?_; clear hE a; intro a hE); all_goals (refine wl hE rfl ?_; refine qb hE ?_; clear hE a; intro a hE)) | (refine c_regI 5 ?_; all_goals (refine wl hE rfl ?_; refine qbu hE ?_; clear hE a; intro a hE); all_goals (refine wl hE rfl ?_; refine qst0 hE hS ?_; clear hS; intro w hS)) | refine c_seq ?_ | (refine rg_guard 4 ?_; refine rg_start [0, 8] hE hS ?_; clear hS; (try clear w); intro w hS hX; all_goals (refine rg_y 0 hE hX (by exact y_move) ?_ rfl rfl rfl rfl; clear hE a; intro a hE); all_goals (refine rg_y 1 hE hX (by exact y_nil) ?_ rfl rfl rfl rfl; clear hE a; intro a hE); all_goals (refine rg_y 2 hE hX (by exact y_field) ?_ rfl rfl rfl rfl; clear hE a; intro a hE); all_goals (refine rg_y 3 hE hX (by exact y_load (hv := bk_t hlen)) ?_ rfl rfl rfl rfl; clear hE a; intro a hE); all_goals (refine rg_y 4 hE hX (by exact y_move) ?_ rfl rfl rfl rfl; clear hE a; intro a hE); all_goals (refine rg_y 5 hE hX (by exact y_field) ?_ rfl rfl rfl rfl; clear hE a; intro a hE); all_goals (refine rg_y 6 hE hX (by exact y_load) ?_ rfl rfl rfl rfl; clear hE a; intro a hE); all_goals (refine rg_y 7 hE hX (by exact y_move) ?_ rfl rfl rfl rfl; clear hE a; intro a hE); all_goals (refine rg_y 8 hE hX (by exact y_build) ?_ rfl rfl rfl rfl; clear hE a; intro a hE); all_goals (refine rg_y 9 hE hX (by exact y_move) ?_ rfl rfl rfl rfl; clear hE a; intro a hE); all_goals (refine rg_e 10 hE rfl rfl (by kernel_rfl) ?_; intro K hK; (refine is_call 33 rfl ?_; refine qc hE (learn_v gt S _ F _ nn _ kp vid f.s 1 peer now u0 _ _ hle hS.fit hI hs hpr hnn) ?_; clear hE hS; clear a; rintro _ a w ⟨rfl, n2, hn2, hI2, hS⟩ hE); refine rg_k hK hS ?_; clear hK hX; clear K; intro hX); all_goals (refine rg_y 11 hE hX (by exact y_bin) ?_ rfl rfl rfl rfl; clear hE a; intro a hE); all_goals (refine rg_done ?_ (by kernel_rfl); (try clear hX))) | ((refine c_cond hE rfl ?_ ?_) <;> (intro hb; (first | replace hb := of_decide_eq_true hb | replace hb := of_decide_eq_false hb | (simp only [Bool.not_eq_true', Bool.not_eq_false', decide_eq_true_eq, decide_eq_false_iff_not] at hb) | skip); try (exfalso; first | omega | exact absurd trivial hb | exact absurd rfl hb | (simp only [beq_self_eq_true, bne_self_eq_false, reduceCtorEq] at hb; done)))))
      all_goals exact p_ret1 hE rfl (rc hE hS .nil) ⟨_, rfl, none, 0, n2, rfl, hn2, hI2, hS.fit⟩
    · rw [if_neg h4] at hV
      obtain ⟨v, b, hfi⟩ : ∃ v b, findT kp S3 vid f.d now = (v, b) := ⟨_, _, rfl⟩
      obtain ⟨rw_, M, rp, rf, hr⟩ : ∃ rw_ M rp rf, sendR D St vid f.bare 0 v b = (rw_, M, rp, rf) := ⟨_, _, _, _, rfl⟩
      rw [hfi] at hV
      dsimp only at hV
      rw [hr] at hV
      dsimp only at hV
      by_cases hz : rp = 0
      · rw [if_pos hz] at hV
        obtain ⟨rfl, rfl, rfl⟩ := hV
        repeat' (first | refine wl_nil ?_ | refine then_n ?_ | refine c_skip ?_ | refine c_ret ?_ | (refine c_regI 0 ?_; all_goals (refine wl hE rfl ?_; refine qbx hE hS ?_; clear hE hS; clear a; intro g a w hE hS); all_goals (refine wl hE rfl ?_; refine qal hE hS ?_; clear hE hS; clear a; intro g a w hE hS)) | (refine c_regI 1 ?_; all_goals (refine wl hE rfl ?_; refine qm hE ?_; clear hE a; intro a hE); all_goals (refine wl hE rfl ?_; refine qm hE ?_; clear hE a; intro a hE); all_goals (refine wl hE rfl ?_; refine qL hE hS ?_; clear hE a; intro a hE); all_goals (refine wl hE rfl ?_; refine is_call 36 rfl ?_; refine qc hE (foreign_s peer vid f _) ?_; rw [hfo]; clear hE; clear a; rintro _ a w ⟨rfl, hS1⟩ hE; replace hS := hS.then hS1; clear hS1); all_goals (refine wl hE rfl ?_; refine qa hE ?_; clear hE a; intro a hE)) | (refine c_regI 2 ?_; all_goals (refine wl hE rfl ?_; refine qm hE ?_; clear hE a; intro a hE); all_goals (refine wl hE rfl ?_; refine qb hE ?_; clear hE a; intro a hE)) | (refine c_regI 6 ?_; all_goals (refine wl hE rfl ?_; refine qm hE ?_; clear hE a; intro a hE); all_goals (refine wl hE rfl ?_; refine qL hE hS ?_; clear hE a; intro a hE); all_goals (refine wl hE rfl ?_; refine qbu hE ?_; clear hE a; intro a hE); all_goals (refine wl hE rfl ?_; refine qal hE hS ?_; clear hE hS; clear a; intro g a w hE hS); all_goals (refine wl hE rfl ?_; refine qst0 hE hS ?_; clear hS; intro w hS)) | (refine c_regI 7 ?_; all_goals (refine wl hE rfl ?_; refine qbu hE ?_; clear hE a; intro a hE); all_goals (refine wl hE rfl ?_; refine qf hE ?_; clear hE a; intro a hE); all_goals (refine wl hE rfl ?_; refine qf hE ?_; clear hE a; intro a hE); all_goals (refine wl hE rfl ?_; refine qst hE hS ?_; clear hS; intro w hS)) | (refine c_regI 8 ?_; all_goals (refine wl hE rfl ?_; refine qm hE ?_; clear hE a; intro a hE); all_goals (refine wl hE rfl ?_; refine qm hE ?_; clear hE a; intro a hE); all_goals (refine wl hE rfl ?_; refine is_call 35 rfl ?_; refine qc hE (bsend_v g0 gt _ A c D St vid f.bare _ _ n2 kp 0 now v b _ M rp rf u0 _ _ hr hlen hn hfi hI2 hd (show Sep u0 _ (Bk g0 gt A D.length c St :: _) from hS.fit)) ?_; unfold Bk; clear hE hS; clear a; rintro _ a w ⟨A3, c3, rfl, hS⟩ hE)) | (refine c_regI 9 ?_; all_goals (refine wl hE rfl ?_; refine qf hE ?_; clear hE a; intro a hE); all_goals (refine wl hE rfl ?_; refine ql hE hS ?_; clear hE a; intro a hE); all_goals (refine wl hE rfl ?_; refine qb hE ?_; clear hE a; intro a hE)) | (refine c_regI 11 ?_; all_goals (refine wl hE rfl ?_; refine qf hE ?_; clear hE a; intro a hE); all_goals (refine wl hE rfl ?_; refine qst hE hS ?_; clear hS; intro w hS)) | (refine c_regI 12 ?_; all_goals (refine wl hE rfl ?_; refine qL hE hS ?_; clear hE a; intro a hE); all_goals (refine wl hE rfl ?_; refine qst0 hE hS ?_; clear hS; intro w hS)) | refine c_seq ?_ | (refine rg_guard 4 ?_; refine rg_start [0, 8] hE hS ?_; clear hS; (try clear w); intro w hS hX; all_goals (refine rg_y 0 hE hX (by exact y_move) ?_ rfl rfl rfl rfl; clear hE a; intro a hE); all_goals (refine rg_y 1 hE hX (by exact y_nil) ?_ rfl rfl rfl rfl; clear hE a; intro a hE); all_goals (refine rg_y 2 hE hX (by exact y_field) ?_ rfl rfl rfl rfl; clear hE a; intro a hE); all_goals (refine rg_y 3 hE hX (by exact y_load (hv := bk_t hlen)) ?_ rfl rfl rfl rfl; clear hE a; intro a hE); all_goals (refine rg_y 4 hE hX (by exact y_move) ?_ rfl rfl rfl rfl; clear hE a; intro a hE); all_goals (refine rg_y 5 hE hX (by exact y_field) ?_ rfl rfl rfl rfl; clear hE a; intro a hE); all_goals (refine rg_y 6 hE hX (by exact y_load) ?_ rfl rfl rfl rfl; clear hE a; intro a hE); all_goals (refine rg_y 7 hE hX (by exact y_move) ?_ rfl rfl rfl rfl; clear hE a; intro a hE); all_goals (refine rg_y 8 hE hX (by exact y_build) ?_ rfl rfl rfl rfl; clear hE a; intro a hE); all_goals (refine rg_y 9 hE hX (by exact y_move) ?_ rfl rfl rfl rfl; clear hE a; intro a hE); all_goals (refine rg_e 10 hE rfl rfl (by kernel_rfl) ?_; intro K hK; (refine is_call 33 rfl ?_; refine qc hE (learn_v gt S _ F _ nn _ kp vid f.s 1 peer now u0 _ _ hle hS.fit hI hs hpr hnn) ?_; clear hE hS; clear a; rintro _ a w ⟨rfl, n2, hn2, hI2, hS⟩ hE); refine rg_k hK hS ?_; clear hK hX; clear K; intro hX); all_goals (refine rg_y 11 hE hX (by exact y_bin) ?_ rfl rfl rfl rfl; clear hE a; intro a hE); all_goals (refine rg_done ?_ (by kernel_rfl); (try clear hX))) | ((refine c_cond hE rfl ?_ ?_) <;> (intro hb; (first | replace hb := of_decide_eq_true hb | replace hb := of_decide_eq_false hb | (simp only [Bool.not_eq_true', Bool.not_eq_false', decide_eq_true_eq, decide_eq_false_iff_not] at hb) | skip); try (exfalso; first | omega | exact absurd trivial hb | exact absurd rfl hb | (simp only [beq_self_eq_true, bne_self_eq_false, reduceCtorEq] at hb; done)))))
        all_goals exact p_ret1 hE rfl (rc hE hS .nil) ⟨_, rfl, A3, c3, n2, rfl, hn2, hI2, hS.fit⟩
      · rw [if_neg hz] at hV
        obtain ⟨rfl, rfl, rfl⟩ := hV
        repeat' (first | refine wl_nil ?_ | refine then_n ?_ | refine c_skip ?_ | refine c_ret ?_ | refine then_r ?_ | (refine c_regI 0 ?_; all_goals (refine wl hE rfl ?_; refine qbx hE hS ?_; clear hE hS; clear a; intro g a w hE hS); all_goals (refine wl hE rfl ?_; refine qal hE hS ?_; clear hE hS; clear a; intro g a w hE hS)) | (refine c_regI 1 ?_; all_goals (refine wl hE rfl ?_; refine qm hE ?_; clear hE a; intro a hE); all_goals (refine wl hE rfl ?_; refine qm hE ?_; clear hE a; intro a hE); all_goals (refine wl hE rfl ?_; refine qL hE hS ?_; clear hE a; intro a hE); all_goals (refine wl hE rfl ?_; refine is_call 36 rfl ?_; refine qc hE (foreign_s peer vid f _) ?_; rw [hfo]; clear hE; clear a; rintro _ a w ⟨rfl, hS1⟩ hE; replace hS := hS.then hS1; clear hS1); all_goals (refine wl hE rfl ?_; refine qa hE ?_; clear hE a; intro a hE)) | (refine c_regI 2 ?_; all_goals (refine wl hE rfl ?_; refine qm hE ?_; clear hE a; intro a hE); all_goals (refine wl hE rfl ?_; refine qb hE ?_; clear hE a; intro a hE)) | (refine c_regI 6 ?_; all_goals (refine wl hE rfl ?_; refine qm hE ?_; clear hE a; intro a hE); all_goals (refine wl hE rfl ?_; refine qL hE hS ?_; clear hE a; intro a hE); all_goals (refine wl hE rfl ?_; refine qbu hE ?_; clear hE a; intro a hE); all_goals (refine wl hE rfl ?_; refine qal hE hS ?_; clear hE hS; clear a; intro g a w hE hS); all_goals (refine wl hE rfl ?_; refine qst0 hE hS ?_; clear hS; intro w hS)) | (refine c_regI 7 ?_; all_goals (refine wl hE rfl ?_; refine qbu hE ?_; clear hE a; intro a hE); all_goals (refine wl hE rfl ?_; refine qf hE ?_; clear hE a; intro a hE); all_goals (refine wl hE rfl ?_; refine qf hE ?_; clear hE a; intro a hE); all_goals (refine wl hE rfl ?_; refine qst hE hS ?_; clear hS; intro w hS)) | (refine c_regI 8 ?_; all_goals (refine wl hE rfl ?_; refine qm hE ?_; clear hE a; intro a hE); all_goals (refine wl hE rfl ?_; refine qm hE ?_; clear hE a; intro a hE); all_goals (refine wl hE rfl ?_; refine is_call 35 rfl ?_; refine qc hE (bsend_v g0 gt _ A c D St vid f.bare _ _ n2 kp 0 now v b _ M rp rf u0 _ _ hr hlen hn hfi hI2 hd (show Sep u0 _ (Bk g0 gt A D.length c St :: _) from hS.fit)) ?_; unfold Bk; clear hE hS; clear a; rintro _ a w ⟨A3, c3, rfl, hS⟩ hE)) | (refine c_regI 9 ?_; all_goals (refine wl hE rfl ?_; refine qf hE ?_; clear hE a; intro a hE); all_goals (refine wl hE rfl ?_; refine ql hE hS ?_; clear hE a; intro a hE); all_goals (refine wl hE rfl ?_; refine qb hE ?_; clear hE a; intro a hE)) | (refine c_regI 10 ?_; all_goals (refine wl hE rfl ?_; refine qbu hE ?_; clear hE a; intro a hE); all_goals (refine wl hE rfl ?_; refine qst0 hE hS ?_; clear hS; intro w hS)) | refine c_seq ?_ | (refine rg_guard 4 ?_; refine rg_start [0, 8] hE hS ?_; clear hS; (try clear w); intro w hS hX; all_goals (refine rg_y 0 hE hX (by exact y_move) ?_ rfl rfl rfl rfl; clear hE a; intro a hE); all_goals (refine rg_y 1 hE hX (by exact y_nil) ?_ rfl rfl rfl rfl; clear hE a; intro a hE); all_goals (refine rg_y 2 hE hX (by exact y_field) ?_ rfl rfl rfl rfl; clear hE a; intro a hE); all_goals (refine rg_y 3 hE hX (by exact y_load (hv := bk_t hlen)) ?_ rfl rfl rfl rfl; clear hE a; intro a hE); all_goals (refine rg_y 4 hE hX (by exact y_move) ?_ rfl rfl rfl rfl; clear hE a; intro a hE); all_goals (refine rg_y 5 hE hX (by exact y_field) ?_ rfl rfl rfl rfl; clear hE a; intro a hE); all_goals (refine rg_y 6 hE hX (by exact y_load) ?_ rfl rfl rfl rfl; clear hE a; intro a hE); all_goals (refine rg_y 7 hE hX (by exact y_move) ?_ rfl rfl rfl rfl; clear hE a; intro a hE); all_goals (refine rg_y 8 hE hX (by exact y_build) ?_ rfl rfl rfl rfl; clear hE a; intro a hE); all_goals (refine rg_y 9 hE hX (by exact y_move) ?_ rfl rfl rfl rfl; clear hE a; intro a hE); all_goals (refine rg_e 10 hE rfl rfl (by kernel_rfl) ?_; intro K hK; (refine is_call 33 rfl ?_; refine qc hE (learn_v gt S _ F _ nn _ kp vid f.s 1 peer now u0 _ _ hle hS.fit hI hs hpr hnn) ?_; clear hE hS; clear a; rintro _ a w ⟨rfl, n2, hn2, hI2, hS⟩ hE); refine rg_k hK hS ?_; clear hK hX; clear K; intro hX); all_goals (refine rg_y 11 hE hX (by exact y_bin) ?_ rfl rfl rfl rfl; clear hE a; intro a hE); all_goals (refine rg_done ?_ (by kernel_rfl); (try clear hX))) | ((refine c_cond hE rfl ?_ ?_) <;> (intro hb; (first | replace hb := of_decide_eq_true hb | replace hb := of_decide_eq_false hb | (simp only [Bool.not_eq_true', Bool.not_eq_false', decide_eq_true_eq, decide_eq_false_iff_not] at hb) | skip); try (exfalso; first | omega | exact absurd trivial hb | exact absurd rfl hb | (simp only [beq_self_eq_true, bne_self_eq_false, reduceCtorEq] at hb; done)))))
        all_goals exact p_ret1 hE rfl (rc hE hS .nil) ⟨_, rfl, none, 0, n2, rfl, hn2, hI2, hS.fit⟩
  · rw [if_neg h0] at hV
    obtain ⟨rfl, rfl, rfl⟩ := hV
    repeat' (first | refine wl_nil ?_ | refine then_n ?_ | refine c_ret ?_ | refine then_r ?_ | (refine c_regI 0 ?_; all_goals (refine wl hE rfl ?_; refine qbx hE hS ?_; clear hE hS; clear a; intro g a w hE hS); all_goals (refine wl hE rfl ?_; refine qal hE hS ?_; clear hE hS; clear a; intro g a w hE hS)) | (refine c_regI 1 ?_; all_goals (refine wl hE rfl ?_; refine qm hE ?_; clear hE a; intro a hE); all_goals (refine wl hE rfl ?_; refine qm hE ?_; clear hE a; intro a hE); all_goals (refine wl hE rfl ?_; refine qL hE hS ?_; clear hE a; intro a hE); all_goals (refine wl hE rfl ?_; refine is_call 36 rfl ?_; refine qc hE (foreign_s peer vid f _) ?_; rw [hfo]; clear hE; clear a; rintro _ a w ⟨rfl, hS1⟩ hE; replace hS := hS.then hS1; clear hS1); all_goals (refine wl hE rfl ?_; refine qa hE ?_; clear hE a; intro a hE)) | (refine c_regI 2 ?_; all_goals (refine wl hE rfl ?_; refine qm hE ?_; clear hE a; intro a hE); all_goals (refine wl hE rfl ?_; refine qb hE ?_; clear hE a; intro a hE)) | (refine c_regI 3 ?_; all_goals (refine wl hE rfl ?_; refine qm hE ?_; clear hE a; intro a hE); all_goals (refine wl hE rfl ?_; refine qbu hE ?_; clear hE a; intro a hE); all_goals (refine wl hE rfl ?_; refine qst0 hE hS ?_; clear hS; intro w hS)) | refine c_seq ?_ | ((refine c_cond hE rfl ?_ ?_) <;> (intro hb; (first | replace hb := of_decide_eq_true hb | replace hb := of_decide_eq_false hb | (simp only [Bool.not_eq_true', Bool.not_eq_false', decide_eq_true_eq, decide_eq_false_iff_not] at hb) | skip); try (exfalso; first | omega | exact absurd trivial hb | exact absurd rfl hb | (simp only [beq_self_eq_true, bne_self_eq_false, reduceCtorEq] at hb; done)))))
    exact p_ret1 hE rfl (rc hE hS .nil) ⟨_, rfl, none, 0, nn, rfl, by omega, hI, hS.fit⟩
end Go.Proofs.Ytdgpjkddpbiieaa
/- DERIVED. Layer 17: New. No condition. -/
namespace Go.Proofs.Ytdgpjkddpbiieaa
open Go.RowKit Go.Sx Go.Proofs.YtdgpjkddpbiieaaTy
set_option linter.unusedVariables false
set_option linter.unusedSimpArgs false
set_option maxRecDepth 100000
attribute [local irreducible] Oper.wp Code.wp wpList wpAnyH Calls bodyPost Exit.then Exit.inBlock Code.rounds
set_option maxHeartbeats 2000000
def rightX (x : Cfg) : Bool := rightP x.tr x.pv x.xs
theorem cfg_one (l : List Cfg) : ∀ u ∈ l.flatMap Cfg.cells, u.oneCell' = true := fun u hu => by
  obtain ⟨v, _, hv⟩ := List.mem_flatMap.1 hu
  simp only [Cfg.cells, List.mem_cons, List.not_mem_nil, or_false] at hv
  rcases hv with rfl | rfl | rfl <;> rfl
theorem cfg_snoc (D : List Cfg) (x : Cfg) : D.flatMap Cfg.cells ++ x.cells = (D ++ [x]).flatMap Cfg.cells := by simp
theorem new1_s (x : Cfg) (w0 : World) (hx : CfgR w0 x) : Calls Try.prog 24 #[.agg x.cells.toArray] w0 fun e w' => ∃ r, e = .returned r ∧ r = .bool (!rightX x) ∧ Sep w0 w' [] := by
  refine enter (args := [.agg x.cells.toArray]) 6 Try.func24 rfl rfl rfl ?_
  intro a hE hS
  repeat' (first | refine wl_nil ?_ | refine then_n ?_ | refine c_ret ?_ | (refine c_regI 0 ?_; all_goals (refine wl hE rfl ?_; refine qbx hE hS ?_; clear hE hS; clear a; intro g a w hE hS); all_goals (refine wl hE rfl ?_; refine qa hE ?_; clear hE a; intro a hE)) | (refine c_regI 1 ?_; all_goals (refine wl hE rfl ?_; refine qL hE hS ?_; clear hE a; intro a hE); all_goals (refine wl hE rfl ?_; refine is_call 25 rfl ?_; refine qc hE (right_s x.tr x.pv x.A x.c x.xs _ (hx.1.move hS) hx.2) ?_; clear hE; clear a; rintro _ a w ⟨rfl, hS1⟩ hE; replace hS := hS.then hS1; clear hS1); all_goals (refine wl hE rfl ?_; refine qu hE ?_; clear hE a; intro a hE); all_goals (refine wl hE rfl ?_; refine qa hE ?_; clear hE a; intro a hE)) | refine c_seq ?_)
  exact p_ret hE rfl rfl ⟨_, rfl, rfl, hS.clean⟩
theorem take_noC {l : List Cfg} {p : Cfg → Bool} {i : Int} (h0 : 0 ≤ i) (h1 : i < (l.length : Int)) (hx : ∀ y ∈ l.take i.toNat, p y = true) (hne : p (l.getD i.toNat C0) = true) : ∀ y ∈ l.take (i + 1).toNat, p y = true := by
  intro y hy
  have hlt : i.toNat < l.length := by omega
  rw [show (i + 1).toNat = i.toNat + 1 by omega, List.take_succ_eq_append_getElem hlt] at hy
  rcases List.mem_append.1 hy with h | h
  · exact hx y h
  · simp at h; subst h; simpa [hlt] using hne
theorem indexC_s (A : Option Addr) (c : Nat) (l : List Cfg) (w0 : World) (hR : Rd w0 A (l.flatMap Cfg.cells)) (hl : l.length ≤ 9223372036854775806) (hX : ∀ x ∈ l, CfgR w0 x) :
    Calls Try.prog 43 #[.slice A l.length c, .func (.func 24) #[] #[]] w0 fun e w' => ∃ r, e = .returned r ∧ (∃ k : Int, r = .int .i64 k ∧ ((0 ≤ k ∧ ¬ ∀ x ∈ l, rightX x = true) ∨ (k = -1 ∧ ∀ x ∈ l, rightX x = true))) ∧ Sep w0 w' [] := by
  have hA : (0 : Int) < l.length → A = some (adr A) := fun h => hR.some (by rw [flat_len clen]; omega)
  have hT := hR.at_
  refine enter (args := [.slice A l.length c, .func (.func 24) #[] #[]]) 19 Try.func43 rfl rfl rfl ?_
  intro a hE hS
  repeat' (first | refine wl_nil ?_ | refine then_n ?_ | refine c_block ?_ | (refine c_regI 0 ?_; all_goals (refine wl hE rfl ?_; refine qa hE ?_; clear hE a; intro a hE)) | (refine c_regI 1 ?_; all_goals (refine wl hE rfl ?_; refine qm hE ?_; clear hE a; intro a hE); all_goals (refine wl hE rfl ?_; refine qn1 hE ?_; clear hE a; intro a hE); all_goals (refine wl hE rfl ?_; refine qm hE ?_; clear hE a; intro a hE)) | refine c_seq ?_)
  refine c_loopN (fun m a w => ∃ i : Int, 0 ≤ i ∧ i ≤ l.length ∧ m = (l.length - i).toNat ∧ (∀ y ∈ l.take i.toNat, rightX y = true) ∧ Env a 19 [(0, .slice A l.length c), (1, .func (.func 24) #[] #[]), (7, .int .i64 l.length), (8, .int .i64 i)] ∧ Sep w0 w []) _ ⟨0, by omega, by omega, rfl, by simp, hE.cut ⟨rfl, rfl, rfl, rfl, trivial⟩, hS⟩ ?_
  clear hE hS a
  rintro m a w ⟨i, h0, h1, rfl, hx, hE, hS⟩
  obtain ⟨x, hxd⟩ : ∃ x, l.getD i.toNat C0 = x := ⟨_, rfl⟩
  have hxm : ∀ _ : Unit, i < l.length → x ∈ l := fun _ h => hxd ▸ getD_memC (by omega)
  repeat' (first | refine wl_nil ?_ | refine then_n ?_ | refine c_block ?_ | refine c_skip ?_ | refine c_exit ?_ | refine c_ret ?_ | refine then_r ?_ | refine then_e ?_ | refine inb_n ?_ | refine inb_r ?_ | refine inb_e ?_ | (refine c_regI 2 ?_; all_goals (refine wl hE rfl ?_; refine qb hE ?_; clear hE a; intro a hE)) | (refine c_regI 3 ?_; all_goals (refine wl hE rfl ?_; refine qm hE ?_; clear hE a; intro a hE); all_goals (refine wl hE rfl ?_; refine qa hE ?_; clear hE a; intro a hE)) | (refine c_regI 4 ?_; all_goals (refine wl hE rfl ?_; refine qm hE ?_; clear hE a; intro a hE); all_goals (refine wl hE rfl ?_; refine qm hE ?_; clear hE a; intro a hE); all_goals (refine wl hE rfl ?_; refine qm hE ?_; clear hE a; intro a hE); all_goals (refine wl hE rfl ?_; refine qi hE hA ?_; clear hE a; intro a hE); all_goals (refine wl hE rfl ?_; refine qLs (i := i) (us := x.cells) (df := C0) hE hS clen hT (by rw [hxd]) ?_; clear hE a; intro a hE); all_goals (refine wl hE rfl ?_; refine qcF (vs := [.agg x.cells.toArray]) hE (new1_s x _ ((hX x (hxm () (by omega))).move hS)) ?_; clear hE; clear a; rintro _ a w ⟨rfl, hS1⟩ hE; replace hS := hS.then hS1; clear hS1)) | (refine c_regI 5 ?_; all_goals (refine wl hE rfl ?_; refine qm hE ?_; clear hE a; intro a hE); all_goals (refine wl hE rfl ?_; refine qa hE ?_; clear hE a; intro a hE)) | (refine c_regI 6 ?_; all_goals (refine wl hE rfl ?_; refine qb hE ?_; clear hE a; intro a hE); all_goals (refine wl hE rfl ?_; refine qm hE ?_; clear hE a; intro a hE)) | (refine c_regI 7 ?_; all_goals (refine wl hE rfl ?_; refine qa hE ?_; clear hE a; intro a hE)) | refine c_seq ?_ | ((refine c_cond hE rfl ?_ ?_) <;> (intro hb; (first | replace hb := of_decide_eq_true hb | replace hb := of_decide_eq_false hb | (simp only [Bool.not_eq_true', Bool.not_eq_false', decide_eq_true_eq, decide_eq_false_iff_not] at hb) | skip); try (exfalso; first | omega | exact absurd trivial hb | exact absurd rfl hb | (simp only [beq_self_eq_true, bne_self_eq_false, reduceCtorEq] at hb; done)))))
  · refine p_ret hE rfl rfl ⟨_, rfl, ⟨_, rfl, .inl ⟨by omega, fun h => ?_⟩⟩, hS.clean⟩
    rw [h x (hxm () (by omega))] at hb
    cases hb
  · exact ⟨_, by omega, i + 1, by omega, by omega, rfl, take_noC h0 (by assumption) hx (by rw [hxd]; simpa using hb), hE.cut ⟨rfl, rfl, rfl, rfl, trivial⟩, hS.clean⟩
  · refine p_ret hE rfl rfl ⟨_, rfl, ⟨_, rfl, .inr ⟨rfl, fun y hy => hx y ?_⟩⟩, hS.clean⟩
    rw [List.take_of_length_le (by omega)]
    exact hy
theorem containsC_s (A : Option Addr) (c : Nat) (l : List Cfg) (w0 : World) (hR : Rd w0 A (l.flatMap Cfg.cells)) (hl : l.length ≤ 9223372036854775806) (hX : ∀ x ∈ l, CfgR w0 x) :
    Calls Try.prog 23 #[.slice A l.length c, .func (.func 24) #[] #[]] w0 fun e w' => ∃ r, e = .returned r ∧ r = .bool (!decide (∀ x ∈ l, rightX x = true)) ∧ Sep w0 w' [] := by
  refine enter (args := [.slice A l.length c, .func (.func 24) #[] #[]]) 9 Try.func23 rfl rfl rfl ?_
  intro a hE hS
  repeat' (first | refine wl_nil ?_ | refine then_n ?_ | refine c_ret ?_ | (refine c_regI 0 ?_; all_goals (refine wl hE rfl ?_; refine qa hE ?_; clear hE a; intro a hE)) | (refine c_regI 1 ?_; all_goals (refine wl hE rfl ?_; refine qm hE ?_; clear hE a; intro a hE); all_goals (refine wl hE rfl ?_; refine qm hE ?_; clear hE a; intro a hE); all_goals (refine wl hE rfl ?_; refine is_call 43 rfl ?_; refine qc hE (indexC_s A c l _ (hR.move hS) hl (fun x hx => (hX x hx).move hS)) ?_; clear hE; clear a; rintro _ a w ⟨⟨k, rfl, hk⟩, hS1⟩ hE; replace hS := hS.then hS1; clear hS1); all_goals (refine wl hE rfl ?_; refine qb hE ?_; clear hE a; intro a hE); all_goals (refine wl hE rfl ?_; refine qa hE ?_; clear hE a; intro a hE)) | refine c_seq ?_)
  refine p_ret hE rfl rfl ⟨_, rfl, ?_, hS.clean⟩
  congr 1
  rcases hk with ⟨h1, h2⟩ | ⟨h1, h2⟩
  · rw [decide_eq_false h2, decide_eq_true h1]; rfl
  · rw [decide_eq_true h2, decide_eq_false (by omega)]; rfl
def Cfg.key (x : Cfg) : Bool × Int × List Int := (x.tr, x.pv, x.xs)
theorem ints_ic (xs : List Int) : ints xs = xs.flatMap ic := by
  induction xs with
  | nil => rfl
  | cons x xs ih => simp [ints, ic] at ih ⊢; exact ih
theorem cloneX_s (x : Cfg) (w0 : World) (hx : CfgR w0 x) (hc : x.xs.length ≤ x.c) (hm : x.xs.length ≤ 1073741824) : Calls Try.prog 27 #[.slice x.A x.xs.length x.c] w0 fun e w' => ∃ r, e = .returned r ∧ ∃ y : Cfg, y.key = x.key ∧ r = .slice y.A x.xs.length y.c ∧ Sep w0 w' [row 3 1 (.slice y.A x.xs.length y.c) x.xs.length (ints x.xs)] := by
  refine (cloneI_s x.A x.c x.xs w0 (by rw [← ints_ic]; exact hx.1) hm hc).mono ?_
  rintro e w' ⟨r, h1, A', c', h2, h3⟩
  rw [← ints_ic] at h3
  exact ⟨r, h1, ⟨x.tr, x.pv, A', c', x.xs⟩, rfl, h2, h3⟩
theorem fdnew_yes (kp : Kp) (h : okK kp) (w0 : World) : Calls Try.prog 26 #[.agg #[.int .i64 kp.room, .int .i64 kp.life, .int .i64 kp.moves, .int .i64 kp.win]] w0 fun e w' => ∃ r, e = .returned r ∧ ∃ g, r = .tuple #[.pointer (some ⟨g, 0, none⟩), .int .i64 0] ∧ Sep w0 w' [Fd g [] (fun _ => []) 0 kp] :=
  (fdnew_s kp w0).mono fun e w' ⟨r, h1, h2⟩ => ⟨r, h1, by
    rcases h2 with ⟨h3, _⟩ | ⟨_, h3⟩
    · exact absurd h h3
    · exact h3⟩
theorem fdnew_no (kp : Kp) (h : ¬ okK kp) (w0 : World) : Calls Try.prog 26 #[.agg #[.int .i64 kp.room, .int .i64 kp.life, .int .i64 kp.moves, .int .i64 kp.win]] w0 fun e w' => ∃ r, e = .returned r ∧ r = .tuple #[.pointer none, .int .i64 1] ∧ Sep w0 w' [] :=
  (fdnew_s kp w0).mono fun e w' ⟨r, h1, h2⟩ => ⟨r, h1, by
    rcases h2 with ⟨_, h3⟩ | ⟨h3, _⟩
    · exact h3
    · exact absurd h3 h⟩
def newOk (l : List Cfg) (kp : Kp) : Prop := l.length ≤ 64 ∧ (∀ x ∈ l, rightX x = true) ∧ okK kp
theorem key_take {D : List Cfg} {l : List Cfg} {i : Int} {x y : Cfg} (h0 : 0 ≤ i) (h1 : i < l.length) (hx : l.getD i.toNat C0 = x) (hy : y.key = x.key) (hD : D.map Cfg.key = (l.take i.toNat).map Cfg.key) : (D ++ [y]).map Cfg.key = (l.take (i + 1).toNat).map Cfg.key := by
  have hi : i.toNat < l.length := by omega
  have e : l[i.toNat] = x := by rw [← hx]; simp [hi]
  rw [show (i + 1).toNat = i.toNat + 1 by omega, List.take_succ_eq_append_getElem hi, e, List.map_append, List.map_append, hD]
  simp [hy]
theorem bnew_s (A : Option Addr) (cap : Nat) (l : List Cfg) (kp : Kp) (w0 : World) (hR : Rd w0 A (l.flatMap Cfg.cells)) (hl : l.length ≤ 1073741824) (hX : ∀ x ∈ l, CfgR w0 x ∧ x.xs.length ≤ x.c ∧ x.xs.length ≤ 1073741824) :
    Calls Try.prog 9 #[.slice A l.length cap, .agg #[.int .i64 kp.room, .int .i64 kp.life, .int .i64 kp.moves, .int .i64 kp.win]] w0 fun e w' => ∃ r, e = .returned r ∧ ((¬ newOk l kp ∧ r = .tuple #[.pointer none, .int .i64 1] ∧ Sep w0 w' []) ∨ (newOk l kp ∧ ∃ gb gt A2 c2, ∃ D : List Cfg, D.map Cfg.key = l.map Cfg.key ∧ r = .tuple #[.pointer (some ⟨gb, 0, none⟩), .int .i64 0] ∧ Sep w0 w' [blk gb (.slice A2 D.length c2 :: (ints (List.replicate 65 0) ++ [.pointer (some ⟨gt, 0, none⟩)])) 75, row 55 3 (.slice A2 D.length c2) D.length (D.flatMap Cfg.cells), stars (D.map cfgRow), Fd gt [] (fun _ => []) 0 kp])) := by
  have hA : (0 : Int) < l.length → A = some (adr A) := fun h => hR.some (by rw [flat_len clen]; omega)
  have hT := hR.at_
  refine enter (args := [.slice A l.length cap, .agg #[.int .i64 kp.room, .int .i64 kp.life, .int .i64 kp.moves, .int .i64 kp.win]]) 54 Try.func9 rfl rfl rfl ?_
  intro a hE hS
  by_cases h1 : l.length ≤ 64
  · by_cases h2 : ∀ x ∈ l, rightX x = true
    · by_cases h3 : okK kp
      · repeat' (first | refine wl_nil ?_ | refine then_n ?_ | refine c_block ?_ | refine c_skip ?_ | refine c_cond_f hE rfl ?_ | (refine c_regI 0 ?_; all_goals (refine wl hE rfl ?_; refine qbx hE hS ?_; clear hE hS; clear a; intro g a w hE hS); all_goals (refine wl hE rfl ?_; refine qa hE ?_; clear hE a; intro a hE); all_goals (refine wl hE rfl ?_; refine qa hE ?_; clear hE a; intro a hE)) | (refine c_regI 1 ?_; all_goals (refine wl hE rfl ?_; refine qm hE ?_; clear hE a; intro a hE); all_goals (refine wl hE rfl ?_; refine qn1 hE ?_; clear hE a; intro a hE); all_goals (refine wl hE rfl ?_; refine qb hE ?_; clear hE a; intro a hE); all_goals (refine wl hE rfl ?_; refine qm hE ?_; clear hE a; intro a hE); all_goals ((refine wl_splitg hE rfl rfl ?_ ?_) <;> (clear hE; intro hb hE; (first | replace hb := of_decide_eq_true hb | replace hb := of_decide_eq_false hb | (simp only [Bool.not_eq_true', Bool.not_eq_false', decide_eq_true_eq, decide_eq_false_iff_not] at hb) | skip); try (exfalso; first | omega | exact absurd trivial hb | exact absurd rfl hb | (simp only [beq_self_eq_true, bne_self_eq_false, reduceCtorEq] at hb; done))) <;> (refine wl hE rfl ?_; refine qm hE ?_; clear hE a; intro a hE)); all_goals (refine wl hE rfl ?_; refine is_call 23 rfl ?_; refine qc hE (containsC_s A cap l _ (hR.move hS) (by omega) (fun x hx => (hX x hx).1.move hS)) ?_; rw [decide_eq_true h2]; clear hE; clear a; rintro _ a w ⟨rfl, hS1⟩ hE; replace hS := hS.then hS1; clear hS1); all_goals (refine wl hE rfl ?_; refine qpf hE ?_; clear hE a; intro a hE)) | (refine c_regI 3 ?_; all_goals (refine wl hE rfl ?_; refine qL hE hS ?_; clear hE a; intro a hE); all_goals (refine wl hE rfl ?_; refine is_call 26 rfl ?_; refine qc hE (fdnew_yes kp h3 _) ?_; clear hE; clear a; rintro _ a w ⟨gt, rfl, hS1⟩ hE; replace hS := hS.then hS1; clear hS1); all_goals (refine wl hE rfl ?_; refine qm hE ?_; clear hE a; intro a hE); all_goals (refine wl hE rfl ?_; refine qe hE ?_; clear hE a; intro a hE); all_goals (refine wl hE rfl ?_; refine qe hE ?_; clear hE a; intro a hE); all_goals (refine wl hE rfl ?_; refine qa hE ?_; clear hE a; intro a hE); all_goals (refine wl hE rfl ?_; refine qa hE ?_; clear hE a; intro a hE)) | (refine c_regI 4 ?_; all_goals (refine wl hE rfl ?_; refine qm hE ?_; clear hE a; intro a hE); all_goals (refine wl hE rfl ?_; refine qb hE ?_; clear hE a; intro a hE)) | (refine c_regI 6 ?_; all_goals (refine wl hE rfl ?_; refine qm hE ?_; clear hE a; intro a hE); all_goals (refine wl hE rfl ?_; refine qbu hE ?_; clear hE a; intro a hE); all_goals (refine wl hE rfl ?_; refine qbx hE hS ?_; clear hE hS; clear a; intro g a w hE hS); all_goals (refine wl hE rfl ?_; refine qa hE ?_; clear hE a; intro a hE)) | (refine c_regI 7 ?_; all_goals (refine wl hE rfl ?_; refine qm hE ?_; clear hE a; intro a hE); all_goals (refine wl hE rfl ?_; refine qn1 hE ?_; clear hE a; intro a hE); all_goals (refine wl hE rfl ?_; refine qm hE ?_; clear hE a; intro a hE)) | refine c_seq ?_)
        refine c_loopN (fun m a w => ∃ i : Int, 0 ≤ i ∧ i ≤ l.length ∧ m = (l.length - i).toNat ∧ ∃ (gb : Nat) (D : List Cfg) (A2 : Option Addr) (c2 : Nat), D.map Cfg.key = (l.take i.toNat).map Cfg.key ∧ Env a 54 [(8, .pointer (some ⟨gb, 0, none⟩)), (29, .slice A l.length cap), (30, .int .i64 l.length), (31, .int .i64 i)] ∧ Sep w0 w [blk gb (.slice A2 D.length c2 :: (ints (List.replicate 65 0) ++ [.pointer (some ⟨gt, 0, none⟩)])) 75, row 55 3 (.slice A2 D.length c2) D.length (D.flatMap Cfg.cells), stars (D.map cfgRow), Fd gt [] (fun _ => []) 0 kp]) _ ⟨0, by omega, by omega, rfl, _, [], none, 0, by simp, hE.cut ⟨rfl, rfl, rfl, rfl, trivial⟩, (Sep.in_stars (M := []) (hS.nil_row (e := 55) (sz := 3))).fit⟩ ?_
        clear hE hS a w
        rintro m a w ⟨i, h4, h5, rfl, gb, D, A2, c2, hD, hE, hS⟩
        have hDl : D.length = i.toNat := by
          have := congrArg List.length hD
          simp at this
          omega
        obtain ⟨x, hx⟩ : ∃ x, l.getD i.toNat C0 = x := ⟨_, rfl⟩
        have hxR : ∀ _ : Unit, i < l.length → CfgR w0 x ∧ x.xs.length ≤ x.c ∧ x.xs.length ≤ 1073741824 := fun _ h => hX x (hx ▸ getD_memC (by omega))
        have hst : ∀ _ : Unit, i < l.length → ∀ y : Cfg, y.key = x.key → (D ++ [y]).map Cfg.key = (l.take (i + 1).toNat).map Cfg.key := fun _ h y hy => key_take h4 h hx hy hD
        obtain ⟨g0, hg0⟩ : ∃ g0, g0 = gb := ⟨_, rfl⟩
        rw [← hg0] at hE hS
        repeat' (first | refine wl_nil ?_ | refine then_n ?_ | refine c_block ?_ | refine c_skip ?_ | refine c_exit ?_ | refine c_ret ?_ | refine then_e ?_ | refine inb_n ?_ | refine inb_e ?_ | (refine c_regI 8 ?_; all_goals (refine wl hE rfl ?_; refine qb hE ?_; clear hE a; intro a hE)) | (refine c_regI 9 ?_; all_goals (refine wl hE rfl ?_; refine qi hE hA ?_; clear hE a; intro a hE); all_goals (refine wl hE rfl ?_; refine qLs (i := i) (us := x.cells) (df := C0) hE hS clen hT (by rw [hx]) ?_; clear hE a; intro a hE); all_goals (refine wl hE rfl ?_; refine qal hE hS ?_; clear hE hS; clear a; intro g a w hE hS); all_goals (refine wl hE rfl ?_; refine qst0 hE hS ?_; clear hS; intro w hS)) | (refine c_regI 11 ?_; all_goals (refine wl hE rfl ?_; refine qb hE ?_; clear hE a; intro a hE); all_goals (refine wl hE rfl ?_; refine qm hE ?_; clear hE a; intro a hE)) | (refine c_regI 12 ?_; all_goals (refine wl hE rfl ?_; refine qm hE ?_; clear hE a; intro a hE); all_goals (refine wl hE rfl ?_; refine qa hE ?_; clear hE a; intro a hE); all_goals (refine wl hE rfl ?_; refine qa hE ?_; clear hE a; intro a hE)) | refine c_seq ?_ | (refine rg_guard 10 ?_; refine rl_start 17 [8, 10] hE hS ?_; clear hS; (try clear w); intro w hS hX; all_goals (refine rl_y 0 hE hX (by exact y_move) ?_ rfl rfl rfl rfl; clear hE a; intro a hE); all_goals (refine rl_y 1 hE hX (by exact y_move) ?_ rfl rfl rfl rfl; clear hE a; intro a hE); all_goals (refine rl_y 2 hE hX (by exact y_nil) ?_ rfl rfl rfl rfl; clear hE a; intro a hE); all_goals (refine rl_y 3 hE hX (by exact y_field) ?_ rfl rfl rfl rfl; clear hE a; intro a hE); all_goals (refine rl_y 4 hE hX (by exact y_load) ?_ rfl rfl rfl rfl; clear hE a; intro a hE); all_goals (refine rl_y 5 hE hX (by exact y_field) ?_ rfl rfl rfl rfl; clear hE a; intro a hE); all_goals (refine rl_y 6 hE hX (by exact y_load) ?_ rfl rfl rfl rfl; clear hE a; intro a hE); all_goals (refine rl_y 7 hE hX (by exact y_field) ?_ rfl rfl rfl rfl; clear hE a; intro a hE); all_goals (refine rl_y 8 hE hX (by exact y_load) ?_ rfl rfl rfl rfl; clear hE a; intro a hE); all_goals (refine rl_y 9 hE hX (by exact y_field) ?_ rfl rfl rfl rfl; clear hE a; intro a hE); all_goals (refine rl_y 10 hE hX (by exact y_load) ?_ rfl rfl rfl rfl; clear hE a; intro a hE); all_goals (refine rl_e 11 hE rfl rfl (by kernel_rfl) ?_; intro K hK; (refine is_call 27 rfl ?_; refine qc hE (cloneX_s x _ ((hxR () (by omega)).1.move hS) (hxR () (by omega)).2.1 (hxR () (by omega)).2.2) ?_; clear hE; clear a; rintro _ a w ⟨y, hy, rfl, hS1⟩ hE; replace hS := hS.then hS1; clear hS1); refine rl_k hK hS ?_; clear hK hX; clear K; intro hX); all_goals (refine rl_y 12 hE hX (by exact y_build) ?_ rfl rfl rfl rfl; clear hE a; intro a hE); all_goals (refine rl_e 13 hE rfl rfl (by kernel_rfl) ?_; intro K hK; (refine qbs1 hE hS ?_; clear hE hS; clear a; intro g a w hE hS); refine rl_k hK hS ?_; clear hK hX; clear K; intro hX); all_goals (refine rl_e 14 hE rfl rfl (by kernel_rfl) ?_; intro K hK; (refine qap (A := A2) (c := c2) (N := D.length + 1) (xs := D.flatMap Cfg.cells) (ys := (D ++ [(⟨x.tr, x.pv, y.A, y.c, x.xs⟩ : Cfg)]).flatMap Cfg.cells) hE hS (Rd.row (n := 1) (xs := (⟨x.tr, x.pv, y.A, y.c, x.xs⟩ : Cfg).cells) hS) (fun u hu => cfg_one [(⟨x.tr, x.pv, y.A, y.c, x.xs⟩ : Cfg)] u (by simpa using hu)) ?_ (hY := cfg_snoc D ⟨x.tr, x.pv, y.A, y.c, x.xs⟩); clear hE hS; clear a; intro A3 c3 a w hE hS); refine rl_k hK hS ?_; clear hK hX; clear K; intro hX); all_goals (refine rl_e 15 hE rfl rfl (by kernel_rfl) ?_; intro K hK; (refine qn hE ?_; clear hE a; intro a hE); refine rl_k hK hS ?_; clear hK hX; clear K; intro hX); all_goals (refine rl_y 16 hE hX (by exact y_field) ?_ rfl rfl rfl rfl; clear hE a; intro a hE); all_goals (refine rl_z (z := 17) hE rfl rfl (by kernel_rfl) ?_; intro K hK; (refine qst hE hS ?_; clear hS; intro w hS); refine hK _ _ ?_; clear hK; clear K); all_goals (refine rl_done ?_ (by kernel_rfl); (try clear hX))) | ((refine c_cond hE rfl ?_ ?_) <;> (intro hb; (first | replace hb := of_decide_eq_true hb | replace hb := of_decide_eq_false hb | (simp only [Bool.not_eq_true', Bool.not_eq_false', decide_eq_true_eq, decide_eq_false_iff_not] at hb) | skip); try (exfalso; first | omega | exact absurd trivial hb | exact absurd rfl hb | (simp only [beq_self_eq_true, bne_self_eq_false, reduceCtorEq] at hb; done)))))
        · have e2 : (D ++ [(⟨x.tr, x.pv, y.A, y.c, x.xs⟩ : Cfg)]).length = D.length + 1 := by simp
          rw [← e2] at hS hE
          refine ⟨_, by omega, i + 1, by omega, by omega, rfl, g0, D ++ [(⟨x.tr, x.pv, y.A, y.c, x.xs⟩ : Cfg)], A3, c3, hst () (by omega) _ rfl, hE.cut ⟨rfl, rfl, rfl, rfl, trivial⟩, ?_⟩
          have h5 : Sep w0 w (cfgRow (⟨x.tr, x.pv, y.A, y.c, x.xs⟩ : Cfg) :: stars (D.map cfgRow) :: blk g0 (.slice A3 (D ++ [(⟨x.tr, x.pv, y.A, y.c, x.xs⟩ : Cfg)]).length c3 :: (ints (List.replicate 65 0) ++ [.pointer (some ⟨gt, 0, none⟩)])) 75 :: row 55 3 (.slice A3 (D ++ [(⟨x.tr, x.pv, y.A, y.c, x.xs⟩ : Cfg)]).length c3) (D ++ [(⟨x.tr, x.pv, y.A, y.c, x.xs⟩ : Cfg)]).length ((D ++ [(⟨x.tr, x.pv, y.A, y.c, x.xs⟩ : Cfg)]).flatMap Cfg.cells) :: Fd gt [] (fun _ => []) 0 kp :: []) := hS.fit
          have h6 := h5.stars_snoc
          rw [show D.map cfgRow ++ [cfgRow (⟨x.tr, x.pv, y.A, y.c, x.xs⟩ : Cfg)] = (D ++ [(⟨x.tr, x.pv, y.A, y.c, x.xs⟩ : Cfg)]).map cfgRow by simp] at h6
          exact h6.fit
        · refine p_rets hE rfl (rt hE (rt hE .nil)) rfl ⟨_, rfl, .inr ⟨⟨h1, h2, h3⟩, g0, gt, A2, c2, D, ?_, rfl, hS.fit⟩⟩
          rw [hD, List.take_of_length_le (by omega)]
      · repeat' (first | refine wl_nil ?_ | refine then_n ?_ | refine c_skip ?_ | refine c_ret ?_ | refine then_r ?_ | refine c_cond_t hE rfl ?_ | refine c_cond_f hE rfl ?_ | (refine c_regI 0 ?_; all_goals (refine wl hE rfl ?_; refine qbx hE hS ?_; clear hE hS; clear a; intro g a w hE hS); all_goals (refine wl hE rfl ?_; refine qa hE ?_; clear hE a; intro a hE); all_goals (refine wl hE rfl ?_; refine qa hE ?_; clear hE a; intro a hE)) | (refine c_regI 1 ?_; all_goals (refine wl hE rfl ?_; refine qm hE ?_; clear hE a; intro a hE); all_goals (refine wl hE rfl ?_; refine qn1 hE ?_; clear hE a; intro a hE); all_goals (refine wl hE rfl ?_; refine qb hE ?_; clear hE a; intro a hE); all_goals (refine wl hE rfl ?_; refine qm hE ?_; clear hE a; intro a hE); all_goals ((refine wl_splitg hE rfl rfl ?_ ?_) <;> (clear hE; intro hb hE; (first | replace hb := of_decide_eq_true hb | replace hb := of_decide_eq_false hb | (simp only [Bool.not_eq_true', Bool.not_eq_false', decide_eq_true_eq, decide_eq_false_iff_not] at hb) | skip); try (exfalso; first | omega | exact absurd trivial hb | exact absurd rfl hb | (simp only [beq_self_eq_true, bne_self_eq_false, reduceCtorEq] at hb; done))) <;> (refine wl hE rfl ?_; refine qm hE ?_; clear hE a; intro a hE)); all_goals (refine wl hE rfl ?_; refine is_call 23 rfl ?_; refine qc hE (containsC_s A cap l _ (hR.move hS) (by omega) (fun x hx => (hX x hx).1.move hS)) ?_; rw [decide_eq_true h2]; clear hE; clear a; rintro _ a w ⟨rfl, hS1⟩ hE; replace hS := hS.then hS1; clear hS1); all_goals (refine wl hE rfl ?_; refine qpf hE ?_; clear hE a; intro a hE)) | (refine c_regI 3 ?_; all_goals (refine wl hE rfl ?_; refine qL hE hS ?_; clear hE a; intro a hE); all_goals (refine wl hE rfl ?_; refine is_call 26 rfl ?_; refine qc hE (fdnew_no kp h3 _) ?_; clear hE; clear a; rintro _ a w ⟨rfl, hS1⟩ hE; replace hS := hS.then hS1; clear hS1); all_goals (refine wl hE rfl ?_; refine qm hE ?_; clear hE a; intro a hE); all_goals (refine wl hE rfl ?_; refine qe hE ?_; clear hE a; intro a hE); all_goals (refine wl hE rfl ?_; refine qe hE ?_; clear hE a; intro a hE); all_goals (refine wl hE rfl ?_; refine qa hE ?_; clear hE a; intro a hE); all_goals (refine wl hE rfl ?_; refine qa hE ?_; clear hE a; intro a hE)) | (refine c_regI 4 ?_; all_goals (refine wl hE rfl ?_; refine qm hE ?_; clear hE a; intro a hE); all_goals (refine wl hE rfl ?_; refine qb hE ?_; clear hE a; intro a hE)) | (refine c_regI 5 ?_; all_goals (refine wl hE rfl ?_; refine qm hE ?_; clear hE a; intro a hE); all_goals (refine wl hE rfl ?_; refine qa hE ?_; clear hE a; intro a hE); all_goals (refine wl hE rfl ?_; refine qa hE ?_; clear hE a; intro a hE)) | refine c_seq ?_)
        all_goals exact p_rets hE rfl (rt hE (rt hE .nil)) rfl ⟨_, rfl, .inl ⟨fun h => h3 h.2.2, rfl, hS.clean⟩⟩
    · repeat' (first | refine wl_nil ?_ | refine then_n ?_ | refine c_ret ?_ | refine then_r ?_ | refine c_cond_t hE rfl ?_ | (refine c_regI 0 ?_; all_goals (refine wl hE rfl ?_; refine qbx hE hS ?_; clear hE hS; clear a; intro g a w hE hS); all_goals (refine wl hE rfl ?_; refine qa hE ?_; clear hE a; intro a hE); all_goals (refine wl hE rfl ?_; refine qa hE ?_; clear hE a; intro a hE)) | (refine c_regI 1 ?_; all_goals (refine wl hE rfl ?_; refine qm hE ?_; clear hE a; intro a hE); all_goals (refine wl hE rfl ?_; refine qn1 hE ?_; clear hE a; intro a hE); all_goals (refine wl hE rfl ?_; refine qb hE ?_; clear hE a; intro a hE); all_goals (refine wl hE rfl ?_; refine qm hE ?_; clear hE a; intro a hE); all_goals ((refine wl_splitg hE rfl rfl ?_ ?_) <;> (clear hE; intro hb hE; (first | replace hb := of_decide_eq_true hb | replace hb := of_decide_eq_false hb | (simp only [Bool.not_eq_true', Bool.not_eq_false', decide_eq_true_eq, decide_eq_false_iff_not] at hb) | skip); try (exfalso; first | omega | exact absurd trivial hb | exact absurd rfl hb | (simp only [beq_self_eq_true, bne_self_eq_false, reduceCtorEq] at hb; done))) <;> (refine wl hE rfl ?_; refine qm hE ?_; clear hE a; intro a hE)); all_goals (refine wl hE rfl ?_; refine is_call 23 rfl ?_; refine qc hE (containsC_s A cap l _ (hR.move hS) (by omega) (fun x hx => (hX x hx).1.move hS)) ?_; rw [decide_eq_false h2]; clear hE; clear a; rintro _ a w ⟨rfl, hS1⟩ hE; replace hS := hS.then hS1; clear hS1); all_goals (refine wl hE rfl ?_; refine qpf hE ?_; clear hE a; intro a hE)) | (refine c_regI 2 ?_; all_goals (refine wl hE rfl ?_; refine qa hE ?_; clear hE a; intro a hE); all_goals (refine wl hE rfl ?_; refine qa hE ?_; clear hE a; intro a hE)) | refine c_seq ?_)
      all_goals exact p_rets hE rfl (rt hE (rt hE .nil)) rfl ⟨_, rfl, .inl ⟨fun h => h2 h.2.1, rfl, hS.clean⟩⟩
  · repeat' (first | refine wl_nil ?_ | refine then_n ?_ | refine c_ret ?_ | refine then_r ?_ | refine c_cond_t hE rfl ?_ | (refine c_regI 0 ?_; all_goals (refine wl hE rfl ?_; refine qbx hE hS ?_; clear hE hS; clear a; intro g a w hE hS); all_goals (refine wl hE rfl ?_; refine qa hE ?_; clear hE a; intro a hE); all_goals (refine wl hE rfl ?_; refine qa hE ?_; clear hE a; intro a hE)) | (refine c_regI 1 ?_; all_goals (refine wl hE rfl ?_; refine qm hE ?_; clear hE a; intro a hE); all_goals (refine wl hE rfl ?_; refine qn1 hE ?_; clear hE a; intro a hE); all_goals (refine wl hE rfl ?_; refine qb hE ?_; clear hE a; intro a hE); all_goals (refine wl hE rfl ?_; refine qm hE ?_; clear hE a; intro a hE); all_goals ((refine wl_splitg hE rfl rfl ?_ ?_) <;> (clear hE; intro hb hE; (first | replace hb := of_decide_eq_true hb | replace hb := of_decide_eq_false hb | (simp only [Bool.not_eq_true', Bool.not_eq_false', decide_eq_true_eq, decide_eq_false_iff_not] at hb) | skip); try (exfalso; first | omega | exact absurd trivial hb | exact absurd rfl hb | (simp only [beq_self_eq_true, bne_self_eq_false, reduceCtorEq] at hb; done))) <;> (refine wl_skip hE rfl rfl rfl ?_; clear hE a; intro a hE)); all_goals (refine wl_skip hE rfl rfl rfl ?_; clear hE a; intro a hE); all_goals (refine wl hE rfl ?_; refine qpt hE ?_; clear hE a; intro a hE)) | (refine c_regI 2 ?_; all_goals (refine wl hE rfl ?_; refine qa hE ?_; clear hE a; intro a hE); all_goals (refine wl hE rfl ?_; refine qa hE ?_; clear hE a; intro a hE)) | refine c_seq ?_)
    all_goals exact p_rets hE rfl (rt hE (rt hE .nil)) rfl ⟨_, rfl, .inl ⟨fun h => h1 h.1, rfl, hS.clean⟩⟩
end Go.Proofs.Ytdgpjkddpbiieaa
/- DERIVED. Layer 17: a bridge as one resource; what it does depends on its ports' words alone. No condition. -/
namespace Go.Proofs.Ytdgpjkddpbiieaa
open Go.RowKit Go.Sx Go.Proofs.YtdgpjkddpbiieaaTy
set_option linter.unusedVariables false
set_option linter.unusedSimpArgs false
set_option maxRecDepth 100000
attribute [local irreducible] Oper.wp Code.wp wpList wpAnyH Calls bodyPost Exit.then Exit.inBlock Code.rounds
set_option maxHeartbeats 1000000
def nC (x : Cfg) : Cfg := ⟨x.tr, x.pv, none, 0, x.xs⟩
theorem getD_nC (D : List Cfg) (i : Nat) : (D.map nC).getD i C0 = nC (D.getD i C0) := by
  simp only [List.getD_eq_getElem?_getD, List.getElem?_map]
  cases D[i]? <;> rfl
theorem inC_nC (x : Cfg) (f : Fr) : inC (nC x) f = inC x f := rfl
theorem outC_nC (x : Cfg) (vid : Int) (f : Fr) : outC (nC x) vid f = outC x vid f := rfl
theorem hasC_nC (x : Cfg) (vid : Int) : hasC (nC x) vid = hasC x vid := rfl
theorem portsTo_nC (D : List Cfg) (vid : Int) : ∀ i, portsTo (D.map nC) vid i = portsTo D vid i
  | 0 => rfl
  | i + 1 => by simp only [portsTo, portsTo_nC D vid i, getD_nC, hasC_nC]
theorem outOne_nC (D : List Cfg) (St : List Int) (vid : Int) (f : Fr) (p : Int) : outOne (D.map nC) St vid f p = outOne D St vid f p := by
  simp only [outOne, getD_nC, outC_nC]
theorem sendR_nC (D : List Cfg) (St : List Int) (vid : Int) (f : Fr) (fm : Int) (v : Int × Int) (b : Bool) : sendR (D.map nC) St vid f fm v b = sendR D St vid f fm v b := by
  simp only [sendR, floodOf, outOne_nC, portsTo_nC, List.length_map]
theorem frameT_nC (D : List Cfg) (St : List Int) (kp : Kp) (S : List En) (F : Int → List Int) (port : Int) (f : Fr) (now : Int) : frameT (D.map nC) St kp S F port f now = frameT D St kp S F port f now := by
  simp only [frameT, getD_nC, inC_nC, sendR_nC, List.length_map]
theorem fromT_nC (D : List Cfg) (St : List Int) (kp : Kp) (S : List En) (F : Int → List Int) (peer vid : Int) (f : Fr) (now : Int) : fromT (D.map nC) St kp S F peer vid f now = fromT D St kp S F peer vid f now := by
  simp only [fromT, sendR_nC]
theorem nC_key {D l : List Cfg} (h : D.map Cfg.key = l.map Cfg.key) : D.map nC = l.map nC := by
  have e : nC = (fun k : Bool × Int × List Int => (⟨k.1, k.2.1, none, 0, k.2.2⟩ : Cfg)) ∘ Cfg.key := rfl
  rw [e, ← List.map_map, h, List.map_map]
/-- A bridge: its ports' words, their states, its table. -/
def Br (g : Nat) (D : List Cfg) (St : List Int) (S : List En) (F : Int → List Int) (nn : Nat) (kp : Kp) : Asn :=
  ex fun (p : List Cfg × Nat × Option Addr × Nat) => stars [pur (p.1.map nC = D), Bk g p.2.1 p.2.2.1 p.1.length p.2.2.2 St, row 55 3 (.slice p.2.2.1 p.1.length p.2.2.2) p.1.length (p.1.flatMap Cfg.cells), stars (p.1.map cfgRow), Fd p.2.1 S F nn kp]
theorem Br.out {g : Nat} {D : List Cfg} {St : List Int} {S : List En} {F : Int → List Int} {nn : Nat} {kp : Kp} {w0 w : World} {L L' : List Asn} (hS : Sep w0 w L) (hp : Pull (Br g D St S F nn kp) L L' := by repeat (first | exact Pull.here | apply Pull.there)) :
    ∃ (D0 : List Cfg) (gt : Nat) (A : Option Addr) (c : Nat), D0.map nC = D ∧ Sep w0 w (Bk g gt A D0.length c St :: row 55 3 (.slice A D0.length c) D0.length (D0.flatMap Cfg.cells) :: stars (D0.map cfgRow) :: Fd gt S F nn kp :: L') := by
  obtain ⟨⟨D0, gt, A, c⟩, h⟩ := hS.out_ex hp
  have h2 := h.out_stars Pull.here
  obtain ⟨h3, h4⟩ := h2.out_pur Pull.here
  exact ⟨D0, gt, A, c, h3, h4⟩
theorem Br.in_ {g : Nat} {D0 : List Cfg} {gt : Nat} {A : Option Addr} {c : Nat} {St : List Int} {S : List En} {F : Int → List Int} {nn : Nat} {kp : Kp} {w0 w : World} {L : List Asn} {D : List Cfg} (hD : D0.map nC = D) (hS : Sep w0 w (Bk g gt A D0.length c St :: row 55 3 (.slice A D0.length c) D0.length (D0.flatMap Cfg.cells) :: stars (D0.map cfgRow) :: Fd gt S F nn kp :: L)) : Sep w0 w (Br g D St S F nn kp :: L) :=
  Sep.in_ex (f := fun (p : List Cfg × Nat × Option Addr × Nat) => stars [pur (p.1.map nC = D), Bk g p.2.1 p.2.2.1 p.1.length p.2.2.2 St, row 55 3 (.slice p.2.2.1 p.1.length p.2.2.2) p.1.length (p.1.flatMap Cfg.cells), stars (p.1.map cfgRow), Fd p.2.1 S F nn kp]) (D0, gt, A, c) (Sep.in_stars (M := [_, _, _, _, _]) (hS.in_pur hD))
theorem frame_c (g : Nat) (D : List Cfg) (St : List Int) (S S2 : List En) (F F2 : Int → List Int) (nn : Nat) (kp : Kp) (V : Vd) (port : Int) (f : Fr) (now : Int) (u0 w0 : World) (L : List Asn) (hV : frameT D St kp S F port f now = (V, S2, F2)) (hSt : StI St) (hn : D.length ≤ 64) (hI : FdI S F nn kp) (hnn : nn ≤ 1000000) (hd : 0 ≤ f.d) (hs : 0 ≤ f.s)
    (hS0 : Sep u0 w0 (Br g D St S F nn kp :: L)) :
    Calls Try.prog 13 #[.pointer (some ⟨g, 0, none⟩), .int .i64 port, .agg #[.int .u64 f.d, .int .u64 f.s, .bool f.h, .int .i64 f.p, .bool f.de, .int .i64 f.v, .int .i64 f.t, .string f.b], .int .i64 now] w0 fun e w' => ∃ r, e = .returned r ∧ ∃ A3 c3 n', r = .agg #[.int .i64 V.what, .int .i64 V.vid, .int .u64 V.f.d, .int .u64 V.f.s, .bool V.f.h, .int .i64 V.f.p, .bool V.f.de, .int .i64 V.f.v, .int .i64 V.f.t, .string V.f.b, .slice A3 V.outs.length c3, .int .u32 V.peer, .bool V.fl] ∧ n' ≤ nn + 1 ∧ FdI S2 F2 n' kp ∧ Sep u0 w' (row 57 9 (.slice A3 V.outs.length c3) V.outs.length (V.outs.flatMap Ot.cells) :: Br g D St S2 F2 n' kp :: L) := by
  obtain ⟨D0, gt, A, c, hD, hS⟩ := Br.out hS0
  rw [← hD, frameT_nC] at hV
  refine (bframe_s g gt A c D0 St S S2 F F2 nn kp V port f now u0 w0 L hV hSt (by rw [← hD, List.length_map] at hn; exact hn) hI hnn hd hs hS).mono ?_
  rintro e w' ⟨r, h1, A3, c3, n', h2, h3, h4, h5⟩
  exact ⟨r, h1, A3, c3, n', h2, h3, h4, (Br.in_ (gt := gt) (A := A) (c := c) hD h5.fit).fit⟩
theorem from_c (g : Nat) (D : List Cfg) (St : List Int) (S S2 : List En) (F F2 : Int → List Int) (nn : Nat) (kp : Kp) (V : Vd) (peer vid : Int) (f : Fr) (now : Int) (u0 w0 : World) (L : List Asn) (hV : fromT D St kp S F peer vid f now = (V, S2, F2)) (hSt : StI St) (hn : D.length ≤ 64) (hI : FdI S F nn kp) (hnn : nn ≤ 1000000) (hd : 0 ≤ f.d) (hs : 0 ≤ f.s) (hpr : 0 ≤ peer ∧ peer < 4294967296)
    (hS0 : Sep u0 w0 (Br g D St S F nn kp :: L)) :
    Calls Try.prog 14 #[.pointer (some ⟨g, 0, none⟩), .int .u32 peer, .int .i64 vid, .agg #[.int .u64 f.d, .int .u64 f.s, .bool f.h, .int .i64 f.p, .bool f.de, .int .i64 f.v, .int .i64 f.t, .string f.b], .int .i64 now] w0 fun e w' => ∃ r, e = .returned r ∧ ∃ A3 c3 n', r = .agg #[.int .i64 V.what, .int .i64 V.vid, .int .u64 V.f.d, .int .u64 V.f.s, .bool V.f.h, .int .i64 V.f.p, .bool V.f.de, .int .i64 V.f.v, .int .i64 V.f.t, .string V.f.b, .slice A3 V.outs.length c3, .int .u32 V.peer, .bool V.fl] ∧ n' ≤ nn + 1 ∧ FdI S2 F2 n' kp ∧ Sep u0 w' (row 57 9 (.slice A3 V.outs.length c3) V.outs.length (V.outs.flatMap Ot.cells) :: Br g D St S2 F2 n' kp :: L) := by
  obtain ⟨D0, gt, A, c, hD, hS⟩ := Br.out hS0
  rw [← hD, fromT_nC] at hV
  refine (bfrom_s g gt A c D0 St S S2 F F2 nn kp V peer vid f now u0 w0 L hV hSt (by rw [← hD, List.length_map] at hn; exact hn) hI hnn hd hs hpr hS).mono ?_
  rintro e w' ⟨r, h1, A3, c3, n', h2, h3, h4, h5⟩
  exact ⟨r, h1, A3, c3, n', h2, h3, h4, (Br.in_ (gt := gt) (A := A) (c := c) hD h5.fit).fit⟩
def stT (n : Nat) (St : List Int) (port st : Int) : Int × List Int := (if 1 ≤ port ∧ port ≤ n then (if 0 ≤ st ∧ st ≤ 2 then 0 else 1) else 170, if (1 ≤ port ∧ port ≤ n) ∧ 0 ≤ st ∧ st ≤ 2 then St.set port.toNat st else St)
theorem stT_StI {n : Nat} {St : List Int} {port st : Int} (h : StI St) (hn : n ≤ 64) : StI (stT n St port st).2 := by
  unfold stT
  dsimp only
  split
  · rename_i hc
    refine ⟨by rw [List.length_set]; exact h.1, fun i => ?_⟩
    rw [List.getD_eq_getElem?_getD, List.getElem?_set]
    split
    · split
      · exact hc.2
      · decide
    · rw [← List.getD_eq_getElem?_getD]; exact h.2 i
  · exact h
theorem state_c (g : Nat) (D : List Cfg) (St : List Int) (S : List En) (F : Int → List Int) (nn : Nat) (kp : Kp) (port st r0 : Int) (St2 : List Int) (u0 w0 : World) (L : List Asn) (hr : stT D.length St port st = (r0, St2)) (hSt : StI St) (hn : D.length ≤ 64) (hS0 : Sep u0 w0 (Br g D St S F nn kp :: L)) :
    Calls Try.prog 12 #[.pointer (some ⟨g, 0, none⟩), .int .i64 port, .int .i64 st] w0 fun e w' => ∃ r, e = .returned r ∧ r = .int .i64 r0 ∧ Sep u0 w' (Br g D St2 S F nn kp :: L) := by
  obtain ⟨D0, gt, A, c, hD, hS⟩ := Br.out hS0
  have hl : D0.length = D.length := by rw [← hD, List.length_map]
  refine (state_s g gt A D0.length c St port st u0 w0 _ hS hSt.1 (by omega)).mono ?_
  rintro e w' ⟨r, h1, h2, h3⟩
  rw [hl] at h2
  obtain ⟨rfl, rfl⟩ : r0 = (stT D.length St port st).1 ∧ St2 = (stT D.length St port st).2 := by rw [hr]; exact ⟨rfl, rfl⟩
  have e : (stT D.length St port st).2 = if (1 ≤ port ∧ port ≤ D0.length) ∧ 0 ≤ st ∧ st ≤ 2 then St.set port.toNat st else St := by unfold stT; rw [hl]
  rw [e]
  exact ⟨r, h1, h2, (Br.in_ (gt := gt) (A := A) (c := c) hD h3).fit⟩
def fgT (n : Nat) (S : List En) (port : Int) : Int × List En := (if 1 ≤ port ∧ port ≤ n then (S.length : Int) - (noVal (valM 0 port) S).length else 0, if 1 ≤ port ∧ port ≤ n then noVal (valM 0 port) S else S)
theorem forget_c (g : Nat) (D : List Cfg) (St : List Int) (S S2 : List En) (F : Int → List Int) (nn : Nat) (kp : Kp) (port r0 : Int) (u0 w0 : World) (L : List Asn) (hr : fgT D.length S port = (r0, S2)) (hSt : StI St) (hn : D.length ≤ 64) (hI : FdI S F nn kp) (hS0 : Sep u0 w0 (Br g D St S F nn kp :: L)) :
    Calls Try.prog 18 #[.pointer (some ⟨g, 0, none⟩), .int .i64 port] w0 fun e w' => ∃ r, e = .returned r ∧ r = .int .i64 r0 ∧ FdI S2 F nn kp ∧ Sep u0 w' (Br g D St S2 F nn kp :: L) := by
  obtain ⟨D0, gt, A, c, hD, hS⟩ := Br.out hS0
  have hl : D0.length = D.length := by rw [← hD, List.length_map]
  obtain ⟨rfl, rfl⟩ : r0 = (fgT D.length S port).1 ∧ S2 = (fgT D.length S port).2 := by rw [hr]; exact ⟨rfl, rfl⟩
  refine (bforget_s g gt A D0.length c St S F nn kp port u0 w0 _ hS.fit hSt.1 (by omega) hI).mono ?_
  rintro e w' ⟨r, h1, h2, h3⟩
  rw [hl] at h2
  have e : (fgT D.length S port).2 = if 1 ≤ port ∧ port ≤ D0.length then noVal (valM 0 port) S else S := by unfold fgT; rw [hl]
  rw [e]
  refine ⟨r, h1, h2, ?_, (Br.in_ (gt := gt) (A := A) (c := c) hD h3.fit).fit⟩
  split
  · exact filter_FdI hI _
  · exact hI
def St0 : List Int := List.replicate 65 0
theorem St0_StI : StI St0 := ⟨by simp [St0], fun i => by
  rw [St0, List.getD_eq_getElem?_getD, List.getElem?_replicate]
  split <;> decide⟩
theorem new_c (A : Option Addr) (cap : Nat) (l : List Cfg) (kp : Kp) (w0 : World) (hk : newOk l kp) (hR : Rd w0 A (l.flatMap Cfg.cells)) (hX : ∀ x ∈ l, CfgR w0 x ∧ x.xs.length ≤ x.c ∧ x.xs.length ≤ 1073741824) :
    Calls Try.prog 9 #[.slice A l.length cap, .agg #[.int .i64 kp.room, .int .i64 kp.life, .int .i64 kp.moves, .int .i64 kp.win]] w0 fun e w' => ∃ r, e = .returned r ∧ ∃ g, r = .tuple #[.pointer (some ⟨g, 0, none⟩), .int .i64 0] ∧ Sep w0 w' [Br g (l.map nC) St0 [] (fun _ => []) 0 kp] := by
  refine (bnew_s A cap l kp w0 hR (by have := hk.1; omega) hX).mono ?_
  rintro e w' ⟨r, h1, h2⟩
  rcases h2 with ⟨h3, _⟩ | ⟨_, gb, gt, A2, c2, D, hD, h3, h4⟩
  · exact absurd hk h3
  · exact ⟨r, h1, gb, h3, (Br.in_ (gt := gt) (A := A2) (c := c2) (St := St0) (nC_key hD) h4.fit).fit⟩
end Go.Proofs.Ytdgpjkddpbiieaa
/- DERIVED. Cuts behind a region that stands at the end of a sequence. No condition. -/
namespace Go.Sx
open Go.RowKit
set_option linter.unusedVariables false
section
variable {P : Program} {a : Act} {w : World} {Q : Exit → Act → World → Prop} {id : Nat} {K I : Act → World → Prop}
/-- A cut behind a drawn region (no arm of a walk: it would be taken for ever). -/
theorem c_cutr {ops : Array Oper} (h1 : (Code.region id ops true).wp P (Exit.then I Q) a w) (h2 : ∀ a w, I a w → K a w) : (Code.region id ops true).wp P (Exit.then K Q) a w :=
  Code.wp_mono (fun e a w h => by cases e <;> first | exact h2 _ _ h | exact h) h1
end
section
variable {P : Program} {a : Act} {w w0 : World} {Q : Exit → Act → World → Prop} {G : List (Nat × List Value × TypeId)} {z : Nat} {ops : Array Oper} {listed : Array Bool} {fuel : Nat}
end
section
variable {P : Program} {o : Oper} {a : Act} {w w0 : World} {Q : Exit → Act → World → Prop} {n : Nat} {env : List (Nat × Value)} {L : List Asn} {K : Act → World → Prop}
theorem made_one (z : Value) (m : Nat) : (madeCells #[z] m).toList = List.replicate m z := by
  unfold madeCells
  apply List.ext_getElem
  · simp
  · intro i h1 h2
    simp [Nat.mod_one]
/-- make([]T, m), of one cell an element. -/
theorem qmk1 {t e : TypeId} {z : Value} {x y : Operand} {kd kc : IntKind} {m : Nat} {d : Tmp} (hE : Env a n env) (hS : Sep w0 w L) (k : ∀ g a' w', Env a' n ((d, .slice (some ⟨g, 0, none⟩) m m) :: env) → Sep w0 w' (row e 1 (.slice (some ⟨g, 0, none⟩) m m) m (List.replicate m z) :: L) → K a' w')
    (ho : o.op = .makeSlice t x y := by exact rfl) (T : AppTy P t e 1 := by infer_instance) (Z : ZeroTy P e [z] := by infer_instance) (hx : opv env x = some (.int kd m) := by exact rfl) (hy : opv env y = some (.int kc m) := by exact rfl) (hm : m ≤ 1073741824 := by omega) (hd : o.dst = some d := by exact rfl) (hlt : Nat.blt d n = true := by exact rfl) : o.wp P a w K Q := by
  have ht := T.h1
  have h2 := T.h2
  have hz0 := Z.h
  cases hi : P.info? e with
  | none => rw [hi] at h2; simp at h2
  | some i =>
  rw [hi] at h2 hz0
  simp only [Option.map_some, Option.some.injEq, Prod.mk.injEq] at h2
  obtain ⟨hz', hsz, hby⟩ := h2
  have hby : i.bytes ≤ 4096 := Nat.le_of_ble_eq_true hby
  cases hz : i.zero with
  | none => rw [hz] at hz'; simp at hz'
  | some zv =>
  simp only [Option.map_some, Option.some.injEq, hz] at hz0
  have hc : zv.cells = #[z] := by
    apply Array.ext'
    simpa using hz0
  have hb : ((i.bytes : Int) * (m : Int)) ≤ 281474976710656 := by
    have h1 : i.bytes * m ≤ 4096 * 1073741824 := Nat.mul_le_mul hby hm
    have h3 : ((i.bytes * m : Nat) : Int) ≤ 281474976710656 := by omega
    rwa [Int.natCast_mul] at h3
  have hr := run_make (P := P) w t e i zv ht hi hz kd kc (m : Int) (m : Int) (by omega) (Int.le_refl _) hb (by omega)
  have e1 : (madeCells zv.cells ((m : Int).toNat * i.size)) = (List.replicate m z).toArray := by
    apply Array.ext'
    rw [hc, hsz, Nat.mul_one, Int.toNat_natCast, made_one]
  rw [e1] at hr
  simp only [Int.toNat_natCast] at hr
  have hS2 : Sep w0 (w.alloc (.cells (List.replicate m z).toArray e)) (blk w.heap.size (List.replicate m z) e :: L) := hS.alloc
  unfold Oper.wp execOp
  simp only [ho, hE.eval hx, hE.eval hy]
  rw [Sem.run_bind, hr]
  exact k _ _ _ (hE.putS _ hd hlt) (hS2.to_row (by simp only [maxLen]; omega) (by simp))
end
/-- What many ways come to is shown once. -/
def sub2 (env : List (Nat × Value)) : List Nat → List (Nat × Value) → Prop
  | _, [] => True
  | seen, (k, v) :: r => (bif seen.any (Nat.beq k) then True else find env k = some v) ∧ sub2 env (k :: seen) r
structure Hid (T : Prop) : Prop where
  out : T
end Go.Sx
/- DERIVED. Layer 17: the calls that the document fixes. No condition. -/
namespace Go.Proofs.Ytdgpjkddpbiieaa
open Go.RowKit Go.Sx Go.Proofs.YtdgpjkddpbiieaaTy
set_option linter.unusedVariables false
set_option linter.unusedSimpArgs false
set_option maxRecDepth 100000
attribute [local irreducible] Oper.wp Code.wp wpList wpAnyH Calls bodyPost Exit.then Exit.inBlock Code.rounds
set_option maxHeartbeats 2000000
def D17 : List Cfg := [⟨false, 5, none, 0, []⟩, ⟨false, 5, none, 0, []⟩, ⟨false, 6, none, 0, []⟩]
def K17 : Kp := ⟨9, 9, 2, 9⟩
def FZ (d s t : Int) : Fr := ⟨d, s, false, 0, false, 0, t, ⟨#[]⟩⟩
def F0_ : Int → List Int := fun _ => []
def Sa : List Int := St0.set 1 2
def Sb : List Int := Sa.set 2 2
def Sc : List Int := Sb.set 3 2
theorem Sa_StI : StI Sa := stT_StI (n := 3) (port := 1) (st := 2) St0_StI (by decide)
theorem Sb_StI : StI Sb := stT_StI (n := 3) (port := 2) (st := 2) Sa_StI (by decide)
theorem Sc_StI : StI Sc := stT_StI (n := 3) (port := 3) (st := 2) Sb_StI (by decide)
theorem plain_r {w : World} {l : List Cfg} (h : ∀ x ∈ l, x.xs = []) : ∀ x ∈ l, CfgR w x ∧ x.xs.length ≤ x.c ∧ x.xs.length ≤ 1073741824 := fun x hx => by
  have := h x hx
  unfold CfgR
  rw [this]
  exact ⟨⟨Rd.nil, Nat.zero_le _⟩, Nat.zero_le _, Nat.zero_le _⟩
theorem D17_plain : ∀ x ∈ D17, x.xs = [] := by decide
theorem D17_ok : newOk D17 K17 := ⟨by decide, by decide, by unfold okK K17; decide⟩
def S17a : List En := [⟨keyM 5 2, valM 0 1, 0, false⟩]
def S17b : List En := [⟨keyM 5 2, valM 0 1, 0, false⟩, ⟨keyM 5 6, valM 0 2, 1, false⟩]
def S17c : List En := [⟨keyM 5 2, valM 0 1, 0, false⟩, ⟨keyM 5 6, valM 0 2, 1, false⟩, ⟨keyM 5 10, valM 1 7, 2, false⟩]
def S17d : List En := [⟨keyM 5 2, valM 0 1, 3, false⟩, ⟨keyM 5 6, valM 0 2, 1, false⟩, ⟨keyM 5 10, valM 1 7, 2, false⟩]
def S17e : List En := [⟨keyM 5 2, valM 0 1, 3, false⟩, ⟨keyM 5 6, valM 0 2, 1, false⟩, ⟨keyM 5 10, valM 1 7, 2, false⟩, ⟨keyM 5 14, valM 1 9, 3, false⟩]
def S17f : List En := [⟨keyM 5 2, valM 0 1, 3, false⟩, ⟨keyM 5 10, valM 1 7, 2, false⟩, ⟨keyM 5 14, valM 1 9, 3, false⟩]
def DN : List Cfg := D17.map nC
theorem e17_0 : frameT DN St0 K17 [] F0_ 1 (FZ 281474976710655 2 2048) 0 = (VdW 2, [], F0_) := by kernel_rfl
theorem e17_1 : frameT DN Sc K17 [] F0_ 1 (FZ 281474976710655 2 2048) 0 = (⟨0, 5, FZ 281474976710655 2 2048, [⟨2, FZ 281474976710655 2 2048⟩], 0, true⟩, S17a, F0_) := by kernel_rfl
theorem e17_2 : frameT DN Sc K17 S17a F0_ 2 (FZ 2 6 2048) 1 = (⟨0, 5, FZ 2 6 2048, [⟨1, FZ 2 6 2048⟩], 0, false⟩, S17b, F0_) := by kernel_rfl
theorem e17_3 : fromT DN Sc K17 S17b F0_ 7 5 (FZ 2 10 0) 2 = (⟨0, 5, FZ 2 10 0, [⟨1, FZ 2 10 0⟩], 0, false⟩, S17c, F0_) := by kernel_rfl
theorem e17_4 : frameT DN Sc K17 S17c F0_ 1 (FZ 10 2 0) 3 = (⟨0, 5, FZ 10 2 0, [], 7, false⟩, S17d, F0_) := by kernel_rfl
theorem e17_5 : fromT DN Sc K17 S17d F0_ 9 5 (FZ 10 14 0) 3 = (VdW 7, S17e, F0_) := by kernel_rfl
theorem e17_6 : frameT DN Sc K17 S17e F0_ 1 (FZ 1652522221568 2 0) 3 = (VdW 1, S17e, F0_) := by kernel_rfl
theorem fixed17_s (w0 : World) : Calls Try.prog 17 #[] w0 fun e w' => ∃ r, e = .returned r ∧ r = .bool true ∧ Sep w0 w' [] := by
  refine enter (args := []) 150 Try.func17 rfl rfl rfl ?_
  intro a hE hS
  repeat' (first | refine wl_nil ?_ | refine then_n ?_ | refine c_block ?_ | refine c_skip ?_ | refine c_cond_f hE rfl ?_ | (refine c_regI 0 ?_; all_goals (refine wl hE rfl ?_; refine qa hE ?_; clear hE a; intro a hE)) | (refine c_regI 1 ?_; all_goals (refine wl hE rfl ?_; refine qbu hE ?_; clear hE a; intro a hE); all_goals (refine wl hE rfl ?_; refine qbu hE ?_; clear hE a; intro a hE); all_goals (refine wl hE rfl ?_; refine qbu hE ?_; clear hE a; intro a hE); all_goals (refine wl hE rfl ?_; refine qbs hE hS ?_; clear hE hS; clear a; intro g a w hE hS); all_goals (refine wl hE rfl ?_; refine qbu hE ?_; clear hE a; intro a hE); all_goals (refine wl hE rfl ?_; refine is_call 9 rfl ?_; refine qc hE (new_c _ 3 D17 K17 _ D17_ok (Rd.row (n := 3) (c := 3) hS) (plain_r D17_plain)) ?_; clear hE; clear a; rintro _ a w ⟨g, rfl, hS1⟩ hE; replace hS := hS.then hS1; clear hS1; (obtain ⟨g0, hg0⟩ : ∃ g0, g0 = g := ⟨_, rfl⟩); rw [← hg0] at hE hS; clear hg0; have hI0 : FdI [] F0_ 0 K17 := new_FdI D17_ok.2.2); all_goals (refine wl hE rfl ?_; refine qm hE ?_; clear hE a; intro a hE); all_goals (refine wl hE rfl ?_; refine qe hE ?_; clear hE a; intro a hE); all_goals (refine wl hE rfl ?_; refine qe hE ?_; clear hE a; intro a hE); all_goals (refine wl hE rfl ?_; refine qa hE ?_; clear hE a; intro a hE); all_goals (refine wl hE rfl ?_; refine qa hE ?_; clear hE a; intro a hE)) | (refine c_regI 2 ?_; all_goals (refine wl hE rfl ?_; refine qm hE ?_; clear hE a; intro a hE); all_goals (refine wl hE rfl ?_; refine qpn hE ?_; clear hE a; intro a hE); all_goals (refine wl hE rfl ?_; refine qm hE ?_; clear hE a; intro a hE); all_goals (refine wl hE rfl ?_; refine qm hE ?_; clear hE a; intro a hE); all_goals (refine wl hE rfl ?_; refine qb hE ?_; clear hE a; intro a hE); all_goals (refine wl hE rfl ?_; refine qpf hE ?_; clear hE a; intro a hE)) | (refine c_regI 4 ?_; all_goals (refine wl hE rfl ?_; refine qbu hE ?_; clear hE a; intro a hE); all_goals (refine wl hE rfl ?_; refine qal hE hS ?_; clear hE hS; clear a; intro g a w hE hS); all_goals (refine wl hE rfl ?_; refine qst0 hE hS ?_; clear hS; intro w hS)) | (refine c_regI 5 ?_; all_goals (refine wl hE rfl ?_; refine qbu hE ?_; clear hE a; intro a hE); all_goals (refine wl hE rfl ?_; refine qal hE hS ?_; clear hE hS; clear a; intro g a w hE hS); all_goals (refine wl hE rfl ?_; refine qst0 hE hS ?_; clear hS; intro w hS)) | (refine c_regI 6 ?_; all_goals (refine wl hE rfl ?_; refine qm hE ?_; clear hE a; intro a hE); all_goals (refine wl hE rfl ?_; refine qL hE hS ?_; clear hE a; intro a hE); all_goals (refine wl hE rfl ?_; refine is_call 13 rfl ?_; refine qc hE (frame_c g0 DN St0 _ _ _ _ 0 K17 _ 1 (FZ 281474976710655 2 2048) 0 w0 _ _ e17_0 St0_StI (by decide) hI0 (by omega) (by decide) (by decide) hS.fit) ?_; clear hE hS; clear a; rintro _ a w ⟨A1, c1, n1, rfl, hn1, hI1, hS⟩ hE; dsimp only [VdW, FZ, Fr0, List.length_cons, List.length_nil, Nat.zero_add] at hS hE); all_goals (refine wl hE rfl ?_; refine qal hE hS ?_; clear hE hS; clear a; intro g a w hE hS); all_goals (refine wl hE rfl ?_; refine qst0 hE hS ?_; clear hS; intro w hS)) | (refine c_regI 7 ?_; all_goals (refine wl hE rfl ?_; refine qa hE ?_; clear hE a; intro a hE)) | refine c_seq ?_)
  repeat' (first | refine c_unroll 4 ?_ | refine wl_nil ?_ | refine then_n ?_ | refine c_block ?_ | refine c_skip ?_ | refine c_exit ?_ | refine then_e ?_ | refine inb_n ?_ | refine inb_e ?_ | refine c_cond_t hE rfl ?_ | refine c_cond_f hE rfl ?_ | refine c_rnd ?_ | (refine c_regI 8 ?_; all_goals (refine wl hE rfl ?_; refine qm hE ?_; clear hE a; intro a hE); all_goals (refine wl hE rfl ?_; refine qb hE ?_; clear hE a; intro a hE)) | (refine c_regI 10 ?_; all_goals (refine wl hE rfl ?_; refine qm hE ?_; clear hE a; intro a hE); all_goals (refine wl hE rfl ?_; refine qm hE ?_; clear hE a; intro a hE); all_goals (refine wl hE rfl ?_; first | (refine is_call 12 rfl ?_; refine qc hE (state_c g0 DN St0 [] F0_ n1 K17 1 2 0 Sa w0 _ _ (by kernel_rfl) St0_StI (by decide) hS.fit) ?_; clear hE hS; clear a; rintro _ a w ⟨rfl, hS⟩ hE) | (refine is_call 12 rfl ?_; refine qc hE (state_c g0 DN Sa [] F0_ n1 K17 2 2 0 Sb w0 _ _ (by kernel_rfl) Sa_StI (by decide) hS.fit) ?_; clear hE hS; clear a; rintro _ a w ⟨rfl, hS⟩ hE) | (refine is_call 12 rfl ?_; refine qc hE (state_c g0 DN Sb [] F0_ n1 K17 3 2 0 Sc w0 _ _ (by kernel_rfl) Sb_StI (by decide) hS.fit) ?_; clear hE hS; clear a; rintro _ a w ⟨rfl, hS⟩ hE))) | (refine c_regI 9 ?_; all_goals (refine wl hE rfl ?_; refine qm hE ?_; clear hE a; intro a hE); all_goals (refine wl hE rfl ?_; refine qb hE ?_; clear hE a; intro a hE); all_goals (refine wl hE rfl ?_; refine qa hE ?_; clear hE a; intro a hE)) | refine c_seq ?_)
  refine c_cutr (id := 11) (I := fun a w => ∃ g5 g7 g8 A2 c2 A3 c3 n3, n3 ≤ 3 ∧ FdI S17b F0_ n3 K17 ∧ Env a 150 [(1, .pointer (some ⟨g0, 0, none⟩)), (5, .pointer (some ⟨g5, 0, none⟩)), (7, .pointer (some ⟨g7, 0, none⟩)), (8, .pointer (some ⟨g8, 0, none⟩))] ∧ Sep w0 w [blk g5 [.int .i64 2, .int .i64 0, .int .u64 0, .int .u64 0, .bool false, .int .i64 0, .bool false, .int .i64 0, .int .i64 0, .string ⟨#[]⟩, .slice A1 0 c1, .int .u32 0, .bool false] 46, blk g7 [.int .i64 0, .int .i64 5, .int .u64 281474976710655, .int .u64 2, .bool false, .int .i64 0, .bool false, .int .i64 0, .int .i64 2048, .string ⟨#[]⟩, .slice A2 1 c2, .int .u32 0, .bool true] 46, blk g8 [.int .i64 0, .int .i64 5, .int .u64 2, .int .u64 6, .bool false, .int .i64 0, .bool false, .int .i64 0, .int .i64 2048, .string ⟨#[]⟩, .slice A3 1 c3, .int .u32 0, .bool false] 46, row 57 9 (.slice A2 1 c2) 1 ([(⟨2, FZ 281474976710655 2 2048⟩ : Ot)].flatMap Ot.cells), row 57 9 (.slice A3 1 c3) 1 ([(⟨1, FZ 2 6 2048⟩ : Ot)].flatMap Ot.cells), Br g0 DN Sc S17b F0_ n3 K17]) ?_ ?_
  · repeat' (first | refine then_n ?_ | (refine rg_guard 11 ?_; refine rl_start 9 [3, 4] hE hS ?_; clear hS; (try clear w); intro w hS hX; all_goals (refine rl_y 0 hE hX (by exact y_move) ?_ rfl rfl rfl rfl; clear hE a; intro a hE); all_goals (refine rl_y 1 hE hX (by exact y_loadA) ?_ rfl rfl rfl rfl; clear hE a; intro a hE); all_goals (refine rl_y 3 hE hX (by exact y_move) ?_ rfl rfl rfl rfl; clear hE a; intro a hE); all_goals (refine rl_y 4 hE hX (by exact y_loadA) ?_ rfl rfl rfl rfl; clear hE a; intro a hE); all_goals ((refine rl_e3 2 6 7 (by kernel_rfl) ?_ ?_ ?_) <;> first | (intro K hK; refine rg_op (i := 2) hE rfl rfl ?_; (refine is_call 13 rfl ?_; refine qc hE (frame_c g0 DN Sc _ _ _ _ n1 K17 _ 1 (FZ 281474976710655 2 2048) 0 w0 _ _ e17_1 Sc_StI (by decide) hI1 (by omega) (by decide) (by decide) hS.fit) ?_; clear hE hS; clear a; rintro _ a w ⟨A2, c2, n2, rfl, hn2, hI2, hS⟩ hE; dsimp only [VdW, FZ, Fr0, List.length_cons, List.length_nil, Nat.zero_add] at hS hE; have hA2 : (0 : Int) < ((1 : Nat) : Int) → A2 = some (adr A2) := fun _ => (Rd.row (A := A2) (n := 1) (c := c2) (xs := (⟨2, FZ 281474976710655 2 2048⟩ : Ot).cells) hS).some (by decide)); refine rl_k hK hS ?_; clear hK hX; clear K; intro hX; all_goals ((refine rl_e3 5 6 7 (by kernel_rfl) ?_ ?_ ?_) <;> first | (intro K hK; refine rg_op (i := 5) hE rfl rfl ?_; (refine is_call 13 rfl ?_; refine qc hE (frame_c g0 DN Sc _ _ _ _ n2 K17 _ 2 (FZ 2 6 2048) 1 w0 _ _ e17_2 Sc_StI (by decide) hI2 (by omega) (by decide) (by decide) hS.fit) ?_; clear hE hS; clear a; rintro _ a w ⟨A3, c3, n3, rfl, hn3, hI3, hS⟩ hE; dsimp only [VdW, FZ, Fr0, List.length_cons, List.length_nil, Nat.zero_add] at hS hE; have hA3 : (0 : Int) < ((1 : Nat) : Int) → A3 = some (adr A3) := fun _ => (Rd.row (A := A3) (n := 1) (c := c3) (xs := (⟨1, FZ 2 6 2048⟩ : Ot).cells) hS).some (by decide)); refine rl_k hK hS ?_; clear hK hX; clear K; intro hX; all_goals ((refine rl_e2 6 7 (by kernel_rfl) ?_ ?_) <;> first | (intro K hK; refine rg_op (i := 6) hE rfl rfl ?_; (refine qal hE hS ?_; clear hE hS; clear a; intro g a w hE hS); refine rl_k hK hS ?_; clear hK hX; clear K; intro hX; all_goals (refine rl_e 7 hE rfl rfl (by kernel_rfl) ?_; intro K hK; (refine qal hE hS ?_; clear hE hS; clear a; intro g a w hE hS); refine rl_k hK hS ?_; clear hK hX; clear K; intro hX); all_goals (refine rl_e 8 hE rfl rfl (by kernel_rfl) ?_; intro K hK; (refine qst0 hE hS ?_; clear hS; intro w hS); refine rl_k hK hS ?_; clear hK hX; clear K; intro hX); all_goals (refine rl_z (z := 9) hE rfl rfl (by kernel_rfl) ?_; intro K hK; (refine qst0 hE hS ?_; clear hS; intro w hS); refine hK _ _ ?_; clear hK; clear K); all_goals (refine rl_done ?_ (by kernel_rfl); (try clear hX))) | (intro K hK; refine rg_op (i := 7) hE rfl rfl ?_; (refine qal hE hS ?_; clear hE hS; clear a; intro g a w hE hS); refine rl_k hK hS ?_; clear hK hX; clear K; intro hX; all_goals (refine rl_e 6 hE rfl rfl (by kernel_rfl) ?_; intro K hK; (refine qal hE hS ?_; clear hE hS; clear a; intro g a w hE hS); refine rl_k hK hS ?_; clear hK hX; clear K; intro hX); all_goals (refine rl_e 8 hE rfl rfl (by kernel_rfl) ?_; intro K hK; (refine qst0 hE hS ?_; clear hS; intro w hS); refine rl_k hK hS ?_; clear hK hX; clear K; intro hX); all_goals (refine rl_z (z := 9) hE rfl rfl (by kernel_rfl) ?_; intro K hK; (refine qst0 hE hS ?_; clear hS; intro w hS); refine hK _ _ ?_; clear hK; clear K); all_goals (refine rl_done ?_ (by kernel_rfl); (try clear hX))))) | (intro K hK; refine rg_op (i := 6) hE rfl rfl ?_; (refine qal hE hS ?_; clear hE hS; clear a; intro g a w hE hS); refine rl_k hK hS ?_; clear hK hX; clear K; intro hX; all_goals ((refine rl_e2 5 7 (by kernel_rfl) ?_ ?_) <;> first | (intro K hK; refine rg_op (i := 5) hE rfl rfl ?_; (refine is_call 13 rfl ?_; refine qc hE (frame_c g0 DN Sc _ _ _ _ n2 K17 _ 2 (FZ 2 6 2048) 1 w0 _ _ e17_2 Sc_StI (by decide) hI2 (by omega) (by decide) (by decide) hS.fit) ?_; clear hE hS; clear a; rintro _ a w ⟨A3, c3, n3, rfl, hn3, hI3, hS⟩ hE; dsimp only [VdW, FZ, Fr0, List.length_cons, List.length_nil, Nat.zero_add] at hS hE; have hA3 : (0 : Int) < ((1 : Nat) : Int) → A3 = some (adr A3) := fun _ => (Rd.row (A := A3) (n := 1) (c := c3) (xs := (⟨1, FZ 2 6 2048⟩ : Ot).cells) hS).some (by decide)); refine rl_k hK hS ?_; clear hK hX; clear K; intro hX; all_goals (refine rl_e 7 hE rfl rfl (by kernel_rfl) ?_; intro K hK; (refine qal hE hS ?_; clear hE hS; clear a; intro g a w hE hS); refine rl_k hK hS ?_; clear hK hX; clear K; intro hX); all_goals (refine rl_e 8 hE rfl rfl (by kernel_rfl) ?_; intro K hK; (refine qst0 hE hS ?_; clear hS; intro w hS); refine rl_k hK hS ?_; clear hK hX; clear K; intro hX); all_goals (refine rl_z (z := 9) hE rfl rfl (by kernel_rfl) ?_; intro K hK; (refine qst0 hE hS ?_; clear hS; intro w hS); refine hK _ _ ?_; clear hK; clear K); all_goals (refine rl_done ?_ (by kernel_rfl); (try clear hX))) | (intro K hK; refine rg_op (i := 7) hE rfl rfl ?_; (refine qal hE hS ?_; clear hE hS; clear a; intro g a w hE hS); refine rl_k hK hS ?_; clear hK hX; clear K; intro hX; all_goals (refine rl_e 5 hE rfl rfl (by kernel_rfl) ?_; intro K hK; (refine is_call 13 rfl ?_; refine qc hE (frame_c g0 DN Sc _ _ _ _ n2 K17 _ 2 (FZ 2 6 2048) 1 w0 _ _ e17_2 Sc_StI (by decide) hI2 (by omega) (by decide) (by decide) hS.fit) ?_; clear hE hS; clear a; rintro _ a w ⟨A3, c3, n3, rfl, hn3, hI3, hS⟩ hE; dsimp only [VdW, FZ, Fr0, List.length_cons, List.length_nil, Nat.zero_add] at hS hE; have hA3 : (0 : Int) < ((1 : Nat) : Int) → A3 = some (adr A3) := fun _ => (Rd.row (A := A3) (n := 1) (c := c3) (xs := (⟨1, FZ 2 6 2048⟩ : Ot).cells) hS).some (by decide)); refine rl_k hK hS ?_; clear hK hX; clear K; intro hX); all_goals (refine rl_e 8 hE rfl rfl (by kernel_rfl) ?_; intro K hK; (refine qst0 hE hS ?_; clear hS; intro w hS); refine rl_k hK hS ?_; clear hK hX; clear K; intro hX); all_goals (refine rl_z (z := 9) hE rfl rfl (by kernel_rfl) ?_; intro K hK; (refine qst0 hE hS ?_; clear hS; intro w hS); refine hK _ _ ?_; clear hK; clear K); all_goals (refine rl_done ?_ (by kernel_rfl); (try clear hX))))) | (intro K hK; refine rg_op (i := 7) hE rfl rfl ?_; (refine qal hE hS ?_; clear hE hS; clear a; intro g a w hE hS); refine rl_k hK hS ?_; clear hK hX; clear K; intro hX; all_goals ((refine rl_e2 5 6 (by kernel_rfl) ?_ ?_) <;> first | (intro K hK; refine rg_op (i := 5) hE rfl rfl ?_; (refine is_call 13 rfl ?_; refine qc hE (frame_c g0 DN Sc _ _ _ _ n2 K17 _ 2 (FZ 2 6 2048) 1 w0 _ _ e17_2 Sc_StI (by decide) hI2 (by omega) (by decide) (by decide) hS.fit) ?_; clear hE hS; clear a; rintro _ a w ⟨A3, c3, n3, rfl, hn3, hI3, hS⟩ hE; dsimp only [VdW, FZ, Fr0, List.length_cons, List.length_nil, Nat.zero_add] at hS hE; have hA3 : (0 : Int) < ((1 : Nat) : Int) → A3 = some (adr A3) := fun _ => (Rd.row (A := A3) (n := 1) (c := c3) (xs := (⟨1, FZ 2 6 2048⟩ : Ot).cells) hS).some (by decide)); refine rl_k hK hS ?_; clear hK hX; clear K; intro hX; all_goals (refine rl_e 6 hE rfl rfl (by kernel_rfl) ?_; intro K hK; (refine qal hE hS ?_; clear hE hS; clear a; intro g a w hE hS); refine rl_k hK hS ?_; clear hK hX; clear K; intro hX); all_goals (refine rl_e 8 hE rfl rfl (by kernel_rfl) ?_; intro K hK; (refine qst0 hE hS ?_; clear hS; intro w hS); refine rl_k hK hS ?_; clear hK hX; clear K; intro hX); all_goals (refine rl_z (z := 9) hE rfl rfl (by kernel_rfl) ?_; intro K hK; (refine qst0 hE hS ?_; clear hS; intro w hS); refine hK _ _ ?_; clear hK; clear K); all_goals (refine rl_done ?_ (by kernel_rfl); (try clear hX))) | (intro K hK; refine rg_op (i := 6) hE rfl rfl ?_; (refine qal hE hS ?_; clear hE hS; clear a; intro g a w hE hS); refine rl_k hK hS ?_; clear hK hX; clear K; intro hX; all_goals (refine rl_e 5 hE rfl rfl (by kernel_rfl) ?_; intro K hK; (refine is_call 13 rfl ?_; refine qc hE (frame_c g0 DN Sc _ _ _ _ n2 K17 _ 2 (FZ 2 6 2048) 1 w0 _ _ e17_2 Sc_StI (by decide) hI2 (by omega) (by decide) (by decide) hS.fit) ?_; clear hE hS; clear a; rintro _ a w ⟨A3, c3, n3, rfl, hn3, hI3, hS⟩ hE; dsimp only [VdW, FZ, Fr0, List.length_cons, List.length_nil, Nat.zero_add] at hS hE; have hA3 : (0 : Int) < ((1 : Nat) : Int) → A3 = some (adr A3) := fun _ => (Rd.row (A := A3) (n := 1) (c := c3) (xs := (⟨1, FZ 2 6 2048⟩ : Ot).cells) hS).some (by decide)); refine rl_k hK hS ?_; clear hK hX; clear K; intro hX); all_goals (refine rl_e 8 hE rfl rfl (by kernel_rfl) ?_; intro K hK; (refine qst0 hE hS ?_; clear hS; intro w hS); refine rl_k hK hS ?_; clear hK hX; clear K; intro hX); all_goals (refine rl_z (z := 9) hE rfl rfl (by kernel_rfl) ?_; intro K hK; (refine qst0 hE hS ?_; clear hS; intro w hS); refine hK _ _ ?_; clear hK; clear K); all_goals (refine rl_done ?_ (by kernel_rfl); (try clear hX))))))) | (intro K hK; refine rg_op (i := 6) hE rfl rfl ?_; (refine qal hE hS ?_; clear hE hS; clear a; intro g a w hE hS); refine rl_k hK hS ?_; clear hK hX; clear K; intro hX; all_goals ((refine rl_e2 2 7 (by kernel_rfl) ?_ ?_) <;> first | (intro K hK; refine rg_op (i := 2) hE rfl rfl ?_; (refine is_call 13 rfl ?_; refine qc hE (frame_c g0 DN Sc _ _ _ _ n1 K17 _ 1 (FZ 281474976710655 2 2048) 0 w0 _ _ e17_1 Sc_StI (by decide) hI1 (by omega) (by decide) (by decide) hS.fit) ?_; clear hE hS; clear a; rintro _ a w ⟨A2, c2, n2, rfl, hn2, hI2, hS⟩ hE; dsimp only [VdW, FZ, Fr0, List.length_cons, List.length_nil, Nat.zero_add] at hS hE; have hA2 : (0 : Int) < ((1 : Nat) : Int) → A2 = some (adr A2) := fun _ => (Rd.row (A := A2) (n := 1) (c := c2) (xs := (⟨2, FZ 281474976710655 2 2048⟩ : Ot).cells) hS).some (by decide)); refine rl_k hK hS ?_; clear hK hX; clear K; intro hX; all_goals ((refine rl_e2 5 7 (by kernel_rfl) ?_ ?_) <;> first | (intro K hK; refine rg_op (i := 5) hE rfl rfl ?_; (refine is_call 13 rfl ?_; refine qc hE (frame_c g0 DN Sc _ _ _ _ n2 K17 _ 2 (FZ 2 6 2048) 1 w0 _ _ e17_2 Sc_StI (by decide) hI2 (by omega) (by decide) (by decide) hS.fit) ?_; clear hE hS; clear a; rintro _ a w ⟨A3, c3, n3, rfl, hn3, hI3, hS⟩ hE; dsimp only [VdW, FZ, Fr0, List.length_cons, List.length_nil, Nat.zero_add] at hS hE; have hA3 : (0 : Int) < ((1 : Nat) : Int) → A3 = some (adr A3) := fun _ => (Rd.row (A := A3) (n := 1) (c := c3) (xs := (⟨1, FZ 2 6 2048⟩ : Ot).cells) hS).some (by decide)); refine rl_k hK hS ?_; clear hK hX; clear K; intro hX; all_goals (refine rl_e 7 hE rfl rfl (by kernel_rfl) ?_; intro K hK; (refine qal hE hS ?_; clear hE hS; clear a; intro g a w hE hS); refine rl_k hK hS ?_; clear hK hX; clear K; intro hX); all_goals (refine rl_e 8 hE rfl rfl (by kernel_rfl) ?_; intro K hK; (refine qst0 hE hS ?_; clear hS; intro w hS); refine rl_k hK hS ?_; clear hK hX; clear K; intro hX); all_goals (refine rl_z (z := 9) hE rfl rfl (by kernel_rfl) ?_; intro K hK; (refine qst0 hE hS ?_; clear hS; intro w hS); refine hK _ _ ?_; clear hK; clear K); all_goals (refine rl_done ?_ (by kernel_rfl); (try clear hX))) | (intro K hK; refine rg_op (i := 7) hE rfl rfl ?_; (refine qal hE hS ?_; clear hE hS; clear a; intro g a w hE hS); refine rl_k hK hS ?_; clear hK hX; clear K; intro hX; all_goals (refine rl_e 5 hE rfl rfl (by kernel_rfl) ?_; intro K hK; (refine is_call 13 rfl ?_; refine qc hE (frame_c g0 DN Sc _ _ _ _ n2 K17 _ 2 (FZ 2 6 2048) 1 w0 _ _ e17_2 Sc_StI (by decide) hI2 (by omega) (by decide) (by decide) hS.fit) ?_; clear hE hS; clear a; rintro _ a w ⟨A3, c3, n3, rfl, hn3, hI3, hS⟩ hE; dsimp only [VdW, FZ, Fr0, List.length_cons, List.length_nil, Nat.zero_add] at hS hE; have hA3 : (0 : Int) < ((1 : Nat) : Int) → A3 = some (adr A3) := fun _ => (Rd.row (A := A3) (n := 1) (c := c3) (xs := (⟨1, FZ 2 6 2048⟩ : Ot).cells) hS).some (by decide)); refine rl_k hK hS ?_; clear hK hX; clear K; intro hX); all_goals (refine rl_e 8 hE rfl rfl (by kernel_rfl) ?_; intro K hK; (refine qst0 hE hS ?_; clear hS; intro w hS); refine rl_k hK hS ?_; clear hK hX; clear K; intro hX); all_goals (refine rl_z (z := 9) hE rfl rfl (by kernel_rfl) ?_; intro K hK; (refine qst0 hE hS ?_; clear hS; intro w hS); refine hK _ _ ?_; clear hK; clear K); all_goals (refine rl_done ?_ (by kernel_rfl); (try clear hX))))) | (intro K hK; refine rg_op (i := 7) hE rfl rfl ?_; (refine qal hE hS ?_; clear hE hS; clear a; intro g a w hE hS); refine rl_k hK hS ?_; clear hK hX; clear K; intro hX; all_goals (refine rl_e 2 hE rfl rfl (by kernel_rfl) ?_; intro K hK; (refine is_call 13 rfl ?_; refine qc hE (frame_c g0 DN Sc _ _ _ _ n1 K17 _ 1 (FZ 281474976710655 2 2048) 0 w0 _ _ e17_1 Sc_StI (by decide) hI1 (by omega) (by decide) (by decide) hS.fit) ?_; clear hE hS; clear a; rintro _ a w ⟨A2, c2, n2, rfl, hn2, hI2, hS⟩ hE; dsimp only [VdW, FZ, Fr0, List.length_cons, List.length_nil, Nat.zero_add] at hS hE; have hA2 : (0 : Int) < ((1 : Nat) : Int) → A2 = some (adr A2) := fun _ => (Rd.row (A := A2) (n := 1) (c := c2) (xs := (⟨2, FZ 281474976710655 2 2048⟩ : Ot).cells) hS).some (by decide)); refine rl_k hK hS ?_; clear hK hX; clear K; intro hX); all_goals (refine rl_e 5 hE rfl rfl (by kernel_rfl) ?_; intro K hK; (refine is_call 13 rfl ?_; refine qc hE (frame_c g0 DN Sc _ _ _ _ n2 K17 _ 2 (FZ 2 6 2048) 1 w0 _ _ e17_2 Sc_StI (by decide) hI2 (by omega) (by decide) (by decide) hS.fit) ?_; clear hE hS; clear a; rintro _ a w ⟨A3, c3, n3, rfl, hn3, hI3, hS⟩ hE; dsimp only [VdW, FZ, Fr0, List.length_cons, List.length_nil, Nat.zero_add] at hS hE; have hA3 : (0 : Int) < ((1 : Nat) : Int) → A3 = some (adr A3) := fun _ => (Rd.row (A := A3) (n := 1) (c := c3) (xs := (⟨1, FZ 2 6 2048⟩ : Ot).cells) hS).some (by decide)); refine rl_k hK hS ?_; clear hK hX; clear K; intro hX); all_goals (refine rl_e 8 hE rfl rfl (by kernel_rfl) ?_; intro K hK; (refine qst0 hE hS ?_; clear hS; intro w hS); refine rl_k hK hS ?_; clear hK hX; clear K; intro hX); all_goals (refine rl_z (z := 9) hE rfl rfl (by kernel_rfl) ?_; intro K hK; (refine qst0 hE hS ?_; clear hS; intro w hS); refine hK _ _ ?_; clear hK; clear K); all_goals (refine rl_done ?_ (by kernel_rfl); (try clear hX))))) | (intro K hK; refine rg_op (i := 7) hE rfl rfl ?_; (refine qal hE hS ?_; clear hE hS; clear a; intro g a w hE hS); refine rl_k hK hS ?_; clear hK hX; clear K; intro hX; all_goals ((refine rl_e2 2 6 (by kernel_rfl) ?_ ?_) <;> first | (intro K hK; refine rg_op (i := 2) hE rfl rfl ?_; (refine is_call 13 rfl ?_; refine qc hE (frame_c g0 DN Sc _ _ _ _ n1 K17 _ 1 (FZ 281474976710655 2 2048) 0 w0 _ _ e17_1 Sc_StI (by decide) hI1 (by omega) (by decide) (by decide) hS.fit) ?_; clear hE hS; clear a; rintro _ a w ⟨A2, c2, n2, rfl, hn2, hI2, hS⟩ hE; dsimp only [VdW, FZ, Fr0, List.length_cons, List.length_nil, Nat.zero_add] at hS hE; have hA2 : (0 : Int) < ((1 : Nat) : Int) → A2 = some (adr A2) := fun _ => (Rd.row (A := A2) (n := 1) (c := c2) (xs := (⟨2, FZ 281474976710655 2 2048⟩ : Ot).cells) hS).some (by decide)); refine rl_k hK hS ?_; clear hK hX; clear K; intro hX; all_goals ((refine rl_e2 5 6 (by kernel_rfl) ?_ ?_) <;> first | (intro K hK; refine rg_op (i := 5) hE rfl rfl ?_; (refine is_call 13 rfl ?_; refine qc hE (frame_c g0 DN Sc _ _ _ _ n2 K17 _ 2 (FZ 2 6 2048) 1 w0 _ _ e17_2 Sc_StI (by decide) hI2 (by omega) (by decide) (by decide) hS.fit) ?_; clear hE hS; clear a; rintro _ a w ⟨A3, c3, n3, rfl, hn3, hI3, hS⟩ hE; dsimp only [VdW, FZ, Fr0, List.length_cons, List.length_nil, Nat.zero_add] at hS hE; have hA3 : (0 : Int) < ((1 : Nat) : Int) → A3 = some (adr A3) := fun _ => (Rd.row (A := A3) (n := 1) (c := c3) (xs := (⟨1, FZ 2 6 2048⟩ : Ot).cells) hS).some (by decide)); refine rl_k hK hS ?_; clear hK hX; clear K; intro hX; all_goals (refine rl_e 6 hE rfl rfl (by kernel_rfl) ?_; intro K hK; (refine qal hE hS ?_; clear hE hS; clear a; intro g a w hE hS); refine rl_k hK hS ?_; clear hK hX; clear K; intro hX); all_goals (refine rl_e 8 hE rfl rfl (by kernel_rfl) ?_; intro K hK; (refine qst0 hE hS ?_; clear hS; intro w hS); refine rl_k hK hS ?_; clear hK hX; clear K; intro hX); all_goals (refine rl_z (z := 9) hE rfl rfl (by kernel_rfl) ?_; intro K hK; (refine qst0 hE hS ?_; clear hS; intro w hS); refine hK _ _ ?_; clear hK; clear K); all_goals (refine rl_done ?_ (by kernel_rfl); (try clear hX))) | (intro K hK; refine rg_op (i := 6) hE rfl rfl ?_; (refine qal hE hS ?_; clear hE hS; clear a; intro g a w hE hS); refine rl_k hK hS ?_; clear hK hX; clear K; intro hX; all_goals (refine rl_e 5 hE rfl rfl (by kernel_rfl) ?_; intro K hK; (refine is_call 13 rfl ?_; refine qc hE (frame_c g0 DN Sc _ _ _ _ n2 K17 _ 2 (FZ 2 6 2048) 1 w0 _ _ e17_2 Sc_StI (by decide) hI2 (by omega) (by decide) (by decide) hS.fit) ?_; clear hE hS; clear a; rintro _ a w ⟨A3, c3, n3, rfl, hn3, hI3, hS⟩ hE; dsimp only [VdW, FZ, Fr0, List.length_cons, List.length_nil, Nat.zero_add] at hS hE; have hA3 : (0 : Int) < ((1 : Nat) : Int) → A3 = some (adr A3) := fun _ => (Rd.row (A := A3) (n := 1) (c := c3) (xs := (⟨1, FZ 2 6 2048⟩ : Ot).cells) hS).some (by decide)); refine rl_k hK hS ?_; clear hK hX; clear K; intro hX); all_goals (refine rl_e 8 hE rfl rfl (by kernel_rfl) ?_; intro K hK; (refine qst0 hE hS ?_; clear hS; intro w hS); refine rl_k hK hS ?_; clear hK hX; clear K; intro hX); all_goals (refine rl_z (z := 9) hE rfl rfl (by kernel_rfl) ?_; intro K hK; (refine qst0 hE hS ?_; clear hS; intro w hS); refine hK _ _ ?_; clear hK; clear K); all_goals (refine rl_done ?_ (by kernel_rfl); (try clear hX))))) | (intro K hK; refine rg_op (i := 6) hE rfl rfl ?_; (refine qal hE hS ?_; clear hE hS; clear a; intro g a w hE hS); refine rl_k hK hS ?_; clear hK hX; clear K; intro hX; all_goals (refine rl_e 2 hE rfl rfl (by kernel_rfl) ?_; intro K hK; (refine is_call 13 rfl ?_; refine qc hE (frame_c g0 DN Sc _ _ _ _ n1 K17 _ 1 (FZ 281474976710655 2 2048) 0 w0 _ _ e17_1 Sc_StI (by decide) hI1 (by omega) (by decide) (by decide) hS.fit) ?_; clear hE hS; clear a; rintro _ a w ⟨A2, c2, n2, rfl, hn2, hI2, hS⟩ hE; dsimp only [VdW, FZ, Fr0, List.length_cons, List.length_nil, Nat.zero_add] at hS hE; have hA2 : (0 : Int) < ((1 : Nat) : Int) → A2 = some (adr A2) := fun _ => (Rd.row (A := A2) (n := 1) (c := c2) (xs := (⟨2, FZ 281474976710655 2 2048⟩ : Ot).cells) hS).some (by decide)); refine rl_k hK hS ?_; clear hK hX; clear K; intro hX); all_goals (refine rl_e 5 hE rfl rfl (by kernel_rfl) ?_; intro K hK; (refine is_call 13 rfl ?_; refine qc hE (frame_c g0 DN Sc _ _ _ _ n2 K17 _ 2 (FZ 2 6 2048) 1 w0 _ _ e17_2 Sc_StI (by decide) hI2 (by omega) (by decide) (by decide) hS.fit) ?_; clear hE hS; clear a; rintro _ a w ⟨A3, c3, n3, rfl, hn3, hI3, hS⟩ hE; dsimp only [VdW, FZ, Fr0, List.length_cons, List.length_nil, Nat.zero_add] at hS hE; have hA3 : (0 : Int) < ((1 : Nat) : Int) → A3 = some (adr A3) := fun _ => (Rd.row (A := A3) (n := 1) (c := c3) (xs := (⟨1, FZ 2 6 2048⟩ : Ot).cells) hS).some (by decide)); refine rl_k hK hS ?_; clear hK hX; clear K; intro hX); all_goals (refine rl_e 8 hE rfl rfl (by kernel_rfl) ?_; intro K hK; (refine qst0 hE hS ?_; clear hS; intro w hS); refine rl_k hK hS ?_; clear hK hX; clear K; intro hX); all_goals (refine rl_z (z := 9) hE rfl rfl (by kernel_rfl) ?_; intro K hK; (refine qst0 hE hS ?_; clear hS; intro w hS); refine hK _ _ ?_; clear hK; clear K); all_goals (refine rl_done ?_ (by kernel_rfl); (try clear hX))))))))
    all_goals exact ⟨_, _, _, A2, c2, A3, c3, n3, by omega, hI3, hE.cut ⟨rfl, rfl, rfl, rfl, trivial⟩, hS.fit⟩
  · clear hE hS a w
    rintro a w ⟨g5, g7, g8, A2, c2, A3, c3, n3, hn3, hI3, hE, hS⟩
    have hA2 : (0 : Int) < ((1 : Nat) : Int) → A2 = some (adr A2) := fun _ => (Rd.row (A := A2) (n := 1) (c := c2) (xs := (⟨2, FZ 281474976710655 2 2048⟩ : Ot).cells) hS).some (by decide)
    have hA3 : (0 : Int) < ((1 : Nat) : Int) → A3 = some (adr A3) := fun _ => (Rd.row (A := A3) (n := 1) (c := c3) (xs := (⟨1, FZ 2 6 2048⟩ : Ot).cells) hS).some (by decide)
    repeat' (first | refine wl_nil ?_ | refine then_n ?_ | refine c_ret ?_ | (refine c_regI 12 ?_; all_goals (refine wl hE rfl ?_; refine qm hE ?_; clear hE a; intro a hE); all_goals (refine wl hE rfl ?_; refine qbu hE ?_; clear hE a; intro a hE); all_goals (refine wl hE rfl ?_; refine is_call 14 rfl ?_; refine qc hE (from_c g0 DN Sc _ _ _ _ n3 K17 _ 7 5 (FZ 2 10 0) 2 w0 _ _ e17_3 Sc_StI (by decide) hI3 (by omega) (by decide) (by decide) (by decide) hS.fit) ?_; clear hE hS; clear a; rintro _ a w ⟨A4, c4, n4, rfl, hn4, hI4, hS⟩ hE; dsimp only [VdW, FZ, Fr0, List.length_cons, List.length_nil, Nat.zero_add] at hS hE); all_goals (refine wl hE rfl ?_; refine qal hE hS ?_; clear hE hS; clear a; intro g a w hE hS); all_goals (refine wl hE rfl ?_; refine qst0 hE hS ?_; clear hS; intro w hS)) | (refine c_regI 13 ?_; all_goals (refine wl hE rfl ?_; refine qm hE ?_; clear hE a; intro a hE); all_goals (refine wl hE rfl ?_; refine qbu hE ?_; clear hE a; intro a hE); all_goals (refine wl hE rfl ?_; refine is_call 13 rfl ?_; refine qc hE (frame_c g0 DN Sc _ _ _ _ n4 K17 _ 1 (FZ 10 2 0) 3 w0 _ _ e17_4 Sc_StI (by decide) hI4 (by omega) (by decide) (by decide) hS.fit) ?_; clear hE hS; clear a; rintro _ a w ⟨A5, c5, n5, rfl, hn5, hI5, hS⟩ hE; dsimp only [VdW, FZ, Fr0, List.length_cons, List.length_nil, Nat.zero_add] at hS hE); all_goals (refine wl hE rfl ?_; refine qal hE hS ?_; clear hE hS; clear a; intro g a w hE hS); all_goals (refine wl hE rfl ?_; refine qst0 hE hS ?_; clear hS; intro w hS)) | (refine c_regI 14 ?_; all_goals (refine wl hE rfl ?_; refine qm hE ?_; clear hE a; intro a hE); all_goals (refine wl hE rfl ?_; refine qbu hE ?_; clear hE a; intro a hE); all_goals (refine wl hE rfl ?_; refine is_call 14 rfl ?_; refine qc hE (from_c g0 DN Sc _ _ _ _ n5 K17 _ 9 5 (FZ 10 14 0) 3 w0 _ _ e17_5 Sc_StI (by decide) hI5 (by omega) (by decide) (by decide) (by decide) hS.fit) ?_; clear hE hS; clear a; rintro _ a w ⟨A6, c6, n6, rfl, hn6, hI6, hS⟩ hE; dsimp only [VdW, FZ, Fr0, List.length_cons, List.length_nil, Nat.zero_add] at hS hE); all_goals (refine wl hE rfl ?_; refine qal hE hS ?_; clear hE hS; clear a; intro g a w hE hS); all_goals (refine wl hE rfl ?_; refine qst0 hE hS ?_; clear hS; intro w hS)) | (refine c_regI 15 ?_; all_goals (refine wl hE rfl ?_; refine qm hE ?_; clear hE a; intro a hE); all_goals (refine wl hE rfl ?_; refine qbu hE ?_; clear hE a; intro a hE); all_goals (refine wl hE rfl ?_; refine is_call 13 rfl ?_; refine qc hE (frame_c g0 DN Sc _ _ _ _ n6 K17 _ 1 (FZ 1652522221568 2 0) 3 w0 _ _ e17_6 Sc_StI (by decide) hI6 (by omega) (by decide) (by decide) hS.fit) ?_; clear hE hS; clear a; rintro _ a w ⟨A7, c7, n7, rfl, hn7, hI7, hS⟩ hE; dsimp only [VdW, FZ, Fr0, List.length_cons, List.length_nil, Nat.zero_add] at hS hE); all_goals (refine wl hE rfl ?_; refine qal hE hS ?_; clear hE hS; clear a; intro g a w hE hS); all_goals (refine wl hE rfl ?_; refine qst0 hE hS ?_; clear hS; intro w hS)) | (refine c_regI 16 ?_; all_goals (refine wl hE rfl ?_; refine qf hE ?_; clear hE a; intro a hE); all_goals (refine wl hE rfl ?_; refine ql hE hS ?_; clear hE a; intro a hE); all_goals (refine wl hE rfl ?_; refine qb hE ?_; clear hE a; intro a hE); all_goals (refine wl hE rfl ?_; refine qm hE ?_; clear hE a; intro a hE); all_goals (refine wl hE rfl ?_; refine qf hE ?_; clear hE a; intro a hE); all_goals (refine wl hE rfl ?_; refine ql hE hS ?_; clear hE a; intro a hE); all_goals (refine wl hE rfl ?_; refine qpt hE ?_; clear hE a; intro a hE); all_goals (refine wl hE rfl ?_; refine qm hE ?_; clear hE a; intro a hE); all_goals (refine wl hE rfl ?_; refine qf hE ?_; clear hE a; intro a hE); all_goals (refine wl hE rfl ?_; refine ql hE hS ?_; clear hE a; intro a hE); all_goals (refine wl hE rfl ?_; refine qn1 hE ?_; clear hE a; intro a hE); all_goals (refine wl hE rfl ?_; refine qb hE ?_; clear hE a; intro a hE); all_goals (refine wl hE rfl ?_; refine qpt hE ?_; clear hE a; intro a hE); all_goals (refine wl hE rfl ?_; refine qm hE ?_; clear hE a; intro a hE); all_goals (refine wl hE rfl ?_; refine qf hE ?_; clear hE a; intro a hE); all_goals (refine wl hE rfl ?_; refine ql hE hS ?_; clear hE a; intro a hE); all_goals (refine wl hE rfl ?_; refine qi hE hA2 ?_; clear hE a; intro a hE); all_goals (refine wl hE rfl ?_; refine qFF hE ?_; clear hE a; intro a hE); all_goals (refine wl hE rfl ?_; refine qlP (f := Ot.cells) (l := [(⟨2, FZ 281474976710655 2 2048⟩ : Ot)]) (i := 0) (df := O0) 0 hE hS otlen (by rfl) ?_ (h1 := by decide); clear hE a; intro a hE); all_goals (refine wl hE rfl ?_; refine qb hE ?_; clear hE a; intro a hE); all_goals (refine wl hE rfl ?_; refine qpt hE ?_; clear hE a; intro a hE); all_goals (refine wl hE rfl ?_; refine qm hE ?_; clear hE a; intro a hE); all_goals (refine wl hE rfl ?_; refine qf hE ?_; clear hE a; intro a hE); all_goals (refine wl hE rfl ?_; refine ql hE hS ?_; clear hE a; intro a hE); all_goals (refine wl hE rfl ?_; refine qb hE ?_; clear hE a; intro a hE); all_goals (refine wl hE rfl ?_; refine qpt hE ?_; clear hE a; intro a hE); all_goals (refine wl hE rfl ?_; refine qm hE ?_; clear hE a; intro a hE); all_goals (refine wl hE rfl ?_; refine qf hE ?_; clear hE a; intro a hE); all_goals (refine wl hE rfl ?_; refine ql hE hS ?_; clear hE a; intro a hE); all_goals (refine wl hE rfl ?_; refine qu hE ?_; clear hE a; intro a hE); all_goals (refine wl hE rfl ?_; refine qpt hE ?_; clear hE a; intro a hE); all_goals (refine wl hE rfl ?_; refine qm hE ?_; clear hE a; intro a hE); all_goals (refine wl hE rfl ?_; refine qf hE ?_; clear hE a; intro a hE); all_goals (refine wl hE rfl ?_; refine ql hE hS ?_; clear hE a; intro a hE); all_goals (refine wl hE rfl ?_; refine qn1 hE ?_; clear hE a; intro a hE); all_goals (refine wl hE rfl ?_; refine qb hE ?_; clear hE a; intro a hE); all_goals (refine wl hE rfl ?_; refine qpt hE ?_; clear hE a; intro a hE); all_goals (refine wl hE rfl ?_; refine qm hE ?_; clear hE a; intro a hE); all_goals (refine wl hE rfl ?_; refine qf hE ?_; clear hE a; intro a hE); all_goals (refine wl hE rfl ?_; refine ql hE hS ?_; clear hE a; intro a hE); all_goals (refine wl hE rfl ?_; refine qi hE hA3 ?_; clear hE a; intro a hE); all_goals (refine wl hE rfl ?_; refine qFF hE ?_; clear hE a; intro a hE); all_goals (refine wl hE rfl ?_; refine qlP (f := Ot.cells) (l := [(⟨1, FZ 2 6 2048⟩ : Ot)]) (i := 0) (df := O0) 0 hE hS otlen (by rfl) ?_ (h1 := by decide); clear hE a; intro a hE); all_goals (refine wl hE rfl ?_; refine qb hE ?_; clear hE a; intro a hE); all_goals (refine wl hE rfl ?_; refine qpt hE ?_; clear hE a; intro a hE); all_goals (refine wl hE rfl ?_; refine qm hE ?_; clear hE a; intro a hE); all_goals (refine wl hE rfl ?_; refine qf hE ?_; clear hE a; intro a hE); all_goals (refine wl hE rfl ?_; refine ql hE hS ?_; clear hE a; intro a hE); all_goals (refine wl hE rfl ?_; refine qn1 hE ?_; clear hE a; intro a hE); all_goals (refine wl hE rfl ?_; refine qb hE ?_; clear hE a; intro a hE); all_goals (refine wl hE rfl ?_; refine qpt hE ?_; clear hE a; intro a hE); all_goals (refine wl hE rfl ?_; refine qm hE ?_; clear hE a; intro a hE); all_goals (refine wl hE rfl ?_; refine qf hE ?_; clear hE a; intro a hE); all_goals (refine wl hE rfl ?_; refine ql hE hS ?_; clear hE a; intro a hE); all_goals (refine wl hE rfl ?_; refine qu hE ?_; clear hE a; intro a hE); all_goals (refine wl hE rfl ?_; refine qpt hE ?_; clear hE a; intro a hE); all_goals (refine wl hE rfl ?_; refine qm hE ?_; clear hE a; intro a hE); all_goals (refine wl hE rfl ?_; refine qf hE ?_; clear hE a; intro a hE); all_goals (refine wl hE rfl ?_; refine ql hE hS ?_; clear hE a; intro a hE); all_goals (refine wl hE rfl ?_; refine qb hE ?_; clear hE a; intro a hE); all_goals (refine wl hE rfl ?_; refine qpt hE ?_; clear hE a; intro a hE); all_goals (refine wl hE rfl ?_; refine qm hE ?_; clear hE a; intro a hE); all_goals (refine wl hE rfl ?_; refine qf hE ?_; clear hE a; intro a hE); all_goals (refine wl hE rfl ?_; refine ql hE hS ?_; clear hE a; intro a hE); all_goals (refine wl hE rfl ?_; refine qn1 hE ?_; clear hE a; intro a hE); all_goals (refine wl hE rfl ?_; refine qb hE ?_; clear hE a; intro a hE); all_goals (refine wl hE rfl ?_; refine qpt hE ?_; clear hE a; intro a hE); all_goals (refine wl hE rfl ?_; refine qm hE ?_; clear hE a; intro a hE); all_goals (refine wl hE rfl ?_; refine qf hE ?_; clear hE a; intro a hE); all_goals (refine wl hE rfl ?_; refine ql hE hS ?_; clear hE a; intro a hE); all_goals (refine wl hE rfl ?_; refine qb hE ?_; clear hE a; intro a hE); all_goals (refine wl hE rfl ?_; refine qpt hE ?_; clear hE a; intro a hE); all_goals (refine wl hE rfl ?_; refine qm hE ?_; clear hE a; intro a hE); all_goals (refine wl hE rfl ?_; refine qf hE ?_; clear hE a; intro a hE); all_goals (refine wl hE rfl ?_; refine ql hE hS ?_; clear hE a; intro a hE); all_goals (refine wl hE rfl ?_; refine qb hE ?_; clear hE a; intro a hE); all_goals (refine wl hE rfl ?_; refine qpt hE ?_; clear hE a; intro a hE); all_goals (refine wl hE rfl ?_; refine qm hE ?_; clear hE a; intro a hE); all_goals (refine wl hE rfl ?_; refine qm hE ?_; clear hE a; intro a hE); all_goals (refine wl hE rfl ?_; refine is_call 12 rfl ?_; refine qc hE (state_c g0 DN Sc S17e F0_ n7 K17 4 0 170 Sc w0 _ _ (by kernel_rfl) Sc_StI (by decide) hS.fit) ?_; clear hE hS; clear a; rintro _ a w ⟨rfl, hS⟩ hE); all_goals (refine wl hE rfl ?_; refine qb hE ?_; clear hE a; intro a hE); all_goals (refine wl hE rfl ?_; refine qpt hE ?_; clear hE a; intro a hE); all_goals (refine wl hE rfl ?_; refine qm hE ?_; clear hE a; intro a hE); all_goals (refine wl hE rfl ?_; refine qm hE ?_; clear hE a; intro a hE); all_goals (refine wl hE rfl ?_; refine is_call 12 rfl ?_; refine qc hE (state_c g0 DN Sc S17e F0_ n7 K17 1 3 1 Sc w0 _ _ (by kernel_rfl) Sc_StI (by decide) hS.fit) ?_; clear hE hS; clear a; rintro _ a w ⟨rfl, hS⟩ hE); all_goals (refine wl hE rfl ?_; refine qb hE ?_; clear hE a; intro a hE); all_goals (refine wl hE rfl ?_; refine qpt hE ?_; clear hE a; intro a hE); all_goals (refine wl hE rfl ?_; refine qm hE ?_; clear hE a; intro a hE); all_goals (refine wl hE rfl ?_; refine qm hE ?_; clear hE a; intro a hE); all_goals (refine wl hE rfl ?_; refine is_call 18 rfl ?_; refine qc hE (forget_c g0 DN Sc S17e S17f F0_ n7 K17 2 1 w0 _ _ (by kernel_rfl) Sc_StI (by decide) hI7 hS.fit) ?_; clear hE hS; clear a; rintro _ a w ⟨rfl, hI8, hS⟩ hE); all_goals (refine wl hE rfl ?_; refine qb hE ?_; clear hE a; intro a hE); all_goals (refine wl hE rfl ?_; refine qpt hE ?_; clear hE a; intro a hE); all_goals (refine wl hE rfl ?_; refine qa hE ?_; clear hE a; intro a hE)) | refine c_seq ?_)
    exact p_ret hE rfl rfl ⟨_, rfl, rfl, hS.clean⟩
end Go.Proofs.Ytdgpjkddpbiieaa
/- DERIVED. Layer 17: what becomes of frames between plain ports of one VLAN. No condition. -/
namespace Go.Proofs.Ytdgpjkddpbiieaa
open Go.RowKit Go.Sx Go.Proofs.YtdgpjkddpbiieaaTy
set_option linter.unusedVariables false
set_option linter.unusedSimpArgs false
set_option maxRecDepth 100000
attribute [local irreducible] Oper.wp Code.wp wpList wpAnyH Calls bodyPost Exit.then Exit.inBlock Code.rounds
set_option maxHeartbeats 1000000
end Go.Proofs.Ytdgpjkddpbiieaa
/- DERIVED. Layer 17: BridgeTalks, BridgeForgets, BridgeShuts: what they hand in. No condition. -/
namespace Go.Proofs.Ytdgpjkddpbiieaa
open Go.RowKit Go.Sx Go.Proofs.YtdgpjkddpbiieaaTy
set_option linter.unusedVariables false
set_option linter.unusedSimpArgs false
set_option maxRecDepth 100000
attribute [local irreducible] Oper.wp Code.wp wpList wpAnyH Calls bodyPost Exit.then Exit.inBlock Code.rounds
set_option maxHeartbeats 2000000
def cutB (b : ByteArray) : ByteArray := b.extract 0 (min (b.size : Int) 100).toNat
theorem cut17_s (f : Fr) (w0 : World) : Calls Try.prog 11 #[.agg #[.int .u64 f.d, .int .u64 f.s, .bool f.h, .int .i64 f.p, .bool f.de, .int .i64 f.v, .int .i64 f.t, .string f.b]] w0 fun e w' => ∃ r, e = .returned r ∧ r = .agg #[.int .u64 f.d, .int .u64 f.s, .bool f.h, .int .i64 f.p, .bool f.de, .int .i64 f.v, .int .i64 f.t, .string (cutB f.b)] ∧ Sep w0 w' [] := by
  refine enter (args := [.agg #[.int .u64 f.d, .int .u64 f.s, .bool f.h, .int .i64 f.p, .bool f.de, .int .i64 f.v, .int .i64 f.t, .string f.b]]) 12 Try.func11 rfl rfl rfl ?_
  intro a hE hS
  repeat' (first | refine wl_nil ?_ | refine then_n ?_ | refine c_ret ?_ | (refine c_regI 0 ?_; all_goals (refine wl hE rfl ?_; refine qbx hE hS ?_; clear hE hS; clear a; intro g a w hE hS); all_goals (refine wl hE rfl ?_; refine qal hE hS ?_; clear hE hS; clear a; intro g a w hE hS)) | (refine c_regI 1 ?_; all_goals (refine wl hE rfl ?_; refine qf hE ?_; clear hE a; intro a hE); all_goals (refine wl hE rfl ?_; refine ql hE hS ?_; clear hE a; intro a hE); all_goals (refine wl hE rfl ?_; refine qf hE ?_; clear hE a; intro a hE); all_goals (refine wl hE rfl ?_; refine ql hE hS ?_; clear hE a; intro a hE); all_goals (refine wl hE rfl ?_; refine qns hE ?_; clear hE a; intro a hE); all_goals (refine wl hE rfl ?_; refine qmin hE ?_; clear hE a; intro a hE); all_goals (refine wl hE rfl ?_; refine qssh hE ?_; clear hE a; intro a hE); all_goals (refine wl hE rfl ?_; refine qf hE ?_; clear hE a; intro a hE); all_goals (refine wl hE rfl ?_; refine qst hE hS ?_; clear hS; intro w hS)) | (refine c_regI 2 ?_; all_goals (refine wl hE rfl ?_; refine qL hE hS ?_; clear hE a; intro a hE); all_goals (refine wl hE rfl ?_; refine qst0 hE hS ?_; clear hS; intro w hS)) | refine c_seq ?_)
  exact p_ret1 hE rfl (rc hE hS .nil) ⟨_, rfl, rfl, hS.clean⟩
end Go.Proofs.Ytdgpjkddpbiieaa
/- DERIVED. The references' New of layers 10 and 11 (as in f8, without layer 11's law). No condition. -/
namespace Go.Proofs.Ytdgpjkddpbiieaa
open Go.RowKit Go.Sx Go.Proofs.YtdgpjkddpbiieaaTy
set_option linter.unusedVariables false
set_option linter.unusedSimpArgs false
set_option maxRecDepth 100000
attribute [local irreducible] Oper.wp Code.wp wpList wpAnyH Calls bodyPost Exit.then Exit.inBlock Code.rounds
set_option maxHeartbeats 1000000
end Go.Proofs.Ytdgpjkddpbiieaa
/- DERIVED. Layer 17: the reference's New; ports as they are handed in, bound. No condition. -/
namespace Go.Proofs.Ytdgpjkddpbiieaa
open Go.RowKit Go.Sx Go.Proofs.YtdgpjkddpbiieaaTy Go.Proofs.YtdgpjkddpbiieaaOp
set_option linter.unusedVariables false
set_option linter.unusedSimpArgs false
set_option maxRecDepth 100000
attribute [local irreducible] Oper.wp Code.wp wpList wpAnyH Calls bodyPost Exit.then Exit.inBlock Code.rounds
set_option maxHeartbeats 2000000
theorem rrightC_s (x : Cfg) (w0 : World) (hx : CfgR w0 x) : Calls Try.prog 22 #[.agg x.cells.toArray] w0 fun e w' => ∃ r, e = .returned r ∧ r = .bool (rightX x) ∧ Sep w0 w' [] :=
  refright_s x.tr x.pv x.A x.c x.xs w0 hx.1 hx.2
def bndC (x : Cfg) : Bool × Int × List Int := (x.tr, x.pv, x.xs.take 12)
theorem boundC_s (x : Cfg) (w0 : World) (hx : CfgR w0 x) (hc : x.xs.length ≤ x.c) : Calls Try.prog 19 #[.agg x.cells.toArray] w0 fun e w' => ∃ r, e = .returned r ∧ ∃ y : Cfg, r = .agg y.cells.toArray ∧ y.key = bndC x ∧ Sep w0 w' [cfgRow y] :=
  (bound_s x.tr x.pv x.A x.c x.xs w0 hx.1 hx.2 hc).mono fun e w' ⟨r, h1, A', c', h2, h3⟩ => ⟨r, h1, ⟨x.tr, x.pv, A', c', x.xs.take 12⟩, h2, rfl, h3⟩
end Go.Proofs.Ytdgpjkddpbiieaa
/- DERIVED. Layer 17: BridgeNews. No condition. -/
namespace Go.Proofs.Ytdgpjkddpbiieaa
open Go.RowKit Go.Sx Go.Proofs.YtdgpjkddpbiieaaTy Go.Proofs.YtdgpjkddpbiieaaOp
set_option linter.unusedVariables false
set_option linter.unusedSimpArgs false
set_option maxRecDepth 100000
attribute [local irreducible] Oper.wp Code.wp wpList wpAnyH Calls bodyPost Exit.then Exit.inBlock Code.rounds
set_option maxHeartbeats 2000000
theorem cfgs_ok {w0 w : World} {D : List Cfg} {L L' : List Asn} (hS : Sep w0 w L) (hx12 : ∀ x ∈ D, x.xs.length ≤ 12) (hp : Pull (stars (D.map cfgRow)) L L' := by repeat (first | exact Pull.here | apply Pull.there)) : ∀ x ∈ D, CfgR w x ∧ x.xs.length ≤ x.c ∧ x.xs.length ≤ 1073741824 := fun x hx => by
  obtain ⟨R, hR⟩ := hS.star_at (A := cfgRow x) (List.mem_map_of_mem hx) hp
  have := hx12 x hx
  exact ⟨cfgs_read hS hp x hx, (hR.row_cap (A := x.A) (n := x.xs.length) (c := x.c) (xs := ints x.xs)).1, by omega⟩
end Go.Proofs.Ytdgpjkddpbiieaa
/- DERIVED. Layer 17: ports, and a box, as they are handed in; BridgeNews' call. No condition. -/
namespace Go.Proofs.Ytdgpjkddpbiieaa
open Go.RowKit Go.Sx Go.Proofs.YtdgpjkddpbiieaaTy Go.Proofs.YtdgpjkddpbiieaaOp
set_option linter.unusedVariables false
set_option linter.unusedSimpArgs false
set_option maxRecDepth 100000
attribute [local irreducible] Oper.wp Code.wp wpList wpAnyH Calls bodyPost Exit.then Exit.inBlock Code.rounds
set_option maxHeartbeats 1000000
theorem cfg_open {W : World} {x : T55} {cs : List Value} (K : kd55.K W x cs) : ∃ A c, cs = [.bool x.1, .int .i64 x.2.1, .slice A x.2.2.length c] ∧ x.2.2.length ≤ c ∧ Rd W A (ints x.2.2) := by
  obtain ⟨_, _, rfl, rfl, _, _, rfl, rfl, A', c', rs, e, hle, hr, hR⟩ := K
  cases e
  rw [Kn.Rows.flat (f := fun x => [Value.int .i64 x]) (fun x r h => by cases h; rfl) x.2.2 rs hr] at hR
  exact ⟨_, _, rfl, hle, by rwa [ints_flat]⟩
theorem cfgs_open {W : World} : ∀ (xs : List T55) (rs : List (List Value)), kd55.Rows W xs rs → (∀ y ∈ xs, wf55 y) → ∃ l : List Cfg, l.length = xs.length ∧ rs.flatten = l.flatMap Cfg.cells ∧ ∀ x ∈ l, CfgR W x ∧ x.xs.length ≤ x.c
  | [], [], _, _ => ⟨[], rfl, rfl, fun _ h => by cases h⟩
  | x :: xs, r :: rs, hr, hw => by
    obtain ⟨l, h1, h2, h3⟩ := cfgs_open xs rs hr.2 (fun y hy => hw y (List.mem_cons_of_mem _ hy))
    obtain ⟨A, c, rfl, hc, hR⟩ := cfg_open hr.1
    refine ⟨⟨x.1, x.2.1, A, c, x.2.2⟩ :: l, by simp [h1], by simp [h2, Cfg.cells], fun y hy => ?_⟩
    rcases List.mem_cons.1 hy with rfl | hy
    · exact ⟨⟨hR, Nat.le_trans (hw x (by simp)).2.2.1 (by decide)⟩, hc⟩
    · exact h3 y hy
  | [], _ :: _, h, _ => h.elim
  | _ :: _, [], h, _ => h.elim
theorem box_open {W : World} {x : T26} {cs : List Value} (K : kd26.K W x cs) (hw : wf26 x) : ∃ (A : Option Addr) (cap : Nat) (l : List Cfg) (kp : Kp), cs = [.slice A l.length cap, .int .i64 kp.room, .int .i64 kp.life, .int .i64 kp.moves, .int .i64 kp.win] ∧ Rd W A (l.flatMap Cfg.cells) ∧ l.length ≤ maxLen ∧ ∀ x ∈ l, CfgR W x ∧ x.xs.length ≤ x.c := by
  obtain ⟨_, _, rfl, ⟨A', c', rs, rfl, hle, hr, hR⟩, _, _, rfl, rfl, _, _, rfl, rfl, _, _, rfl, rfl, rfl⟩ := K
  obtain ⟨l, h1, h2, h3⟩ := cfgs_open x.1 rs hr hw.1.2
  rw [h2] at hR
  exact ⟨A', c', l, ⟨x.2.1, x.2.2.1, x.2.2.2.1, x.2.2.2.2⟩, by rw [h1]; rfl, hR, by rw [h1]; exact hw.1.1, h3⟩
end Go.Proofs.Ytdgpjkddpbiieaa
/- DERIVED. Layer 17: where frames go out: the law of BridgeApart, in plain words. No condition. -/
namespace Go.Proofs.Ytdgpjkddpbiieaa
open Go.RowKit Go.Sx
set_option linter.unusedVariables false
set_option linter.unusedSimpArgs false
/-- Frames go out at ports that rise, have the VLAN, and forward; but for the tag they are one frame. -/
def OutsR (D : List Cfg) (St : List Int) (vid but : Int) (f : Fr) : Int → List Ot → Prop
  | _, [] => True
  | last, o :: r => (last < o.n ∧ 1 ≤ o.n ∧ o.n ≤ D.length ∧ o.n ≠ but ∧ St.getD o.n.toNat 0 = 2 ∧ hasC (D.getD (o.n - 1).toNat C0) vid = true ∧ o.f.bare = f) ∧ OutsR D St vid but f o.n r
theorem OutsR_nC (D : List Cfg) (St : List Int) (vid but : Int) (f : Fr) : ∀ (l : List Ot) (last : Int), OutsR (D.map nC) St vid but f last l = OutsR D St vid but f last l
  | [], _ => rfl
  | o :: r, last => by simp only [OutsR, OutsR_nC D St vid but f r, getD_nC, hasC_nC, List.length_map]
/-- What a verdict is. -/
def VOk (D : List Cfg) (St : List Int) (but : Int) (V : Vd) : Prop :=
  (V.what ≠ 0 → V.outs = [] ∧ V.peer = 0 ∧ V.fl = false) ∧ (V.what = 0 → OutsR D St V.vid but V.f 0 V.outs ∧ (V.peer ≠ 0 → V.outs = []) ∧ V.f.h = false ∧ ownB V.f.s = true ∧ 0 ≤ V.f.s)
theorem VOk_W (D : List Cfg) (St : List Int) (but k : Int) (hk : k ≠ 0) : VOk D St but (VdW k) := ⟨fun _ => ⟨rfl, rfl, rfl⟩, fun h => absurd h hk⟩
theorem outC_is {x : Cfg} {vid : Int} {f : Fr} (h : (outC x vid f).2 = true) : hasC x vid = true ∧ (outC x vid f).1.bare = f.bare := by
  unfold outC at h ⊢
  unfold hasC
  split
  · rename_i hc
    refine ⟨hc, ?_⟩
    dsimp only
    split <;> rfl
  · rename_i hc
    rw [if_neg hc] at h
    cases h
theorem portsTo_up (l : List Cfg) (vid : Int) : ∀ i, (portsTo l vid i).Pairwise (· < ·) ∧ ∀ k ∈ portsTo l vid i, k ≤ i
  | 0 => ⟨by simp [portsTo], by simp [portsTo]⟩
  | i + 1 => by
    obtain ⟨h1, h2⟩ := portsTo_up l vid i
    simp only [portsTo]
    split
    · refine ⟨List.pairwise_append.2 ⟨h1, List.pairwise_singleton _ _, fun a ha b hb => ?_⟩, fun k hk => ?_⟩
      · have := h2 a ha
        rw [List.mem_singleton.1 hb]
        omega
      · rcases List.mem_append.1 hk with h | h
        · have := h2 k h
          omega
        · rw [List.mem_singleton.1 h]
          omega
    · exact ⟨h1, fun k hk => by have := h2 k hk; omega⟩
theorem flood_ok {D : List Cfg} {St : List Int} {vid fm : Int} {f : Fr} (hf : f.bare = f) : ∀ (ps : List Int) (last : Int), (last :: ps).Pairwise (· < ·) → (∀ k ∈ ps, 1 ≤ k ∧ k ≤ D.length ∧ hasC (D.getD (k - 1).toNat C0) vid = true) → OutsR D St vid fm f last (floodOf D St vid f fm ps)
  | [], _, _, _ => trivial
  | p :: ps, last, hp, hk => by
    have hp1 := List.pairwise_cons.1 hp
    have hlt := hp1.1 p (by simp)
    have hrest : (last :: ps).Pairwise (· < ·) := List.pairwise_cons.2 ⟨fun x hx => hp1.1 x (by simp [hx]), (List.pairwise_cons.1 hp1.2).2⟩
    have ih := flood_ok (D := D) (vid := vid) (f := f) (St := St) (fm := fm) hf ps
    have hks : ∀ k ∈ ps, 1 ≤ k ∧ k ≤ D.length ∧ hasC (D.getD (k - 1).toNat C0) vid = true := fun k h => hk k (by simp [h])
    have e : floodOf D St vid f fm (p :: ps) = (if p = fm then [] else outOne D St vid f p) ++ floodOf D St vid f fm ps := by simp [floodOf]
    rw [e]
    by_cases hpf : p = fm
    · rw [if_pos hpf, List.nil_append]
      exact ih last hrest hks
    · rw [if_neg hpf]
      unfold outOne
      split
      · rename_i hc
        have h1 := hk p (by simp)
        have h2 := outC_is hc.2
        refine ⟨⟨hlt, h1.1, h1.2.1, hpf, hc.1, h1.2.2, by rw [h2.2, hf]⟩, ih p hp1.2 hks⟩
      · rw [List.nil_append]
        exact ih last hrest hks
theorem send_ok {D : List Cfg} {St : List Int} {vid fm : Int} {f : Fr} {v : Int × Int} {b : Bool} (hf : f.bare = f) (hs : ownB f.s = true) : ∀ {rw_ rp : Int} {M : List Ot} {rf : Bool}, sendR D St vid f fm v b = (rw_, M, rp, rf) → OutsR D St vid fm f 0 M ∧ (rp ≠ 0 → M = []) := by
  intro rw_ rp M rf h
  unfold sendR at h
  have hup := portsTo_up D vid D.length
  have hin := portsTo_in D vid D.length (Nat.le_refl _)
  split at h
  · split at h
    · cases h
      exact ⟨trivial, fun _ => rfl⟩
    · split at h
      · cases h
        exact ⟨trivial, fun _ => rfl⟩
      · split at h
        · rename_i h1 h2 h3
          cases h
          refine ⟨?_, fun h => absurd rfl h⟩
          unfold outOne
          split
          · rename_i hc
            have h4 := outC_is hc.2
            exact ⟨⟨by show (0 : Int) < v.2; omega, h3.1, h3.2, h2, hc.1, h4.1, by rw [h4.2, hf]⟩, trivial⟩
          · trivial
        · cases h
          exact ⟨trivial, fun _ => rfl⟩
  · cases h
    refine ⟨flood_ok hf _ 0 (List.pairwise_cons.2 ⟨fun k hk => ?_, hup.1⟩) (fun k hk => ?_), fun h => absurd rfl h⟩
    · have := hin k hk
      omega
    · have := hin k hk
      exact ⟨this.1, this.2.1, this.2.2⟩
theorem inC_is {x : Cfg} {f g : Fr} {vid : Int} (h : inC x f = (vid, g, true)) : g = f.bare := by
  unfold inC at h
  split at h
  · injection h with h1 h2
    injection h2 with h2 h3
    exact h2.symm
  · injection h with h1 h2
    injection h2 with h2 h3
    cases h3
theorem frame_apart {D : List Cfg} {St : List Int} {kp : Kp} {S S2 : List En} {F F2 : Int → List Int} {port now : Int} {f : Fr} {V : Vd} (hs0 : 0 ≤ f.s) (h : frameT D St kp S F port f now = (V, S2, F2)) : VOk D St port V := by
  unfold frameT at h
  split at h
  · split at h
    · cases h; exact VOk_W _ _ _ _ (by decide)
    · split at h
      · cases h; exact VOk_W _ _ _ _ (by decide)
      · dsimp only at h
        split at h
        · rename_i hin
          split at h
          · rename_i hos
            split at h
            · cases h; exact VOk_W _ _ _ _ (by decide)
            · split at h
              · have hg : (inC (D.getD (port - 1).toNat C0) f).2.1 = f.bare := inC_is (x := D.getD (port - 1).toNat C0) (f := f) (vid := (inC (D.getD (port - 1).toNat C0) f).1) (by rw [← hin])
                rw [hg] at h
                obtain ⟨rw_, M, rp, rf, hr⟩ : ∃ rw_ M rp rf, sendR D St (inC (D.getD (port - 1).toNat C0) f).1 f.bare port (findT kp (learnT kp S F (inC (D.getD (port - 1).toNat C0) f).1 f.s 0 port now).2.1 (inC (D.getD (port - 1).toNat C0) f).1 f.bare.d now).1 (findT kp (learnT kp S F (inC (D.getD (port - 1).toNat C0) f).1 f.s 0 port now).2.1 (inC (D.getD (port - 1).toNat C0) f).1 f.bare.d now).2 = (rw_, M, rp, rf) := ⟨_, _, _, _, rfl⟩
                rw [hr] at h
                dsimp only at h
                obtain ⟨h1, h2⟩ := send_ok (f := f.bare) rfl hos hr
                split at h
                · cases h
                  exact ⟨fun h => absurd rfl h, fun _ => ⟨h1, h2, rfl, hos, hs0⟩⟩
                · rename_i hne
                  cases h
                  exact VOk_W _ _ _ _ hne
              · cases h; exact VOk_W _ _ _ _ (by decide)
          · cases h; exact VOk_W _ _ _ _ (by decide)
        · cases h; exact VOk_W _ _ _ _ (by decide)
  · cases h; exact VOk_W _ _ _ _ (by decide)
theorem foreign_own {peer vid : Int} {f : Fr} (h : foreignR peer vid f = 0) : ownB f.s = true := by
  unfold foreignR at h
  split at h
  · split at h
    · cases h
    · rename_i hn
      cases ho : ownB f.s
      · exact absurd (.inr ho) hn
      · rfl
  · cases h
theorem from_apart {D : List Cfg} {St : List Int} {kp : Kp} {S S2 : List En} {F F2 : Int → List Int} {peer vid now : Int} {f : Fr} {V : Vd} (hs0 : 0 ≤ f.s) (h : fromT D St kp S F peer vid f now = (V, S2, F2)) : VOk D St 0 V ∧ V.peer = 0 ∧ V.fl = false := by
  unfold fromT at h
  split at h
  · rename_i hfo
    dsimp only at h
    split at h
    · cases h; exact ⟨VOk_W _ _ _ _ (by decide), rfl, rfl⟩
    · obtain ⟨rw_, M, rp, rf, hr⟩ : ∃ rw_ M rp rf, sendR D St vid f.bare 0 (findT kp (learnT kp S F vid f.s 1 peer now).2.1 vid f.d now).1 (findT kp (learnT kp S F vid f.s 1 peer now).2.1 vid f.d now).2 = (rw_, M, rp, rf) := ⟨_, _, _, _, rfl⟩
      rw [hr] at h
      dsimp only at h
      obtain ⟨h1, h2⟩ := send_ok (f := f.bare) rfl (foreign_own hfo) hr
      split at h
      · rename_i hz
        cases h
        exact ⟨⟨fun h => absurd rfl h, fun _ => ⟨h1, h2, rfl, foreign_own hfo, hs0⟩⟩, hz, rfl⟩
      · cases h; exact ⟨VOk_W _ _ _ _ (by decide), rfl, rfl⟩
  · rename_i hfo
    cases h; exact ⟨VOk_W _ _ _ _ hfo, rfl, rfl⟩
end Go.Proofs.Ytdgpjkddpbiieaa
/- DERIVED. Layer 17: the right ports of a box; a table's kind; are outs right? No condition. -/
namespace Go.Proofs.Ytdgpjkddpbiieaa
open Go.RowKit Go.Sx Go.Proofs.YtdgpjkddpbiieaaTy Go.Proofs.YtdgpjkddpbiieaaOp
set_option linter.unusedVariables false
set_option linter.unusedSimpArgs false
set_option maxRecDepth 100000
attribute [local irreducible] Oper.wp Code.wp wpList wpAnyH Calls bodyPost Exit.then Exit.inBlock Code.rounds
set_option maxHeartbeats 2000000
def keepK (kp : Kp) : Kp := ⟨1 + kp.room % 16, 1 + kp.life % 64, kp.moves % 4, 1 + kp.win % 16⟩
theorem keepK_ok (kp : Kp) : okK (keepK kp) := by
  refine ⟨⟨?_, ?_, ?_, ?_⟩, ?_, ?_, ?_, ?_⟩ <;> dsimp only [keepK] <;> omega
theorem keep17_s (kp k2 : Kp) (h : k2 = keepK kp) (w0 : World) : Calls Try.prog 10 #[.agg #[.int .i64 kp.room, .int .i64 kp.life, .int .i64 kp.moves, .int .i64 kp.win]] w0 fun e w' => ∃ r, e = .returned r ∧ r = .agg #[.int .i64 k2.room, .int .i64 k2.life, .int .i64 k2.moves, .int .i64 k2.win] ∧ Sep w0 w' [] := by
  have hm1 : bAnd .i64 kp.room 15 = kp.room % 16 := bAnd_mask kp.room 4 (by decide)
  have hm2 : bAnd .i64 kp.life 63 = kp.life % 64 := bAnd_mask kp.life 6 (by decide)
  have hm3 : bAnd .i64 kp.moves 3 = kp.moves % 4 := bAnd_mask kp.moves 2 (by decide)
  have hm4 : bAnd .i64 kp.win 15 = kp.win % 16 := bAnd_mask kp.win 4 (by decide)
  subst h
  unfold keepK
  rw [← hm1, ← hm2, ← hm3, ← hm4]
  refine enter (args := [.agg #[.int .i64 kp.room, .int .i64 kp.life, .int .i64 kp.moves, .int .i64 kp.win]]) 19 Try.func10 rfl rfl rfl ?_
  intro a hE hS
  repeat' (first | refine wl_nil ?_ | refine then_n ?_ | refine c_ret ?_ | (refine c_regI 0 ?_; all_goals (refine wl hE rfl ?_; refine qbx hE hS ?_; clear hE hS; clear a; intro g a w hE hS); all_goals (refine wl hE rfl ?_; refine qal hE hS ?_; clear hE hS; clear a; intro g a w hE hS)) | (refine c_regI 1 ?_; all_goals (refine wl hE rfl ?_; refine qf hE ?_; clear hE a; intro a hE); all_goals (refine wl hE rfl ?_; refine ql hE hS ?_; clear hE a; intro a hE); all_goals (refine wl hE rfl ?_; refine qb2 hE ?_; clear hE a; intro a hE); all_goals (refine wl hE rfl ?_; refine qb hE ?_; clear hE a; intro a hE); all_goals (refine wl hE rfl ?_; refine qf hE ?_; clear hE a; intro a hE); all_goals (refine wl hE rfl ?_; refine ql hE hS ?_; clear hE a; intro a hE); all_goals (refine wl hE rfl ?_; refine qb2 hE ?_; clear hE a; intro a hE); all_goals (refine wl hE rfl ?_; refine qb hE ?_; clear hE a; intro a hE); all_goals (refine wl hE rfl ?_; refine qf hE ?_; clear hE a; intro a hE); all_goals (refine wl hE rfl ?_; refine ql hE hS ?_; clear hE a; intro a hE); all_goals (refine wl hE rfl ?_; refine qb2 hE ?_; clear hE a; intro a hE); all_goals (refine wl hE rfl ?_; refine qf hE ?_; clear hE a; intro a hE); all_goals (refine wl hE rfl ?_; refine ql hE hS ?_; clear hE a; intro a hE); all_goals (refine wl hE rfl ?_; refine qb2 hE ?_; clear hE a; intro a hE); all_goals (refine wl hE rfl ?_; refine qb hE ?_; clear hE a; intro a hE); all_goals (refine wl hE rfl ?_; refine qbu hE ?_; clear hE a; intro a hE); all_goals (refine wl hE rfl ?_; refine qst0 hE hS ?_; clear hS; intro w hS)) | refine c_seq ?_)
  exact p_ret1 hE rfl (rc hE hS .nil) ⟨_, rfl, rfl, hS.clean⟩
theorem right17_s (A : Option Addr) (cap : Nat) (l : List Cfg) (kp : Kp) (w0 : World) (hR : Rd w0 A (l.flatMap Cfg.cells)) (hl : l.length ≤ maxLen) (hX : ∀ x ∈ l, CfgR w0 x ∧ x.xs.length ≤ x.c) :
    Calls Try.prog 8 #[.agg #[.slice A l.length cap, .int .i64 kp.room, .int .i64 kp.life, .int .i64 kp.moves, .int .i64 kp.win]] w0 fun e w' => ∃ r, e = .returned r ∧ ∃ (D : List Cfg) (A2 : Option Addr) (c2 : Nat), r = .slice A2 D.length c2 ∧ D.length ≤ 5 ∧ (∀ x ∈ D, x.xs.length ≤ 12 ∧ rightX x = true) ∧ Sep w0 w' [row 55 3 (.slice A2 D.length c2) D.length (D.flatMap Cfg.cells), stars (D.map cfgRow)] := by
  have hA : (0 : Int) < l.length → A = some (adr A) := fun h => hR.some (by rw [flat_len clen]; omega)
  have hT := hR.at_
  have hmax : maxLen ≤ 9223372036854775807 := by decide
  refine enter (args := [.agg #[.slice A l.length cap, .int .i64 kp.room, .int .i64 kp.life, .int .i64 kp.moves, .int .i64 kp.win]]) 31 Try.func8 rfl rfl rfl ?_
  intro a hE hS
  repeat' (first | refine wl_nil ?_ | refine then_n ?_ | refine c_block ?_ | (refine c_regI 0 ?_; all_goals (refine wl hE rfl ?_; refine qbx hE hS ?_; clear hE hS; clear a; intro g a w hE hS); all_goals (refine wl hE rfl ?_; refine qa hE ?_; clear hE a; intro a hE)) | (refine c_regI 1 ?_; all_goals (refine wl hE rfl ?_; refine qbs0 hE hS ?_; clear hE hS; clear a; intro g a w hE hS); all_goals (refine wl hE rfl ?_; refine qa hE ?_; clear hE a; intro a hE)) | (refine c_regI 2 ?_; all_goals (refine wl hE rfl ?_; refine qa hE ?_; clear hE a; intro a hE)) | refine c_seq ?_)
  refine c_loopN (fun m a w => ∃ i : Int, 0 ≤ i ∧ i ≤ l.length ∧ m = (l.length - i).toNat ∧ ∃ (gB : Nat) (D : List Cfg) (A2 : Option Addr) (c2 : Nat), D.length ≤ 5 ∧ D.length ≤ i ∧ (∀ x ∈ D, x.xs.length ≤ 12 ∧ rightX x = true) ∧ Env a 31 [(1, .pointer (some ⟨gB, 0, none⟩)), (3, .slice A2 D.length c2), (4, .int .i64 i)] ∧ Sep w0 w [blk gB [.slice A l.length cap, .int .i64 kp.room, .int .i64 kp.life, .int .i64 kp.moves, .int .i64 kp.win] 26, row 55 3 (.slice A2 D.length c2) D.length (D.flatMap Cfg.cells), stars (D.map cfgRow)]) _ ⟨0, by omega, by omega, rfl, _, [], _, _, by simp, by simp, by simp, hE.cut ⟨rfl, rfl, rfl, trivial⟩, (Sep.in_stars (M := []) hS).fit⟩ ?_
  clear hE hS a w
  rintro m a w ⟨i, h0, h1, rfl, gB, D, A2, c2, hD8, hDi, hx12, hE, hS⟩
  obtain ⟨x, hx⟩ : ∃ x, l.getD i.toNat C0 = x := ⟨_, rfl⟩
  have hxR : ∀ _ : Unit, i < l.length → CfgR w0 x ∧ x.xs.length ≤ x.c := fun _ h => hX x (hx ▸ getD_memC (by omega))
  obtain ⟨g0, hg0⟩ : ∃ g0, g0 = gB := ⟨_, rfl⟩
  rw [← hg0] at hE hS
  clear hg0
  by_cases hi : i < l.length ∧ i < 5
  · repeat' (first | refine wl_nil ?_ | refine then_n ?_ | refine c_block ?_ | refine c_skip ?_ | refine inb_n ?_ | (refine c_regI 3 ?_; all_goals (refine wl hE rfl ?_; refine qm hE ?_; clear hE a; intro a hE); all_goals (refine wl hE rfl ?_; refine qf hE ?_; clear hE a; intro a hE); all_goals (refine wl hE rfl ?_; refine ql hE hS ?_; clear hE a; intro a hE); all_goals (refine wl hE rfl ?_; refine qn1 hE ?_; clear hE a; intro a hE); all_goals (refine wl hE rfl ?_; refine qb hE ?_; clear hE a; intro a hE); all_goals (refine wl hE rfl ?_; refine qm hE ?_; clear hE a; intro a hE); all_goals ((refine wl_splitg hE rfl rfl ?_ ?_) <;> (clear hE; intro hb hE; (first | replace hb := of_decide_eq_true hb | replace hb := of_decide_eq_false hb | (simp only [Bool.not_eq_true', Bool.not_eq_false', decide_eq_true_eq, decide_eq_false_iff_not] at hb) | skip); try (exfalso; first | omega | exact absurd trivial hb | exact absurd rfl hb | (simp only [beq_self_eq_true, bne_self_eq_false, reduceCtorEq] at hb; done))) <;> (refine wl hE rfl ?_; refine qm hE ?_; clear hE a; intro a hE)); all_goals (refine wl hE rfl ?_; refine qb hE ?_; clear hE a; intro a hE); all_goals (refine wl hE rfl ?_; refine qpt hE ?_; clear hE a; intro a hE)) | (refine c_regI 5 ?_; all_goals (refine wl hE rfl ?_; refine qf hE ?_; clear hE a; intro a hE); all_goals (refine wl hE rfl ?_; refine ql hE hS ?_; clear hE a; intro a hE); all_goals (refine wl hE rfl ?_; refine qm hE ?_; clear hE a; intro a hE); all_goals (refine wl hE rfl ?_; refine qi hE hA ?_; clear hE a; intro a hE); all_goals (refine wl hE rfl ?_; refine qLs (i := i) (us := x.cells) (df := C0) hE hS clen hT (by rw [hx]) ?_; clear hE a; intro a hE); all_goals (refine wl hE rfl ?_; refine is_call 19 rfl ?_; refine qc hE (boundC_s x _ ((hxR () (by omega)).1.move hS) (hxR () (by omega)).2) ?_; clear hE; clear a; rintro _ a w ⟨y, rfl, hy, hS1⟩ hE; replace hS := hS.then hS1; clear hS1; have hy12 : y.xs.length ≤ 12 := by rw [show y.xs = x.xs.take 12 from congrArg (fun k => k.2.2) hy, List.length_take]; omega); all_goals (refine wl hE rfl ?_; refine qal hE hS ?_; clear hE hS; clear a; intro g a w hE hS); all_goals (refine wl hE rfl ?_; refine qst0 hE hS ?_; clear hS; intro w hS)) | (refine c_regI 6 ?_; all_goals (refine wl hE rfl ?_; refine qL hE hS ?_; clear hE a; intro a hE); all_goals (refine wl hE rfl ?_; refine is_call 22 rfl ?_; refine qc hE (rrightC_s y _ ⟨Rd.row (A := y.A) (n := y.xs.length) (c := y.c) (xs := ints y.xs) hS, by omega⟩) ?_; (obtain ⟨ry, hry⟩ : ∃ b, rightX y = b := ⟨_, rfl⟩); rw [hry]; clear hE; clear a; rintro _ a w ⟨rfl, hS1⟩ hE; replace hS := hS.then hS1; clear hS1)) | (refine c_regI 7 ?_; all_goals (refine wl hE rfl ?_; refine qm hE ?_; clear hE a; intro a hE); all_goals (refine wl hE rfl ?_; refine qL hE hS ?_; clear hE a; intro a hE); all_goals (refine wl hE rfl ?_; refine qbs1 hE hS ?_; clear hE hS; clear a; intro g a w hE hS); all_goals (refine wl hE rfl ?_; refine qap (A := A2) (c := c2) (N := D.length + 1) (xs := D.flatMap Cfg.cells) (ys := (D ++ [y]).flatMap Cfg.cells) hE hS (Rd.row (n := 1) (xs := y.cells) hS) (fun u hu => cfg_one [y] u (by simpa using hu)) ?_ (hY := cfg_snoc D y); clear hE hS; clear a; intro A3 c3 a w hE hS); all_goals (refine wl hE rfl ?_; refine qa hE ?_; clear hE a; intro a hE)) | (refine c_regI 4 ?_; all_goals (refine wl hE rfl ?_; refine qm hE ?_; clear hE a; intro a hE); all_goals (refine wl hE rfl ?_; refine qb hE ?_; clear hE a; intro a hE); all_goals (refine wl hE rfl ?_; refine qa hE ?_; clear hE a; intro a hE)) | refine c_seq ?_ | ((refine c_cond hE rfl ?_ ?_) <;> (intro hb; (first | replace hb := of_decide_eq_true hb | replace hb := of_decide_eq_false hb | (simp only [Bool.not_eq_true', Bool.not_eq_false', decide_eq_true_eq, decide_eq_false_iff_not] at hb) | skip); try (exfalso; first | omega | exact absurd trivial hb | exact absurd rfl hb | (simp only [beq_self_eq_true, bne_self_eq_false, reduceCtorEq] at hb; done)))))
    · have e2 : (D ++ [y]).length = D.length + 1 := by simp
      rw [← e2] at hS hE
      refine ⟨_, by omega, i + 1, by omega, by omega, rfl, g0, D ++ [y], A3, c3, by omega, by omega, fun z hz => ?_, hE.cut ⟨rfl, rfl, rfl, trivial⟩, ?_⟩
      · rcases List.mem_append.1 hz with h | h
        · exact hx12 z h
        · rw [List.mem_singleton.1 h]; exact ⟨hy12, hry.trans (by assumption)⟩
      · have h5 : Sep w0 w (cfgRow y :: stars (D.map cfgRow) :: blk g0 [.slice A l.length cap, .int .i64 kp.room, .int .i64 kp.life, .int .i64 kp.moves, .int .i64 kp.win] 26 :: row 55 3 (.slice A3 (D ++ [y]).length c3) (D ++ [y]).length ((D ++ [y]).flatMap Cfg.cells) :: []) := hS.fit
        have h6 := h5.stars_snoc
        rw [show D.map cfgRow ++ [cfgRow y] = (D ++ [y]).map cfgRow by simp] at h6
        exact h6.fit
    · exact ⟨_, by omega, i + 1, by omega, by omega, rfl, g0, D, A2, c2, hD8, by omega, hx12, hE.cut ⟨rfl, rfl, rfl, trivial⟩, hS.fit⟩
  · repeat' (first | refine wl_nil ?_ | refine then_n ?_ | refine c_exit ?_ | refine c_ret ?_ | refine then_e ?_ | refine inb_e ?_ | refine c_cond_f hE rfl ?_ | (refine c_regI 3 ?_; all_goals (refine wl hE rfl ?_; refine qm hE ?_; clear hE a; intro a hE); all_goals (refine wl hE rfl ?_; refine qf hE ?_; clear hE a; intro a hE); all_goals (refine wl hE rfl ?_; refine ql hE hS ?_; clear hE a; intro a hE); all_goals (refine wl hE rfl ?_; refine qn1 hE ?_; clear hE a; intro a hE); all_goals (refine wl hE rfl ?_; refine qb hE ?_; clear hE a; intro a hE); all_goals (refine wl hE rfl ?_; refine qm hE ?_; clear hE a; intro a hE); all_goals ((refine wl_splitg hE rfl rfl ?_ ?_) <;> (clear hE; intro hb hE; (first | replace hb := of_decide_eq_true hb | replace hb := of_decide_eq_false hb | (simp only [Bool.not_eq_true', Bool.not_eq_false', decide_eq_true_eq, decide_eq_false_iff_not] at hb) | skip); try (exfalso; first | omega | exact absurd trivial hb | exact absurd rfl hb | (simp only [beq_self_eq_true, bne_self_eq_false, reduceCtorEq] at hb; done))) <;> (first | (refine wl hE rfl ?_; refine qm hE ?_; clear hE a; intro a hE) | (refine wl_skip hE rfl rfl rfl ?_; clear hE a; intro a hE))); all_goals (first | (refine wl hE rfl ?_; refine qb hE ?_; clear hE a; intro a hE) | (refine wl_skip hE rfl rfl rfl ?_; clear hE a; intro a hE)); all_goals (refine wl hE rfl ?_; first | (refine qpt hE ?_; clear hE a; intro a hE) | (refine qpf hE ?_; clear hE a; intro a hE))) | (refine c_regI 8 ?_; all_goals (refine wl hE rfl ?_; refine qm hE ?_; clear hE a; intro a hE); all_goals (refine wl hE rfl ?_; refine qa hE ?_; clear hE a; intro a hE)) | refine c_seq ?_ | ((refine c_cond hE rfl ?_ ?_) <;> (intro hb; (first | replace hb := of_decide_eq_true hb | replace hb := of_decide_eq_false hb | (simp only [Bool.not_eq_true', Bool.not_eq_false', decide_eq_true_eq, decide_eq_false_iff_not] at hb) | skip); try (exfalso; first | omega | exact absurd trivial hb | exact absurd rfl hb | (simp only [beq_self_eq_true, bne_self_eq_false, reduceCtorEq] at hb; done)))))
    all_goals exact p_ret hE rfl rfl ⟨_, rfl, D, A2, c2, rfl, hD8, hx12, hS.fit⟩
/-- The states, as a list of the law's own. -/
def StT (n : Nat) (St T : List Int) : Prop := T.length = n ∧ ∀ k : Int, 1 ≤ k → k ≤ n → St.getD k.toNat 0 = T.getD (k - 1).toNat 0
theorem StT_set {n : Nat} {St T : List Int} (h : StT n St T) (hl : n < St.length) {p v : Int} (h0 : 1 ≤ p) (h1 : p ≤ n) : StT n (St.set p.toNat v) (T.set (p - 1).toNat v) := by
  refine ⟨by rw [List.length_set]; exact h.1, fun k h2 h3 => ?_⟩
  have := h.2 k h2 h3
  simp only [List.getD_eq_getElem?_getD, List.getElem?_set] at this ⊢
  by_cases e : p = k
  · subst e
    rw [if_pos rfl, if_pos rfl, if_pos (by omega), if_pos (by have := h.1; omega)]
  · rw [if_neg (by omega), if_neg (by omega)]
    exact this
theorem outs_drop {D : List Cfg} {St : List Int} {vid but last : Int} {f : Fr} {l : List Ot} {i : Int} (h0 : 0 ≤ i) (h1 : i < l.length) (h : OutsR D St vid but f last (l.drop i.toNat)) :
    (last < (l.getD i.toNat O0).n ∧ 1 ≤ (l.getD i.toNat O0).n ∧ (l.getD i.toNat O0).n ≤ D.length ∧ (l.getD i.toNat O0).n ≠ but ∧ St.getD (l.getD i.toNat O0).n.toNat 0 = 2 ∧ hasC (D.getD ((l.getD i.toNat O0).n - 1).toNat C0) vid = true ∧ (l.getD i.toNat O0).f.bare = f) ∧ OutsR D St vid but f (l.getD i.toNat O0).n (l.drop (i + 1).toNat) := by
  have hlt : i.toNat < l.length := by omega
  have e : l.getD i.toNat O0 = l[i.toNat] := by simp [hlt]
  rw [List.drop_eq_getElem_cons hlt, ← e] at h
  rw [show (i + 1).toNat = i.toNat + 1 by omega]
  exact h
theorem outsRight_s (A2 A9 A3 : Option Addr) (c2 c9 c3 : Nat) (D : List Cfg) (St T : List Int) (V : Vd) (but : Int) (w0 : World) (hR : Rd w0 A2 (D.flatMap Cfg.cells)) (hD : D.length ≤ 1000) (hX : ∀ x ∈ D, CfgR w0 x) (hT0 : Rd w0 A9 (ints T)) (hSt : StT D.length St T) (hO0 : Rd w0 A3 (V.outs.flatMap Ot.cells)) (hlen : V.outs.length ≤ maxLen) (hO : OutsR D St V.vid but V.f 0 V.outs) :
    Calls Try.prog 15 #[.slice A2 D.length c2, .slice A9 T.length c9, .agg #[.int .i64 V.what, .int .i64 V.vid, .int .u64 V.f.d, .int .u64 V.f.s, .bool V.f.h, .int .i64 V.f.p, .bool V.f.de, .int .i64 V.f.v, .int .i64 V.f.t, .string V.f.b, .slice A3 V.outs.length c3, .int .u32 V.peer, .bool V.fl], .int .i64 but] w0 fun e w' => ∃ r, e = .returned r ∧ r = .bool true ∧ Sep w0 w' [] := by
  have hA2 : (0 : Int) < D.length → A2 = some (adr A2) := fun h => hR.some (by rw [flat_len clen]; omega)
  have hA9 : (0 : Int) < T.length → A9 = some (adr A9) := fun h => hT0.some (by simp [ints]; omega)
  have hA3 : (0 : Int) < V.outs.length → A3 = some (adr A3) := fun h => hO0.some (by rw [flat_len otlen]; omega)
  have hT2 := hR.at_
  have hT9 := hT0.at_
  have hT3 := hO0.at_
  have hTl := hSt.1
  have hmax : maxLen ≤ 9223372036854775807 := by decide
  refine enter (args := [.slice A2 D.length c2, .slice A9 T.length c9, .agg #[.int .i64 V.what, .int .i64 V.vid, .int .u64 V.f.d, .int .u64 V.f.s, .bool V.f.h, .int .i64 V.f.p, .bool V.f.de, .int .i64 V.f.v, .int .i64 V.f.t, .string V.f.b, .slice A3 V.outs.length c3, .int .u32 V.peer, .bool V.fl], .int .i64 but]) 72 Try.func15 rfl rfl rfl ?_
  intro a hE hS
  repeat' (first | refine wl_nil ?_ | refine then_n ?_ | refine c_block ?_ | (refine c_regI 0 ?_; all_goals (refine wl hE rfl ?_; refine qbx hE hS ?_; clear hE hS; clear a; intro g a w hE hS); all_goals (refine wl hE rfl ?_; refine qa hE ?_; clear hE a; intro a hE)) | (refine c_regI 1 ?_; all_goals (refine wl hE rfl ?_; refine qa hE ?_; clear hE a; intro a hE)) | (refine c_regI 2 ?_; all_goals (refine wl hE rfl ?_; refine qa hE ?_; clear hE a; intro a hE)) | refine c_seq ?_)
  refine c_loopN (fun m a w => ∃ i : Int, 0 ≤ i ∧ i ≤ V.outs.length ∧ m = (V.outs.length - i).toNat ∧ ∃ (last : Int) (gv : Nat), OutsR D St V.vid but V.f last (V.outs.drop i.toNat) ∧ Env a 72 [(0, .slice A2 D.length c2), (1, .slice A9 T.length c9), (3, .int .i64 but), (6, .pointer (some ⟨gv, 0, none⟩)), (9, .int .i64 last), (10, .int .i64 i)] ∧ Sep w0 w [blk gv [.int .i64 V.what, .int .i64 V.vid, .int .u64 V.f.d, .int .u64 V.f.s, .bool V.f.h, .int .i64 V.f.p, .bool V.f.de, .int .i64 V.f.v, .int .i64 V.f.t, .string V.f.b, .slice A3 V.outs.length c3, .int .u32 V.peer, .bool V.fl] 46]) _ ⟨0, by omega, by omega, rfl, 0, _, hO, hE.cut ⟨rfl, rfl, rfl, rfl, rfl, rfl, trivial⟩, hS.fit⟩ ?_
  clear hE hS a
  rintro m a w ⟨i, h0, h1, rfl, last, gv, hO, hE, hS⟩
  obtain ⟨g0, hg0⟩ : ∃ g0, g0 = gv := ⟨_, rfl⟩
  rw [← hg0] at hE hS
  clear hg0
  by_cases hi : i < V.outs.length
  · obtain ⟨⟨h2, h3, h4, h5, h6, h7, h8⟩, h9⟩ := outs_drop h0 hi hO
    obtain ⟨o, ho⟩ : ∃ o, V.outs.getD i.toNat O0 = o := ⟨_, rfl⟩
    rw [ho] at h2 h3 h4 h5 h6 h7 h8 h9
    have hs2 := hSt.2 o.n h3 h4
    rw [h6] at hs2
    obtain ⟨x, hx⟩ : ∃ x, D.getD (o.n - 1).toNat C0 = x := ⟨_, rfl⟩
    rw [hx] at h7
    have hxR := hX x (hx ▸ getD_memC (by omega))
    have hbe : [Value.int .u64 o.f.d, .int .u64 o.f.s, .bool false, .int .i64 0, .bool false, .int .i64 0, .int .i64 o.f.t, .string o.f.b] = [.int .u64 V.f.d, .int .u64 V.f.s, .bool V.f.h, .int .i64 V.f.p, .bool V.f.de, .int .i64 V.f.v, .int .i64 V.f.t, .string V.f.b] := by rw [← h8]; rfl
    have hhas := fun w => refhas_s x.tr x.pv x.A x.c x.xs V.vid w
    rw [show hasP x.tr x.pv x.xs V.vid = true from h7] at hhas
    clear hO hO0 hT0 hSt
    repeat' (first | refine wl_nil ?_ | refine then_n ?_ | refine c_block ?_ | refine c_skip ?_ | refine inb_n ?_ | refine c_cond_f hE rfl ?_ | (refine c_regI 3 ?_; all_goals (refine wl hE rfl ?_; refine qm hE ?_; clear hE a; intro a hE); all_goals (refine wl hE rfl ?_; refine qf hE ?_; clear hE a; intro a hE); all_goals (refine wl hE rfl ?_; refine ql hE hS ?_; clear hE a; intro a hE); all_goals (refine wl hE rfl ?_; refine qn1 hE ?_; clear hE a; intro a hE); all_goals (refine wl hE rfl ?_; refine qb hE ?_; clear hE a; intro a hE)) | (refine c_regI 5 ?_; all_goals (refine wl hE rfl ?_; refine qf hE ?_; clear hE a; intro a hE); all_goals (refine wl hE rfl ?_; refine ql hE hS ?_; clear hE a; intro a hE); all_goals (refine wl hE rfl ?_; refine qm hE ?_; clear hE a; intro a hE); all_goals (refine wl hE rfl ?_; refine qi hE hA3 ?_; clear hE a; intro a hE); all_goals (refine wl hE rfl ?_; refine qFF hE ?_; clear hE a; intro a hE); all_goals (refine wl hE rfl ?_; refine q0F 0 (df := O0) hE hS otlen hT3 (by rw [ho]; rfl) ?_; clear hE a; intro a hE); all_goals (refine wl hE rfl ?_; refine qa hE ?_; clear hE a; intro a hE)) | (refine c_regI 8 ?_; all_goals (refine wl hE rfl ?_; refine qf hE ?_; clear hE a; intro a hE); all_goals (refine wl hE rfl ?_; refine ql hE hS ?_; clear hE a; intro a hE); all_goals (refine wl hE rfl ?_; refine qm hE ?_; clear hE a; intro a hE); all_goals (refine wl hE rfl ?_; refine qi hE hA3 ?_; clear hE a; intro a hE); all_goals (refine wl hE rfl ?_; refine qFF hE ?_; clear hE a; intro a hE); all_goals (refine wl hE rfl ?_; refine q0FA 1 (df := O0) (mm := 8) (us := o.f.cells) hE hS otlen hT3 (by rw [ho]; rfl) ?_; clear hE a; intro a hE); all_goals (refine wl hE rfl ?_; refine qal hE hS ?_; clear hE hS; clear a; intro g a w hE hS); all_goals (refine wl hE rfl ?_; refine qst0 hE hS ?_; clear hS; intro w hS)) | (refine c_regI 9 ?_; all_goals (refine wl hE rfl ?_; refine qbu hE ?_; clear hE a; intro a hE); all_goals (refine wl hE rfl ?_; refine qf hE ?_; clear hE a; intro a hE); all_goals (refine wl hE rfl ?_; refine qst hE hS ?_; clear hS; intro w hS)) | (refine c_regI 10 ?_; all_goals (refine wl hE rfl ?_; refine qL hE hS ?_; clear hE a; intro a hE); all_goals (refine wl hE rfl ?_; refine qf hE ?_; clear hE a; intro a hE); all_goals (refine wl hE rfl ?_; refine qL hE hS ?_; clear hE a; intro a hE); all_goals (refine wl hE rfl ?_; refine qbN hE ?_; clear hE a; intro a hE)) | (refine c_regI 12 ?_; all_goals (refine wl hE rfl ?_; refine qm hE ?_; clear hE a; intro a hE); all_goals (refine wl hE rfl ?_; refine qa hE ?_; clear hE a; intro a hE)) | (refine c_regI 4 ?_; all_goals (refine wl hE rfl ?_; refine qm hE ?_; clear hE a; intro a hE); all_goals (refine wl hE rfl ?_; refine qb hE ?_; clear hE a; intro a hE); all_goals (refine wl hE rfl ?_; refine qa hE ?_; clear hE a; intro a hE)) | refine c_seq ?_ | (refine rg_guard 6 ?_; refine rg_start [6] hE hS ?_; clear hS; (try clear w); intro w hS hX; all_goals (refine rg_y 0 hE hX (by exact y_move) ?_ rfl rfl rfl rfl; clear hE a; intro a hE); all_goals (refine rg_y 1 hE hX (by exact y_move) ?_ rfl rfl rfl rfl; clear hE a; intro a hE); all_goals (refine rg_y 2 hE hX (by exact y_bin) ?_ rfl rfl rfl rfl; clear hE a; intro a hE); all_goals (refine rg_y 3 hE hX (by exact y_move) ?_ rfl rfl rfl rfl; clear hE a; intro a hE); all_goals ((refine rg_split hE 29 rfl ?_ ?_) <;> (clear hE; intro hb hE; (first | replace hb := of_decide_eq_true hb | replace hb := of_decide_eq_false hb | (simp only [Bool.not_eq_true', Bool.not_eq_false', decide_eq_true_eq, decide_eq_false_iff_not] at hb) | skip); try (exfalso; first | omega | exact absurd trivial hb | exact absurd rfl hb | (simp only [beq_self_eq_true, bne_self_eq_false, reduceCtorEq] at hb; done) | (exact absurd hbe hb))) <;> (refine rg_y 4 hE hX (by exact y_move) ?_ rfl rfl rfl rfl; clear hE a; intro a hE)); all_goals (refine rg_y 5 hE hX (by exact y_move) ?_ rfl rfl rfl rfl; clear hE a; intro a hE); all_goals (refine rg_y 6 hE hX (by exact y_len) ?_ rfl rfl rfl rfl; clear hE a; intro a hE); all_goals (refine rg_y 7 hE hX (by exact y_bin) ?_ rfl rfl rfl rfl; clear hE a; intro a hE); all_goals (refine rg_y 8 hE hX (by exact y_pick_f) ?_ rfl rfl rfl rfl; clear hE a; intro a hE); all_goals (refine rg_y 9 hE hX (by exact y_move) ?_ rfl rfl rfl rfl; clear hE a; intro a hE); all_goals ((refine rg_split hE 35 rfl ?_ ?_) <;> (clear hE; intro hb hE; (first | replace hb := of_decide_eq_true hb | replace hb := of_decide_eq_false hb | (simp only [Bool.not_eq_true', Bool.not_eq_false', decide_eq_true_eq, decide_eq_false_iff_not] at hb) | skip); try (exfalso; first | omega | exact absurd trivial hb | exact absurd rfl hb | (simp only [beq_self_eq_true, bne_self_eq_false, reduceCtorEq] at hb; done) | (exact absurd hbe hb))) <;> (refine rg_y 10 hE hX (by exact y_move) ?_ rfl rfl rfl rfl; clear hE a; intro a hE)); all_goals (refine rg_y 11 hE hX (by exact y_move) ?_ rfl rfl rfl rfl; clear hE a; intro a hE); all_goals (refine rg_y 12 hE hX (by exact y_bin) ?_ rfl rfl rfl rfl; clear hE a; intro a hE); all_goals (refine rg_y 13 hE hX (by exact y_pick_f) ?_ rfl rfl rfl rfl; clear hE a; intro a hE); all_goals (refine rg_y 14 hE hX (by exact y_move) ?_ rfl rfl rfl rfl; clear hE a; intro a hE); all_goals ((refine rg_split hE 40 rfl ?_ ?_) <;> (clear hE; intro hb hE; (first | replace hb := of_decide_eq_true hb | replace hb := of_decide_eq_false hb | (simp only [Bool.not_eq_true', Bool.not_eq_false', decide_eq_true_eq, decide_eq_false_iff_not] at hb) | skip); try (exfalso; first | omega | exact absurd trivial hb | exact absurd rfl hb | (simp only [beq_self_eq_true, bne_self_eq_false, reduceCtorEq] at hb; done) | (exact absurd hbe hb))) <;> (refine rg_y 15 hE hX (by exact y_move) ?_ rfl rfl rfl rfl; clear hE a; intro a hE)); all_goals (refine rg_y 16 hE hX (by exact y_move) ?_ rfl rfl rfl rfl; clear hE a; intro a hE); all_goals (refine rg_y 17 hE hX (by exact y_bin) ?_ rfl rfl rfl rfl; clear hE a; intro a hE); all_goals (refine rg_y 18 hE hX (by exact y_index hA9) ?_ rfl rfl rfl rfl; clear hE a; intro a hE); all_goals (refine rg_y 19 hE hX (by exact y_load0i (xs := T) hT9) ?_ rfl rfl rfl rfl; clear hE a; intro a hE); all_goals (refine rg_y 20 hE hX (by exact y_bin) ?_ rfl rfl rfl rfl; clear hE a; intro a hE); all_goals (refine rg_y 21 hE hX (by exact y_pick_f) ?_ rfl rfl rfl rfl; clear hE a; intro a hE); all_goals (refine rg_y 22 hE hX (by exact y_move) ?_ rfl rfl rfl rfl; clear hE a; intro a hE); all_goals ((refine rg_split hE 48 rfl ?_ ?_) <;> (clear hE; intro hb hE; (first | replace hb := of_decide_eq_true hb | replace hb := of_decide_eq_false hb | (simp only [Bool.not_eq_true', Bool.not_eq_false', decide_eq_true_eq, decide_eq_false_iff_not] at hb) | skip); try (exfalso; first | omega | exact absurd trivial hb | exact absurd rfl hb | (simp only [beq_self_eq_true, bne_self_eq_false, reduceCtorEq] at hb; done) | (exact absurd hbe hb))) <;> (refine rg_y 23 hE hX (by exact y_move) ?_ rfl rfl rfl rfl; clear hE a; intro a hE)); all_goals (refine rg_y 24 hE hX (by exact y_move) ?_ rfl rfl rfl rfl; clear hE a; intro a hE); all_goals (refine rg_y 25 hE hX (by exact y_bin) ?_ rfl rfl rfl rfl; clear hE a; intro a hE); all_goals (refine rg_y 26 hE hX (by exact y_index hA2) ?_ rfl rfl rfl rfl; clear hE a; intro a hE); all_goals (refine rg_y 27 hE hX (by exact y_load0s (df := C0) (us := x.cells) clen hT2 (by rw [hx])) ?_ rfl rfl rfl rfl; clear hE a; intro a hE); all_goals (refine rg_y 28 hE hX (by exact y_field) ?_ rfl rfl rfl rfl; clear hE a; intro a hE); all_goals (refine rg_y 29 hE hX (by exact y_load) ?_ rfl rfl rfl rfl; clear hE a; intro a hE); all_goals (refine rg_e 30 hE rfl rfl (by kernel_rfl) ?_; intro K hK; (refine qc hE (hhas _ (hxR.move hS).1 (hxR.move hS).2) ?_; clear hE; clear a; rintro _ a w ⟨rfl, hS1⟩ hE; replace hS := hS.then hS1; clear hS1); refine rg_k hK hS ?_; clear hK hX; clear K; intro hX); all_goals (refine rg_y 31 hE hX (by exact y_not) ?_ rfl rfl rfl rfl; clear hE a; intro a hE); all_goals (refine rg_y 32 hE hX (by exact y_pick_f) ?_ rfl rfl rfl rfl; clear hE a; intro a hE); all_goals (refine rg_done ?_ (by kernel_rfl); (try clear hX))) | ((refine c_cond hE rfl ?_ ?_) <;> (intro hb; (first | replace hb := of_decide_eq_true hb | replace hb := of_decide_eq_false hb | (simp only [Bool.not_eq_true', Bool.not_eq_false', decide_eq_true_eq, decide_eq_false_iff_not] at hb) | skip); try (exfalso; first | omega | exact absurd trivial hb | exact absurd rfl hb | (simp only [beq_self_eq_true, bne_self_eq_false, reduceCtorEq] at hb; done) | (exact absurd hbe hb)))))
    exact ⟨_, by omega, i + 1, by omega, by omega, rfl, o.n, g0, h9, hE.cut ⟨rfl, rfl, rfl, rfl, rfl, rfl, trivial⟩, hS.fit⟩
  · repeat' (first | refine wl_nil ?_ | refine then_n ?_ | refine c_exit ?_ | refine c_ret ?_ | refine then_e ?_ | refine inb_e ?_ | (refine c_regI 3 ?_; all_goals (refine wl hE rfl ?_; refine qm hE ?_; clear hE a; intro a hE); all_goals (refine wl hE rfl ?_; refine qf hE ?_; clear hE a; intro a hE); all_goals (refine wl hE rfl ?_; refine ql hE hS ?_; clear hE a; intro a hE); all_goals (refine wl hE rfl ?_; refine qn1 hE ?_; clear hE a; intro a hE); all_goals (refine wl hE rfl ?_; refine qb hE ?_; clear hE a; intro a hE)) | (refine c_regI 13 ?_; all_goals (refine wl hE rfl ?_; refine qa hE ?_; clear hE a; intro a hE)) | refine c_seq ?_ | ((refine c_cond hE rfl ?_ ?_) <;> (intro hb; (first | replace hb := of_decide_eq_true hb | replace hb := of_decide_eq_false hb | (simp only [Bool.not_eq_true', Bool.not_eq_false', decide_eq_true_eq, decide_eq_false_iff_not] at hb) | skip); try (exfalso; first | omega | exact absurd trivial hb | exact absurd rfl hb | (simp only [beq_self_eq_true, bne_self_eq_false, reduceCtorEq] at hb; done) | (exact absurd hbe hb)))))
    all_goals exact p_ret hE rfl rfl ⟨_, rfl, rfl, hS.clean⟩
end Go.Proofs.Ytdgpjkddpbiieaa
/- DERIVED. The reference's Group and Own of layer 2 (as in f10). No condition. -/
namespace Go.Proofs.Ytdgpjkddpbiieaa
open Go.RowKit Go.Sx Go.Proofs.YtdgpjkddpbiieaaTy
set_option linter.unusedVariables false
set_option linter.unusedSimpArgs false
set_option maxRecDepth 100000
attribute [local irreducible] Oper.wp Code.wp wpList wpAnyH Calls bodyPost Exit.then Exit.inBlock Code.rounds
set_option maxHeartbeats 1000000
theorem and_bit (k i : Nat) : k &&& 2 ^ i = (k.testBit i).toNat * 2 ^ i := by
  cases hb : k.testBit i with
  | false =>
    rw [Bool.toNat_false, Nat.zero_mul]
    refine Nat.eq_of_testBit_eq fun j => ?_
    rw [Nat.testBit_and, Nat.testBit_two_pow, Nat.zero_testBit]
    by_cases h : i = j
    · subst h; simp [hb]
    · simp [h]
  | true =>
    rw [Bool.toNat_true, Nat.one_mul]
    refine Nat.eq_of_testBit_eq fun j => ?_
    rw [Nat.testBit_and, Nat.testBit_two_pow]
    by_cases h : i = j
    · subst h; simp [hb]
    · simp [h]
theorem group_is {m : Int} (h0 : 0 ≤ m) (h1 : m < 18446744073709551616) : groupB m = decide (m / 1099511627776 % 2 = 1) := by
  obtain ⟨k, rfl⟩ := Int.eq_ofNat_of_zero_le h0
  have hk : k < 18446744073709551616 := by omega
  have e : (BitVec.ofInt 64 (k : Int) &&& BitVec.ofInt 64 1099511627776).toNat = (k.testBit 40).toNat * 2 ^ 40 := by
    have h2 : (BitVec.ofInt 64 1099511627776 : BitVec 64).toNat = 2 ^ 40 := by decide
    rw [BitVec.toNat_and, h2, BitVec.ofInt_natCast, BitVec.toNat_ofNat, Nat.mod_eq_of_lt hk, and_bit]
  have e2 : bAnd .u64 (k : Int) 1099511627776 = IntKind.u64.wrap (((k.testBit 40).toNat * 2 ^ 40 : Nat) : Int) := by
    unfold bAnd
    rw [← e]
    rfl
  have e5 : (2 : Nat) ^ 40 = 1099511627776 := by decide
  have e3 : k.testBit 40 = decide (k / 1099511627776 % 2 = 1) := by rw [Nat.testBit_eq_decide_div_mod_eq, e5]
  unfold groupB
  rw [e2, e5]
  cases hb : k.testBit 40 with
  | false =>
    rw [hb] at e3
    have h3 : ¬ k / 1099511627776 % 2 = 1 := of_decide_eq_false e3.symm
    have h4 : ¬ (k : Int) / 1099511627776 % 2 = 1 := by omega
    rw [decide_eq_false h4]
    decide
  | true =>
    rw [hb] at e3
    have h3 : k / 1099511627776 % 2 = 1 := of_decide_eq_true e3.symm
    have h4 : (k : Int) / 1099511627776 % 2 = 1 := by omega
    rw [decide_eq_true h4]
    decide
theorem rgroup_s (m : Int) (w0 : World) (h0 : 0 ≤ m) (h1 : m < 18446744073709551616) : Calls Try.prog 38 #[.int .u64 m] w0 fun e w' => ∃ r, e = .returned r ∧ r = .bool (groupB m) ∧ Sep w0 w' [] := by
  rw [group_is h0 h1]
  have e1 : IntKind.u64.wrap (m.tdiv 1099511627776) = m / 1099511627776 := by
    rw [Int.tdiv_eq_ediv_of_nonneg h0]
    exact wrap_u (by omega) (by omega)
  have e2 : (m / 1099511627776).tmod 2 = m / 1099511627776 % 2 := Int.tmod_eq_emod_of_nonneg (by omega)
  refine enter (args := [.int .u64 m]) 7 Try.func38 rfl rfl rfl ?_
  intro a hE hS
  repeat' (first | refine wl_nil ?_ | refine then_n ?_ | refine c_ret ?_ | (refine c_regI 0 ?_; all_goals (refine wl hE rfl ?_; refine qa hE ?_; clear hE a; intro a hE)) | (refine c_regI 1 ?_; all_goals (refine wl hE rfl ?_; refine qm hE ?_; clear hE a; intro a hE); all_goals (refine wl hE rfl ?_; refine qb2 hE ?_; clear hE a; intro a hE); all_goals (refine wl hE rfl ?_; refine qb2 hE ?_; clear hE a; intro a hE); all_goals (refine wl hE rfl ?_; refine qb hE ?_; clear hE a; intro a hE); all_goals (refine wl hE rfl ?_; refine qa hE ?_; clear hE a; intro a hE)) | refine c_seq ?_)
  refine p_ret hE rfl rfl ⟨_, rfl, ?_, hS⟩
  rw [e1, e2]
theorem rown_s (m : Int) (w0 : World) (h0 : 0 ≤ m) (h1 : m < 18446744073709551616) : Calls Try.prog 16 #[.int .u64 m] w0 fun e w' => ∃ r, e = .returned r ∧ r = .bool (ownB m) ∧ Sep w0 w' [] := by
  have hz : m ≠ 0 ↔ 0 < m := by omega
  refine enter (args := [.int .u64 m]) 14 Try.func16 rfl rfl rfl ?_
  intro a hE hS
  repeat' (first | refine wl_nil ?_ | refine then_n ?_ | refine c_ret ?_ | (refine c_regI 0 ?_; all_goals (refine wl hE rfl ?_; refine qa hE ?_; clear hE a; intro a hE)) | (refine c_regI 1 ?_; all_goals (refine wl hE rfl ?_; refine qm hE ?_; clear hE a; intro a hE); all_goals (refine wl hE rfl ?_; refine qb hE ?_; clear hE a; intro a hE); all_goals (refine wl hE rfl ?_; refine qm hE ?_; clear hE a; intro a hE); all_goals ((refine wl_splitg hE rfl rfl ?_ ?_) <;> (clear hE; intro hb hE; (first | replace hb := of_decide_eq_true hb | replace hb := of_decide_eq_false hb | (simp only [Bool.not_eq_true', Bool.not_eq_false', decide_eq_true_eq, decide_eq_false_iff_not] at hb) | skip); try (exfalso; first | omega | exact absurd trivial hb | exact absurd rfl hb | (simp only [beq_self_eq_true, bne_self_eq_false, reduceCtorEq] at hb; done))) <;> (first | (refine wl hE rfl ?_; refine qm hE ?_; clear hE a; intro a hE) | (refine wl_skip hE rfl rfl rfl ?_; clear hE a; intro a hE))); all_goals (first | (refine wl hE rfl ?_; refine qb hE ?_; clear hE a; intro a hE) | (refine wl_skip hE rfl rfl rfl ?_; clear hE a; intro a hE)); all_goals (refine wl hE rfl ?_; first | (refine qpt hE ?_; clear hE a; intro a hE) | (refine qpf hE ?_; clear hE a; intro a hE)); all_goals (refine wl hE rfl ?_; refine qm hE ?_; clear hE a; intro a hE); all_goals (first | (refine wl_skip hE rfl rfl rfl ?_; clear hE a; intro a hE) | ((refine wl_splitg hE rfl rfl ?_ ?_) <;> (clear hE; intro hb hE; (first | replace hb := of_decide_eq_true hb | replace hb := of_decide_eq_false hb | (simp only [Bool.not_eq_true', Bool.not_eq_false', decide_eq_true_eq, decide_eq_false_iff_not] at hb) | skip); try (exfalso; first | omega | exact absurd trivial hb | exact absurd rfl hb | (simp only [beq_self_eq_true, bne_self_eq_false, reduceCtorEq] at hb; done))) <;> (first | (refine wl hE rfl ?_; refine qm hE ?_; clear hE a; intro a hE) | (refine wl_skip hE rfl rfl rfl ?_; clear hE a; intro a hE)))); all_goals (first | (refine wl hE rfl ?_; refine is_call 38 rfl ?_; refine qc hE (rgroup_s m _ h0 h1) ?_; clear hE; clear a; rintro _ a w ⟨rfl, hS1⟩ hE; replace hS := hS.then hS1; clear hS1) | (refine wl_skip hE rfl rfl rfl ?_; clear hE a; intro a hE)); all_goals (first | (refine wl hE rfl ?_; refine qu hE ?_; clear hE a; intro a hE) | (refine wl_skip hE rfl rfl rfl ?_; clear hE a; intro a hE)); all_goals (refine wl hE rfl ?_; first | (refine qpt hE ?_; clear hE a; intro a hE) | (refine qpf hE ?_; clear hE a; intro a hE)); all_goals (refine wl hE rfl ?_; refine qa hE ?_; clear hE a; intro a hE)) | refine c_seq ?_)
  all_goals refine p_ret hE rfl rfl ⟨_, rfl, ?_, hS.clean⟩
  all_goals clear hE hS
  all_goals simp only [ownB, hz]
  all_goals simp [*]
end Go.Proofs.Ytdgpjkddpbiieaa
/- DERIVED. Layer 17: BridgeApart. No condition. -/
namespace Go.Proofs.Ytdgpjkddpbiieaa
open Go.RowKit Go.Sx Go.Proofs.YtdgpjkddpbiieaaTy Go.Proofs.YtdgpjkddpbiieaaOp
set_option linter.unusedVariables false
set_option linter.unusedSimpArgs false
set_option maxRecDepth 100000
attribute [local irreducible] Oper.wp Code.wp wpList wpAnyH Calls bodyPost Exit.then Exit.inBlock Code.rounds
set_option maxHeartbeats 2000000
theorem state_i (g : Nat) (D : List Cfg) (n : Nat) (St : List Int) (S : List En) (F : Int → List Int) (nn : Nat) (kp : Kp) (port st : Int) (u0 w0 : World) (L : List Asn) (hSt : StI St) (hn : D.length = n) (hn2 : n ≤ 64) (hp : 1 ≤ port ∧ port ≤ n) (hS0 : Sep u0 w0 (Br g D St S F nn kp :: L)) :
    Calls Try.prog 12 #[.pointer (some ⟨g, 0, none⟩), .int .i64 port, .int .i64 st] w0 fun e w' => ∃ r, e = .returned r ∧ ∃ r0, r = .int .i64 r0 ∧ ((r0 = 0 ∧ (0 ≤ st ∧ st ≤ 2) ∧ Sep u0 w' (Br g D (St.set port.toNat st) S F nn kp :: L)) ∨ (r0 = 1 ∧ Sep u0 w' (Br g D St S F nn kp :: L))) := by
  subst hn
  by_cases hs : 0 ≤ st ∧ st ≤ 2
  · refine (state_c g D St S F nn kp port st 0 (St.set port.toNat st) u0 w0 L (by unfold stT; rw [if_pos hp, if_pos hs, if_pos ⟨hp, hs⟩]) hSt (by omega) hS0).mono ?_
    rintro e w' ⟨r, h1, h2, h3⟩
    exact ⟨r, h1, 0, h2, .inl ⟨rfl, hs, h3⟩⟩
  · refine (state_c g D St S F nn kp port st 1 St u0 w0 L (by unfold stT; rw [if_pos hp, if_neg hs, if_neg (fun h => hs h.2)]) hSt (by omega) hS0).mono ?_
    rintro e w' ⟨r, h1, h2, h3⟩
    exact ⟨r, h1, 1, h2, .inr ⟨rfl, h3⟩⟩
theorem state_o (g : Nat) (D : List Cfg) (n : Nat) (St : List Int) (S : List En) (F : Int → List Int) (nn : Nat) (kp : Kp) (port st : Int) (u0 w0 : World) (L : List Asn) (hSt : StI St) (hn : D.length = n) (hn2 : n ≤ 64) (hp : ¬ (1 ≤ port ∧ port ≤ n)) (hS0 : Sep u0 w0 (Br g D St S F nn kp :: L)) :
    Calls Try.prog 12 #[.pointer (some ⟨g, 0, none⟩), .int .i64 port, .int .i64 st] w0 fun e w' => ∃ r, e = .returned r ∧ r = .int .i64 170 ∧ Sep u0 w' (Br g D St S F nn kp :: L) := by
  subst hn
  exact state_c g D St S F nn kp port st 170 St u0 w0 L (by unfold stT; rw [if_neg hp, if_neg (fun h => hp h.1)]) hSt (by omega) hS0
theorem state_x (g : Nat) (D : List Cfg) (n : Nat) (St : List Int) (S : List En) (F : Int → List Int) (nn : Nat) (kp : Kp) (port st : Int) (u0 w0 : World) (L : List Asn) (hSt : StI St) (hn : D.length = n) (hn2 : n ≤ 64) (hS0 : Sep u0 w0 (Br g D St S F nn kp :: L)) :
    Calls Try.prog 12 #[.pointer (some ⟨g, 0, none⟩), .int .i64 port, .int .i64 st] w0 fun e w' => ∃ r, e = .returned r ∧ ∃ r0, r = .int .i64 r0 ∧ ((r0 = 0 ∧ (1 ≤ port ∧ port ≤ n ∧ 0 ≤ st ∧ st ≤ 2) ∧ Sep u0 w' (Br g D (St.set port.toNat st) S F nn kp :: L)) ∨ (r0 = 1 ∧ Sep u0 w' (Br g D St S F nn kp :: L)) ∨ (r0 = 170 ∧ Sep u0 w' (Br g D St S F nn kp :: L))) := by
  by_cases hp : 1 ≤ port ∧ port ≤ n
  · refine (state_i g D n St S F nn kp port st u0 w0 L hSt hn hn2 hp hS0).mono ?_
    rintro e w' ⟨r, h1, r0, h2, ⟨h3, h4, h5⟩ | ⟨h3, h5⟩⟩
    · exact ⟨r, h1, r0, h2, .inl ⟨h3, ⟨hp.1, hp.2, h4.1, h4.2⟩, h5⟩⟩
    · exact ⟨r, h1, r0, h2, .inr (.inl ⟨h3, h5⟩)⟩
  · refine (state_o g D n St S F nn kp port st u0 w0 L hSt hn hn2 hp hS0).mono ?_
    rintro e w' ⟨r, h1, h2, h3⟩
    exact ⟨r, h1, 170, h2, .inr (.inr ⟨rfl, h3⟩)⟩
structure Oz where
  kd : Int
  po : Int
  nu : Int
  f : Fr
  now : Int
def Oz.cells (o : Oz) : List Value := [.int .i64 o.kd, .int .i64 o.po, .int .i64 o.nu, .int .u64 o.f.d, .int .u64 o.f.s, .bool o.f.h, .int .i64 o.f.p, .bool o.f.de, .int .i64 o.f.v, .int .i64 o.f.t, .string o.f.b, .int .i64 o.now]
def Oz0 : Oz := ⟨0, 0, 0, Fr0, 0⟩
theorem ozlen (o : Oz) : o.cells.length = 12 := rfl
def Oz.ok (o : Oz) : Prop := 0 ≤ o.f.d ∧ 0 ≤ o.f.s
def Fr.cut (f : Fr) : Fr := ⟨f.d, f.s, f.h, f.p, f.de, f.v, f.t, cutB f.b⟩
theorem own_lt {m : Int} (h : ownB m = true) : m < 18446744073709551616 := by
  unfold ownB at h
  rw [Bool.and_eq_true, Bool.and_eq_true, decide_eq_true_eq, decide_eq_true_eq] at h
  omega
theorem ints_rep (m : Nat) : List.replicate m (Value.int .i64 0) = ints (List.replicate m 0) := by simp [ints]
theorem apart_law (B : Option Addr) (bc : Nat) (lc : List Cfg) (kp : Kp) (A : Option Addr) (cap : Nat) (l : List Oz) (W : World) (hB : Rd W B (lc.flatMap Cfg.cells)) (hBl : lc.length ≤ maxLen) (hBX : ∀ x ∈ lc, CfgR W x ∧ x.xs.length ≤ x.c) (hcap : l.length ≤ cap) (hR : Rd W A (l.flatMap Oz.cells)) (hl : l.length ≤ maxLen) (hok : ∀ o ∈ l, o.ok) :
    Calls Try.prog 3 #[.agg #[.slice B lc.length bc, .int .i64 kp.room, .int .i64 kp.life, .int .i64 kp.moves, .int .i64 kp.win], .slice A l.length cap] W fun e w' => ∃ r, e = .returned r ∧ r = .bool true ∧ Sep W w' [] := by
  have hA : (0 : Int) < l.length → A = some (adr A) := fun h => hR.some (by rw [flat_len ozlen]; omega)
  have hT := hR.at_
  have hmax : maxLen ≤ 9223372036854775807 := by decide
  obtain ⟨k2, hk2⟩ : ∃ k2, k2 = keepK kp := ⟨_, rfl⟩
  have hk : okK k2 := hk2 ▸ keepK_ok kp
  refine enter (args := [.agg #[.slice B lc.length bc, .int .i64 kp.room, .int .i64 kp.life, .int .i64 kp.moves, .int .i64 kp.win], .slice A l.length cap]) 159 Try.func3 rfl rfl rfl ?_
  intro a hE hS
  repeat' (first | refine wl_nil ?_ | refine then_n ?_ | refine c_block ?_ | refine c_skip ?_ | refine c_cond_f hE rfl ?_ | (refine c_regI 0 ?_; all_goals (refine wl hE rfl ?_; refine qbx hE hS ?_; clear hE hS; clear a; intro g a w hE hS); all_goals (refine wl hE rfl ?_; refine qa hE ?_; clear hE a; intro a hE)) | (refine c_regI 1 ?_; all_goals (refine wl hE rfl ?_; refine qL hE hS ?_; clear hE a; intro a hE); all_goals (refine wl hE rfl ?_; refine is_call 8 rfl ?_; refine qc hE (right17_s B bc lc kp _ (hB.move hS) hBl (fun x hx => ⟨(hBX x hx).1.move hS, (hBX x hx).2⟩)) ?_; clear hE; clear a; rintro _ a w ⟨D, A2, c2, rfl, hD5, hx12, hS1⟩ hE; replace hS := hS.then hS1; clear hS1); all_goals (refine wl hE rfl ?_; refine qa hE ?_; clear hE a; intro a hE)) | (refine c_regI 2 ?_; all_goals (refine wl hE rfl ?_; refine qm hE ?_; clear hE a; intro a hE); all_goals (refine wl hE rfl ?_; refine qf hE ?_; clear hE a; intro a hE); all_goals (refine wl hE rfl ?_; refine qL hE hS ?_; clear hE a; intro a hE); all_goals (refine wl hE rfl ?_; refine is_call 10 rfl ?_; refine qc hE (keep17_s kp k2 hk2 _) ?_; clear hE; clear a; rintro _ a w ⟨rfl, hS1⟩ hE; replace hS := hS.then hS1; clear hS1); all_goals (refine wl hE rfl ?_; refine is_call 9 rfl ?_; refine qc hE (new_c A2 c2 D k2 _ ⟨by omega, fun x hx => (hx12 x hx).2, hk⟩ (Rd.row (A := A2) (n := D.length) (c := c2) (xs := D.flatMap Cfg.cells) hS) (cfgs_ok hS (fun x hx => (hx12 x hx).1))) ?_; clear hE; clear a; rintro _ a w ⟨gb0, rfl, hS1⟩ hE; replace hS := hS.then hS1; clear hS1; (obtain ⟨gb, hgb⟩ : ∃ x, x = gb0 := ⟨_, rfl⟩); rw [← hgb] at hE hS; clear hgb); all_goals (refine wl hE rfl ?_; refine qm hE ?_; clear hE a; intro a hE); all_goals (refine wl hE rfl ?_; refine qe hE ?_; clear hE a; intro a hE); all_goals (refine wl hE rfl ?_; refine qe hE ?_; clear hE a; intro a hE); all_goals (refine wl hE rfl ?_; refine qa hE ?_; clear hE a; intro a hE); all_goals (refine wl hE rfl ?_; refine qa hE ?_; clear hE a; intro a hE)) | (refine c_regI 3 ?_; all_goals (refine wl hE rfl ?_; refine qm hE ?_; clear hE a; intro a hE); all_goals (refine wl hE rfl ?_; refine qpn hE ?_; clear hE a; intro a hE); all_goals (refine wl hE rfl ?_; refine qm hE ?_; clear hE a; intro a hE); all_goals (refine wl hE rfl ?_; refine qm hE ?_; clear hE a; intro a hE); all_goals (refine wl hE rfl ?_; refine qb hE ?_; clear hE a; intro a hE); all_goals (refine wl hE rfl ?_; refine qpf hE ?_; clear hE a; intro a hE)) | (refine c_regI 5 ?_; all_goals (refine wl hE rfl ?_; refine qm hE ?_; clear hE a; intro a hE); all_goals (refine wl hE rfl ?_; refine qn1 hE ?_; clear hE a; intro a hE); all_goals (refine wl hE rfl ?_; refine qmk1 hE hS ?_; clear hE hS; clear a; intro g9 a w hE hS); all_goals (refine wl hE rfl ?_; refine qa hE ?_; clear hE a; intro a hE)) | (refine c_regI 6 ?_; all_goals (refine wl hE rfl ?_; refine qa hE ?_; clear hE a; intro a hE)) | refine c_seq ?_)
  rw [ints_rep] at hS
  obtain ⟨A9, hA9⟩ : ∃ A9 : Option Addr, A9 = some ⟨g9, 0, none⟩ := ⟨_, rfl⟩
  rw [← hA9] at hE hS
  have hA9' : (0 : Int) < D.length → A9 = some (adr A9) := fun _ => by rw [hA9]; rfl
  clear hA9
  have hrl : (List.replicate D.length (0 : Int)).length = D.length := by simp
  refine c_loopN (fun m a w => ∃ i : Int, 0 ≤ i ∧ i ≤ l.length ∧ m = (l.length - i).toNat ∧ ∃ (St T : List Int) (S : List En) (F : Int → List Int) (nn : Nat), StI St ∧ StT D.length St T ∧ FdI S F nn k2 ∧ nn ≤ i ∧ i ≤ 60 ∧ Env a 159 [(1, .slice A l.length cap), (5, .slice A2 D.length c2), (6, .pointer (some ⟨gb, 0, none⟩)), (8, .slice A9 D.length D.length), (9, .int .i64 i)] ∧ Sep W w [row 55 3 (.slice A2 D.length c2) D.length (D.flatMap Cfg.cells), stars (D.map cfgRow), row 3 1 (.slice A9 D.length D.length) D.length (ints T), Br gb (D.map nC) St S F nn k2]) _ ⟨0, by omega, by omega, rfl, St0, List.replicate D.length 0, [], _, 0, St0_StI, ⟨hrl, fun k h1 h2 => ?_⟩, new_FdI hk, by omega, by omega, hE.cut ⟨rfl, rfl, rfl, rfl, rfl, trivial⟩, hS.fit⟩ ?_
  · simp only [St0, List.getD_eq_getElem?_getD, List.getElem?_replicate]
    split <;> split <;> rfl
  clear hE hS a w
  rintro m a w ⟨i, h0, h1, rfl, St, T, S, F, nn, hSI, hST, hFI, hnn, hi60, hE, hS⟩
  by_cases hi : i < l.length ∧ i < 60
  · obtain ⟨hi, hi2⟩ := hi
    obtain ⟨o, ho⟩ : ∃ o, l.getD i.toNat Oz0 = o := ⟨_, rfl⟩
    have hom : o ∈ l := by rw [← ho]; simp [show i.toNat < l.length by omega]
    obtain ⟨hod, hos⟩ := hok o hom
    have hnD : (D.map nC).length = D.length := List.length_map _
    have hn64 : D.length ≤ 64 := by omega
    have hnn9 : nn ≤ 1000000 := by omega
    have hTl := hST.1
    have hSl := hSI.1
    obtain ⟨V1, S1, F1, hV1⟩ : ∃ V1 S1 F1, frameT (D.map nC) St k2 S F o.po ⟨o.f.d, o.f.s, o.f.h, o.f.p, o.f.de, o.f.v, o.f.t, cutB o.f.b⟩ o.now = (V1, S1, F1) := ⟨_, _, _, rfl⟩
    have hK1 := frame_apart (f := ⟨o.f.d, o.f.s, o.f.h, o.f.p, o.f.de, o.f.v, o.f.t, cutB o.f.b⟩) hos hV1
    obtain ⟨V2, S2, F2, hV2⟩ : ∃ V2 S2 F2, fromT (D.map nC) St k2 S F (IntKind.u32.wrap o.po) o.nu ⟨o.f.d, o.f.s, o.f.h, o.f.p, o.f.de, o.f.v, o.f.t, cutB o.f.b⟩ o.now = (V2, S2, F2) := ⟨_, _, _, rfl⟩
    obtain ⟨hK2, hK3, hK4⟩ := from_apart (f := ⟨o.f.d, o.f.s, o.f.h, o.f.p, o.f.de, o.f.v, o.f.t, cutB o.f.b⟩) hos hV2
    obtain ⟨wh, vi, fv, ou, pe, fl⟩ := V2
    dsimp only at hK3 hK4
    subst hK3 hK4
    have hw32 : 0 ≤ IntKind.u32.wrap o.po ∧ IntKind.u32.wrap o.po < 4294967296 := by rw [wrap32]; omega
    repeat' (first | refine wl_nil ?_ | refine then_n ?_ | refine c_block ?_ | refine c_skip ?_ | refine c_ret ?_ | refine then_r ?_ | refine inb_n ?_ | refine inb_r ?_ | refine c_cond_t hE rfl ?_ | refine c_cond_f hE rfl ?_ | (refine c_midb2 (id := 2) (I := fun a w => ∃ (St T : List Int) (S : List En) (F : Int → List Int) (nn : Nat) (V : Vd) (but : Int) (A3 : Option Addr) (c3 gv : Nat), StI St ∧ StT D.length St T ∧ FdI S F nn k2 ∧ nn ≤ i + 1 ∧ VOk (D.map nC) St but V ∧ Env a 159 [(1, .slice A l.length cap), (5, .slice A2 D.length c2), (6, .pointer (some ⟨gb, 0, none⟩)), (8, .slice A9 D.length D.length), (9, .int .i64 i), (12, .pointer (some ⟨gv, 0, none⟩)), (13, .int .i64 but)] ∧ Sep W w [row 55 3 (.slice A2 D.length c2) D.length (D.flatMap Cfg.cells), stars (D.map cfgRow), row 3 1 (.slice A9 D.length D.length) D.length (ints T), Br gb (D.map nC) St S F nn k2, blk gv [.int .i64 V.what, .int .i64 V.vid, .int .u64 V.f.d, .int .u64 V.f.s, .bool V.f.h, .int .i64 V.f.p, .bool V.f.de, .int .i64 V.f.v, .int .i64 V.f.t, .string V.f.b, .slice A3 V.outs.length c3, .int .u32 V.peer, .bool V.fl] 46, row 57 9 (.slice A3 V.outs.length c3) V.outs.length (V.outs.flatMap Ot.cells)]) ?_ ?_) | (refine c_regI 7 ?_; all_goals (refine wl hE rfl ?_; refine qm hE ?_; clear hE a; intro a hE); all_goals (refine wl hE rfl ?_; refine qm hE ?_; clear hE a; intro a hE); all_goals (refine wl hE rfl ?_; refine qn1 hE ?_; clear hE a; intro a hE); all_goals (refine wl hE rfl ?_; refine qb hE ?_; clear hE a; intro a hE); all_goals (refine wl hE rfl ?_; refine qm hE ?_; clear hE a; intro a hE); all_goals ((refine wl_splitg hE rfl rfl ?_ ?_) <;> (clear hE; intro hb hE; (first | replace hb := of_decide_eq_true hb | replace hb := of_decide_eq_false hb | (simp only [Bool.not_eq_true', Bool.not_eq_false', decide_eq_true_eq, decide_eq_false_iff_not] at hb) | skip); try (exfalso; first | omega | exact absurd trivial hb | exact absurd rfl hb | (simp only [beq_self_eq_true, bne_self_eq_false, reduceCtorEq] at hb; done))) <;> (refine wl hE rfl ?_; refine qm hE ?_; clear hE a; intro a hE)); all_goals (refine wl hE rfl ?_; refine qb hE ?_; clear hE a; intro a hE); all_goals (refine wl hE rfl ?_; refine qpt hE ?_; clear hE a; intro a hE)) | (refine c_regI 9 ?_; all_goals (refine wl hE rfl ?_; refine qm hE ?_; clear hE a; intro a hE); all_goals (refine wl hE rfl ?_; refine qm hE ?_; clear hE a; intro a hE); all_goals (refine wl hE rfl ?_; refine qi hE hA ?_; clear hE a; intro a hE); all_goals (refine wl hE rfl ?_; refine qLs (i := i) (us := o.cells) (df := Oz0) hE hS ozlen hT (by rw [ho]) ?_; clear hE a; intro a hE); all_goals (refine wl hE rfl ?_; refine qal hE hS ?_; clear hE hS; clear a; intro g a w hE hS); all_goals (refine wl hE rfl ?_; refine qst0 hE hS ?_; clear hS; intro w hS)) | (refine c_regI 10 ?_; all_goals (refine wl hE rfl ?_; refine qf hE ?_; clear hE a; intro a hE); all_goals (refine wl hE rfl ?_; refine qL hE hS ?_; clear hE a; intro a hE); all_goals (refine wl hE rfl ?_; refine is_call 11 rfl ?_; refine qc hE (cut17_s o.f _) ?_; clear hE; clear a; rintro _ a w ⟨rfl, hS1⟩ hE; replace hS := hS.then hS1; clear hS1); all_goals (refine wl hE rfl ?_; refine qal hE hS ?_; clear hE hS; clear a; intro g a w hE hS); all_goals (refine wl hE rfl ?_; refine qst0 hE hS ?_; clear hS; intro w hS)) | (refine c_regI 11 ?_; all_goals (refine wl hE rfl ?_; refine qbu hE ?_; clear hE a; intro a hE); all_goals (refine wl hE rfl ?_; refine qal hE hS ?_; clear hE hS; clear a; intro g a w hE hS); all_goals (refine wl hE rfl ?_; refine qst0 hE hS ?_; clear hS; intro w hS); all_goals (refine wl hE rfl ?_; refine qa hE ?_; clear hE a; intro a hE)) | (refine c_regI 12 ?_; all_goals (refine wl hE rfl ?_; refine qf hE ?_; clear hE a; intro a hE); all_goals (refine wl hE rfl ?_; refine ql hE hS ?_; clear hE a; intro a hE)) | (refine c_regI 13 ?_; all_goals (refine wl hE rfl ?_; refine qb hE ?_; clear hE a; intro a hE); all_goals (refine wl hE rfl ?_; refine qa hE ?_; clear hE a; intro a hE)) | (refine c_regI 14 ?_; all_goals (refine wl hE rfl ?_; refine qf hE ?_; clear hE a; intro a hE); all_goals (refine wl hE rfl ?_; refine ql hE hS ?_; clear hE a; intro a hE); all_goals (refine wl hE rfl ?_; refine qb hE ?_; clear hE a; intro a hE); all_goals (refine wl hE rfl ?_; refine qm hE ?_; clear hE a; intro a hE); all_goals ((refine wl_splitg hE rfl rfl ?_ ?_) <;> (clear hE; intro hb hE; (first | replace hb := of_decide_eq_true hb | replace hb := of_decide_eq_false hb | (simp only [Bool.not_eq_true', Bool.not_eq_false', decide_eq_true_eq, decide_eq_false_iff_not] at hb) | skip); try (exfalso; first | omega | exact absurd trivial hb | exact absurd rfl hb | (simp only [beq_self_eq_true, bne_self_eq_false, reduceCtorEq] at hb; done))) <;> (first | (refine wl hE rfl ?_; refine qf hE ?_; clear hE a; intro a hE) | (refine wl_skip hE rfl rfl rfl ?_; clear hE a; intro a hE))); all_goals (first | (refine wl hE rfl ?_; refine ql hE hS ?_; clear hE a; intro a hE) | (refine wl_skip hE rfl rfl rfl ?_; clear hE a; intro a hE)); all_goals (first | (refine wl hE rfl ?_; refine qm hE ?_; clear hE a; intro a hE) | (refine wl_skip hE rfl rfl rfl ?_; clear hE a; intro a hE)); all_goals (first | (refine wl hE rfl ?_; refine qn1 hE ?_; clear hE a; intro a hE) | (refine wl_skip hE rfl rfl rfl ?_; clear hE a; intro a hE)); all_goals (first | (refine wl hE rfl ?_; refine qb hE ?_; clear hE a; intro a hE) | (refine wl_skip hE rfl rfl rfl ?_; clear hE a; intro a hE)); all_goals (refine wl hE rfl ?_; first | (refine qpt hE ?_; clear hE a; intro a hE) | (refine qpf hE ?_; clear hE a; intro a hE)); all_goals (refine wl hE rfl ?_; refine qa hE ?_; clear hE a; intro a hE)) | (refine c_regI 15 ?_; all_goals (refine wl hE rfl ?_; refine qm hE ?_; clear hE a; intro a hE); all_goals (refine wl hE rfl ?_; refine qf hE ?_; clear hE a; intro a hE); all_goals (refine wl hE rfl ?_; refine ql hE hS ?_; clear hE a; intro a hE); all_goals (refine wl hE rfl ?_; refine qf hE ?_; clear hE a; intro a hE); all_goals (refine wl hE rfl ?_; refine ql hE hS ?_; clear hE a; intro a hE); all_goals (refine wl hE rfl ?_; refine is_call 12 rfl ?_; refine qc hE (state_x gb (D.map nC) D.length St S F nn k2 o.po o.nu W _ _ hSI hnD hn64 hS.fit) ?_; clear hE hS; clear a; rintro _ a w ⟨r0, rfl, ⟨rfl, hst, hS⟩ | ⟨rfl, hS⟩ | ⟨rfl, hS⟩⟩ hE); all_goals (refine wl hE rfl ?_; refine qb hE ?_; clear hE a; intro a hE)) | (refine c_regI 16 ?_; all_goals (refine wl hE rfl ?_; refine qm hE ?_; clear hE a; intro a hE); all_goals (refine wl hE rfl ?_; refine qu hE ?_; clear hE a; intro a hE)) | (refine c_regI 17 ?_; all_goals (refine wl hE rfl ?_; refine qa hE ?_; clear hE a; intro a hE)) | (refine c_regI 18 ?_; all_goals (refine wl hE rfl ?_; refine qm hE ?_; clear hE a; intro a hE); all_goals (refine wl hE rfl ?_; refine qf hE ?_; clear hE a; intro a hE); all_goals (refine wl hE rfl ?_; refine ql hE hS ?_; clear hE a; intro a hE); all_goals (refine wl hE rfl ?_; refine qb hE ?_; clear hE a; intro a hE); all_goals (refine wl hE rfl ?_; refine qf hE ?_; clear hE a; intro a hE); all_goals (refine wl hE rfl ?_; refine ql hE hS ?_; clear hE a; intro a hE); all_goals (refine wl hE rfl ?_; refine qi hE hA9' ?_; clear hE a; intro a hE); all_goals (refine wl hE rfl ?_; refine qsI (A := A9) (i := o.po - 1) (xs := T) hE hS ?_; clear hS; intro w hS)) | (refine c_regI 19 ?_; all_goals (refine wl hE rfl ?_; refine qb hE ?_; clear hE a; intro a hE); all_goals (refine wl hE rfl ?_; refine qa hE ?_; clear hE a; intro a hE)) | (refine c_regI 20 ?_; all_goals (refine wl hE rfl ?_; refine qm hE ?_; clear hE a; intro a hE); all_goals (refine wl hE rfl ?_; refine qf hE ?_; clear hE a; intro a hE); all_goals (refine wl hE rfl ?_; refine ql hE hS ?_; clear hE a; intro a hE); all_goals (refine wl hE rfl ?_; refine qL hE hS ?_; clear hE a; intro a hE); all_goals (refine wl hE rfl ?_; refine qf hE ?_; clear hE a; intro a hE); all_goals (refine wl hE rfl ?_; refine ql hE hS ?_; clear hE a; intro a hE); all_goals (refine wl hE rfl ?_; refine is_call 13 rfl ?_; refine qc hE (frame_c gb (D.map nC) St S S1 F F1 nn k2 V1 o.po ⟨o.f.d, o.f.s, o.f.h, o.f.p, o.f.de, o.f.v, o.f.t, cutB o.f.b⟩ o.now W _ _ hV1 hSI (by omega) hFI hnn9 hod hos hS.fit) ?_; clear hE hS; clear a; rintro _ a w ⟨A3, c3, n2, rfl, hn2, hFI2, hS⟩ hE); all_goals (refine wl hE rfl ?_; refine qst0 hE hS ?_; clear hS; intro w hS)) | (refine c_regI 21 ?_; all_goals (refine wl hE rfl ?_; refine qf hE ?_; clear hE a; intro a hE); all_goals (refine wl hE rfl ?_; refine ql hE hS ?_; clear hE a; intro a hE); all_goals (refine wl hE rfl ?_; refine qa hE ?_; clear hE a; intro a hE)) | (refine c_regI 22 ?_; all_goals (refine wl hE rfl ?_; refine qb hE ?_; clear hE a; intro a hE); all_goals (refine wl hE rfl ?_; refine qa hE ?_; clear hE a; intro a hE)) | (refine c_regI 23 ?_; all_goals (refine wl hE rfl ?_; refine qm hE ?_; clear hE a; intro a hE); all_goals (refine wl hE rfl ?_; refine qf hE ?_; clear hE a; intro a hE); all_goals (refine wl hE rfl ?_; refine ql hE hS ?_; clear hE a; intro a hE); all_goals (refine wl hE rfl ?_; refine qcv hE ?_; clear hE a; intro a hE); all_goals (refine wl hE rfl ?_; refine qf hE ?_; clear hE a; intro a hE); all_goals (refine wl hE rfl ?_; refine ql hE hS ?_; clear hE a; intro a hE); all_goals (refine wl hE rfl ?_; refine qL hE hS ?_; clear hE a; intro a hE); all_goals (refine wl hE rfl ?_; refine qf hE ?_; clear hE a; intro a hE); all_goals (refine wl hE rfl ?_; refine ql hE hS ?_; clear hE a; intro a hE); all_goals (refine wl hE rfl ?_; refine is_call 14 rfl ?_; refine qc hE (from_c gb (D.map nC) St S S2 F F2 nn k2 _ (IntKind.u32.wrap o.po) o.nu ⟨o.f.d, o.f.s, o.f.h, o.f.p, o.f.de, o.f.v, o.f.t, cutB o.f.b⟩ o.now W _ _ hV2 hSI (by omega) hFI hnn9 hod hos hw32 hS.fit) ?_; clear hE hS; clear a; rintro _ a w ⟨A3, c3, n2, rfl, hn2, hFI2, hS⟩ hE); all_goals (refine wl hE rfl ?_; refine qst0 hE hS ?_; clear hS; intro w hS)) | (refine c_regI 24 ?_; all_goals (refine wl hE rfl ?_; refine qf hE ?_; clear hE a; intro a hE); all_goals (refine wl hE rfl ?_; refine ql hE hS ?_; clear hE a; intro a hE); all_goals (refine wl hE rfl ?_; refine qb hE ?_; clear hE a; intro a hE); all_goals (refine wl hE rfl ?_; refine qm hE ?_; clear hE a; intro a hE); all_goals (refine wl hE rfl ?_; refine qf hE ?_; clear hE a; intro a hE); all_goals (refine wl hE rfl ?_; refine ql hE hS ?_; clear hE a; intro a hE); all_goals (refine wl hE rfl ?_; refine qpf hE ?_; clear hE a; intro a hE)) | refine c_seq ?_ | ((refine c_cond hE rfl ?_ ?_) <;> (intro hb; (first | replace hb := of_decide_eq_true hb | replace hb := of_decide_eq_false hb | (simp only [Bool.not_eq_true', Bool.not_eq_false', decide_eq_true_eq, decide_eq_false_iff_not] at hb) | skip); try (exfalso; first | omega | exact absurd trivial hb | exact absurd rfl hb | (simp only [beq_self_eq_true, bne_self_eq_false, reduceCtorEq] at hb; done)))))
    rotate_right
    · clear hE hS a
      clear w
      clear hV1 hV2 hK1 hK2 hod hos hom ho hST hFI hSI hTl hSl hnn hnn9 hw32
      rintro a w ⟨St, T, S, F, nn, V, but, A3, c3, gv, hSI, hST, hFI, hnn, hV, hE, hS⟩
      obtain ⟨g0, hg0⟩ : ∃ g, g = gv := ⟨_, rfl⟩
      rw [← hg0] at hE hS
      clear hg0
      obtain ⟨wh, vi, ⟨d, s, hh, p, de, v, t, b⟩, ou, pe, fl⟩ := V
      have hlen : ou.length ≤ maxLen := by have := (hS.row_cap (A := A3) (n := ou.length) (c := c3) (xs := ou.flatMap Ot.cells)); omega
      by_cases hw : wh = 0
      · obtain ⟨h1, h2, h3, h4, h5⟩ := hV.2 hw
        dsimp only at h1 h2 h3 h4 h5
        subst hw h3
        have hTl := hST.1
        have hO2 : OutsR D St vi but ⟨d, s, false, p, de, v, t, b⟩ 0 ou := by rw [← OutsR_nC]; exact h1
        have hor := fun (w : World) (hR1 : Rd w A2 (D.flatMap Cfg.cells)) (hX1 : ∀ x ∈ D, CfgR w x) (hT1 : Rd w A9 (ints T)) (hO1 : Rd w A3 (ou.flatMap Ot.cells)) => outsRight_s A2 A9 A3 c2 D.length c3 D St T ⟨0, vi, ⟨d, s, false, p, de, v, t, b⟩, ou, pe, fl⟩ but w hR1 (by omega) hX1 hT1 hST hO1 hlen hO2
        rw [hTl] at hor
        have hlt := own_lt h4
        clear h1 hO2 hV
        by_cases hpe : pe = 0
        · repeat' (first | refine wl_nil ?_ | refine then_n ?_ | refine c_skip ?_ | refine inb_n ?_ | refine c_cond_f hE rfl ?_ | (refine c_regI 26 ?_; all_goals (refine wl hE rfl ?_; refine qf hE ?_; clear hE a; intro a hE); all_goals (refine wl hE rfl ?_; refine ql hE hS ?_; clear hE a; intro a hE); all_goals (refine wl hE rfl ?_; refine qb hE ?_; clear hE a; intro a hE)) | (refine c_regI 29 ?_; all_goals (refine wl hE rfl ?_; refine qm hE ?_; clear hE a; intro a hE); all_goals (refine wl hE rfl ?_; refine qm hE ?_; clear hE a; intro a hE); all_goals (refine wl hE rfl ?_; refine qL hE hS ?_; clear hE a; intro a hE); all_goals (refine wl hE rfl ?_; refine qm hE ?_; clear hE a; intro a hE); all_goals (refine wl hE rfl ?_; refine qc hE (hor _ (Rd.row (A := A2) (n := D.length) (c := c2) (xs := D.flatMap Cfg.cells) hS) (fun x hx => ((cfgs_ok hS (fun x hx => (hx12 x hx).1) : ∀ x ∈ D, _) x hx).1) (Rd.row (A := A9) (n := D.length) (c := D.length) (xs := ints T) hS) (Rd.row (A := A3) (n := ou.length) (c := c3) (xs := ou.flatMap Ot.cells) hS)) ?_; clear hE; clear a; rintro _ a w ⟨rfl, hS1⟩ hE; replace hS := hS.then hS1; clear hS1); all_goals (refine wl hE rfl ?_; refine qu hE ?_; clear hE a; intro a hE); all_goals (refine wl hE rfl ?_; refine qm hE ?_; clear hE a; intro a hE); all_goals (refine wl hE rfl ?_; refine qf hE ?_; clear hE a; intro a hE); all_goals (refine wl hE rfl ?_; refine ql hE hS ?_; clear hE a; intro a hE); all_goals (refine wl hE rfl ?_; refine qb hE ?_; clear hE a; intro a hE); all_goals (refine wl hE rfl ?_; refine qm hE ?_; clear hE a; intro a hE); all_goals ((refine wl_splitg hE rfl rfl ?_ ?_) <;> (clear hE; intro hb hE; (first | replace hb := of_decide_eq_true hb | replace hb := of_decide_eq_false hb | (simp only [Bool.not_eq_true', Bool.not_eq_false', decide_eq_true_eq, decide_eq_false_iff_not] at hb) | skip); try (exfalso; first | omega | exact absurd trivial hb | exact absurd rfl hb | (simp only [beq_self_eq_true, bne_self_eq_false, reduceCtorEq] at hb; done))) <;> (refine wl_skip hE rfl rfl rfl ?_; clear hE a; intro a hE)); all_goals (refine wl_skip hE rfl rfl rfl ?_; clear hE a; intro a hE); all_goals (refine wl_skip hE rfl rfl rfl ?_; clear hE a; intro a hE); all_goals (refine wl_skip hE rfl rfl rfl ?_; clear hE a; intro a hE); all_goals (refine wl hE rfl ?_; refine qpf hE ?_; clear hE a; intro a hE); all_goals (refine wl hE rfl ?_; refine qpf hE ?_; clear hE a; intro a hE); all_goals (refine wl hE rfl ?_; refine qm hE ?_; clear hE a; intro a hE); all_goals (refine wl hE rfl ?_; refine qf hE ?_; clear hE a; intro a hE); all_goals (refine wl hE rfl ?_; refine qf hE ?_; clear hE a; intro a hE); all_goals (refine wl hE rfl ?_; refine qf hE ?_; clear hE a; intro a hE); all_goals (refine wl hE rfl ?_; refine ql hE hS ?_; clear hE a; intro a hE); all_goals (refine wl hE rfl ?_; refine qpf hE ?_; clear hE a; intro a hE); all_goals (refine wl hE rfl ?_; refine qm hE ?_; clear hE a; intro a hE); all_goals (refine wl hE rfl ?_; refine qf hE ?_; clear hE a; intro a hE); all_goals (refine wl hE rfl ?_; refine qf hE ?_; clear hE a; intro a hE); all_goals (refine wl hE rfl ?_; refine ql hE hS ?_; clear hE a; intro a hE); all_goals (refine wl hE rfl ?_; refine is_call 16 rfl ?_; refine qc hE (rown_s s _ h5 hlt) ?_; rw [h4]; clear hE; clear a; rintro _ a w ⟨rfl, hS1⟩ hE; replace hS := hS.then hS1; clear hS1); all_goals (refine wl hE rfl ?_; refine qu hE ?_; clear hE a; intro a hE); all_goals (refine wl hE rfl ?_; refine qpf hE ?_; clear hE a; intro a hE)) | (refine c_regI 8 ?_; all_goals (refine wl hE rfl ?_; refine qm hE ?_; clear hE a; intro a hE); all_goals (refine wl hE rfl ?_; refine qb hE ?_; clear hE a; intro a hE); all_goals (refine wl hE rfl ?_; refine qa hE ?_; clear hE a; intro a hE)) | refine c_seq ?_)
          all_goals exact ⟨_, by omega, i + 1, by omega, by omega, rfl, St, T, S, F, nn, hSI, hST, hFI, by omega, by omega, hE.cut ⟨rfl, rfl, rfl, rfl, rfl, trivial⟩, hS.fit⟩
        · have hou := h2 hpe
          subst hou
          repeat' (first | refine wl_nil ?_ | refine then_n ?_ | refine c_skip ?_ | refine inb_n ?_ | refine c_cond_f hE rfl ?_ | (refine c_regI 26 ?_; all_goals (refine wl hE rfl ?_; refine qf hE ?_; clear hE a; intro a hE); all_goals (refine wl hE rfl ?_; refine ql hE hS ?_; clear hE a; intro a hE); all_goals (refine wl hE rfl ?_; refine qb hE ?_; clear hE a; intro a hE)) | (refine c_regI 29 ?_; all_goals (refine wl hE rfl ?_; refine qm hE ?_; clear hE a; intro a hE); all_goals (refine wl hE rfl ?_; refine qm hE ?_; clear hE a; intro a hE); all_goals (refine wl hE rfl ?_; refine qL hE hS ?_; clear hE a; intro a hE); all_goals (refine wl hE rfl ?_; refine qm hE ?_; clear hE a; intro a hE); all_goals (refine wl hE rfl ?_; refine qc hE (hor _ (Rd.row (A := A2) (n := D.length) (c := c2) (xs := D.flatMap Cfg.cells) hS) (fun x hx => ((cfgs_ok hS (fun x hx => (hx12 x hx).1) : ∀ x ∈ D, _) x hx).1) (Rd.row (A := A9) (n := D.length) (c := D.length) (xs := ints T) hS) (Rd.row (A := A3) (n := 0) (c := c3) (xs := []) hS)) ?_; clear hE; clear a; rintro _ a w ⟨rfl, hS1⟩ hE; replace hS := hS.then hS1; clear hS1); all_goals (refine wl hE rfl ?_; refine qu hE ?_; clear hE a; intro a hE); all_goals (refine wl hE rfl ?_; refine qm hE ?_; clear hE a; intro a hE); all_goals (refine wl hE rfl ?_; refine qf hE ?_; clear hE a; intro a hE); all_goals (refine wl hE rfl ?_; refine ql hE hS ?_; clear hE a; intro a hE); all_goals (refine wl hE rfl ?_; refine qb hE ?_; clear hE a; intro a hE); all_goals (refine wl hE rfl ?_; refine qm hE ?_; clear hE a; intro a hE); all_goals ((refine wl_splitg hE rfl rfl ?_ ?_) <;> (clear hE; intro hb hE; (first | replace hb := of_decide_eq_true hb | replace hb := of_decide_eq_false hb | (simp only [Bool.not_eq_true', Bool.not_eq_false', decide_eq_true_eq, decide_eq_false_iff_not] at hb) | skip); try (exfalso; first | omega | exact absurd trivial hb | exact absurd rfl hb | (simp only [beq_self_eq_true, bne_self_eq_false, reduceCtorEq] at hb; done))) <;> (refine wl hE rfl ?_; refine qf hE ?_; clear hE a; intro a hE)); all_goals (refine wl hE rfl ?_; refine ql hE hS ?_; clear hE a; intro a hE); all_goals (refine wl hE rfl ?_; refine qn1 hE ?_; clear hE a; intro a hE); all_goals (refine wl hE rfl ?_; refine qb hE ?_; clear hE a; intro a hE); all_goals (refine wl hE rfl ?_; refine qpt hE ?_; clear hE a; intro a hE); all_goals (refine wl hE rfl ?_; refine qpf hE ?_; clear hE a; intro a hE); all_goals (refine wl hE rfl ?_; refine qm hE ?_; clear hE a; intro a hE); all_goals (refine wl hE rfl ?_; refine qf hE ?_; clear hE a; intro a hE); all_goals (refine wl hE rfl ?_; refine qf hE ?_; clear hE a; intro a hE); all_goals (refine wl hE rfl ?_; refine qf hE ?_; clear hE a; intro a hE); all_goals (refine wl hE rfl ?_; refine ql hE hS ?_; clear hE a; intro a hE); all_goals (refine wl hE rfl ?_; refine qpf hE ?_; clear hE a; intro a hE); all_goals (refine wl hE rfl ?_; refine qm hE ?_; clear hE a; intro a hE); all_goals (refine wl hE rfl ?_; refine qf hE ?_; clear hE a; intro a hE); all_goals (refine wl hE rfl ?_; refine qf hE ?_; clear hE a; intro a hE); all_goals (refine wl hE rfl ?_; refine ql hE hS ?_; clear hE a; intro a hE); all_goals (refine wl hE rfl ?_; refine is_call 16 rfl ?_; refine qc hE (rown_s s _ h5 hlt) ?_; rw [h4]; clear hE; clear a; rintro _ a w ⟨rfl, hS1⟩ hE; replace hS := hS.then hS1; clear hS1); all_goals (refine wl hE rfl ?_; refine qu hE ?_; clear hE a; intro a hE); all_goals (refine wl hE rfl ?_; refine qpf hE ?_; clear hE a; intro a hE)) | (refine c_regI 8 ?_; all_goals (refine wl hE rfl ?_; refine qm hE ?_; clear hE a; intro a hE); all_goals (refine wl hE rfl ?_; refine qb hE ?_; clear hE a; intro a hE); all_goals (refine wl hE rfl ?_; refine qa hE ?_; clear hE a; intro a hE)) | refine c_seq ?_)
          all_goals exact ⟨_, by omega, i + 1, by omega, by omega, rfl, St, T, S, F, nn, hSI, hST, hFI, by omega, by omega, hE.cut ⟨rfl, rfl, rfl, rfl, rfl, trivial⟩, hS.fit⟩
      · obtain ⟨h1, h2, h3⟩ := hV.1 hw
        dsimp only at h1 h2 h3
        subst h1 h2 h3
        repeat' (first | refine wl_nil ?_ | refine then_n ?_ | refine c_skip ?_ | refine c_exit ?_ | refine then_e ?_ | refine inb_e ?_ | refine c_cond_f hE rfl ?_ | (refine c_regI 26 ?_; all_goals (refine wl hE rfl ?_; refine qf hE ?_; clear hE a; intro a hE); all_goals (refine wl hE rfl ?_; refine ql hE hS ?_; clear hE a; intro a hE); all_goals (refine wl hE rfl ?_; refine qb hE ?_; clear hE a; intro a hE)) | (refine c_regI 27 ?_; all_goals (refine wl hE rfl ?_; refine qf hE ?_; clear hE a; intro a hE); all_goals (refine wl hE rfl ?_; refine ql hE hS ?_; clear hE a; intro a hE); all_goals (refine wl hE rfl ?_; refine qn1 hE ?_; clear hE a; intro a hE); all_goals (refine wl hE rfl ?_; refine qb hE ?_; clear hE a; intro a hE); all_goals (refine wl hE rfl ?_; refine qm hE ?_; clear hE a; intro a hE); all_goals (refine wl hE rfl ?_; refine qf hE ?_; clear hE a; intro a hE); all_goals (refine wl hE rfl ?_; refine ql hE hS ?_; clear hE a; intro a hE); all_goals (refine wl hE rfl ?_; refine qb hE ?_; clear hE a; intro a hE); all_goals (refine wl hE rfl ?_; refine qpf hE ?_; clear hE a; intro a hE); all_goals (refine wl hE rfl ?_; refine qm hE ?_; clear hE a; intro a hE); all_goals (refine wl hE rfl ?_; refine qf hE ?_; clear hE a; intro a hE); all_goals (refine wl hE rfl ?_; refine ql hE hS ?_; clear hE a; intro a hE); all_goals (refine wl hE rfl ?_; refine qpf hE ?_; clear hE a; intro a hE)) | (refine c_regI 8 ?_; all_goals (refine wl hE rfl ?_; refine qm hE ?_; clear hE a; intro a hE); all_goals (refine wl hE rfl ?_; refine qb hE ?_; clear hE a; intro a hE); all_goals (refine wl hE rfl ?_; refine qa hE ?_; clear hE a; intro a hE)) | refine c_seq ?_ | ((refine c_cond hE rfl ?_ ?_) <;> (intro hb; (first | replace hb := of_decide_eq_true hb | replace hb := of_decide_eq_false hb | (simp only [Bool.not_eq_true', Bool.not_eq_false', decide_eq_true_eq, decide_eq_false_iff_not] at hb) | skip); try (exfalso; first | omega | exact absurd trivial hb | exact absurd rfl hb | (simp only [beq_self_eq_true, bne_self_eq_false, reduceCtorEq] at hb; done)))))
        all_goals exact ⟨_, by omega, i + 1, by omega, by omega, rfl, St, T, S, F, nn, hSI, hST, hFI, by omega, by omega, hE.cut ⟨rfl, rfl, rfl, rfl, rfl, trivial⟩, hS.fit⟩
    · have h9 : StI (St.set o.po.toNat o.nu) := by
        have := stT_StI (n := D.length) (port := o.po) (st := o.nu) hSI hn64
        unfold stT at this
        dsimp only at this
        rwa [if_pos ⟨⟨hst.1, hst.2.1⟩, hst.2.2.1, hst.2.2.2⟩] at this
      exact ⟨_, _, S, F, nn, VdW 1, 0, none, 0, g, h9, StT_set hST (by omega) hst.1 hst.2.1, hFI, by omega, VOk_W _ _ _ _ (by decide), hE.cut ⟨rfl, rfl, rfl, rfl, rfl, rfl, rfl, trivial⟩, (show Sep W w (row 57 9 (.slice none 0 0) 0 [] :: _) from hS.nil_row).fit⟩
    · exact ⟨St, T, S, F, nn, VdW 1, 0, none, 0, g, hSI, hST, hFI, by omega, VOk_W _ _ _ _ (by decide), hE.cut ⟨rfl, rfl, rfl, rfl, rfl, rfl, rfl, trivial⟩, (show Sep W w (row 57 9 (.slice none 0 0) 0 [] :: _) from hS.nil_row).fit⟩
    · exact ⟨St, T, S, F, nn, VdW 1, 0, none, 0, g, hSI, hST, hFI, by omega, VOk_W _ _ _ _ (by decide), hE.cut ⟨rfl, rfl, rfl, rfl, rfl, rfl, rfl, trivial⟩, (show Sep W w (row 57 9 (.slice none 0 0) 0 [] :: _) from hS.nil_row).fit⟩
    · exfalso; omega
    · exact ⟨St, T, S, F, nn, VdW 1, 0, none, 0, g, hSI, hST, hFI, by omega, VOk_W _ _ _ _ (by decide), hE.cut ⟨rfl, rfl, rfl, rfl, rfl, rfl, rfl, trivial⟩, (show Sep W w (row 57 9 (.slice none 0 0) 0 [] :: _) from hS.nil_row).fit⟩
    · exact ⟨St, T, S, F, nn, VdW 1, 0, none, 0, g, hSI, hST, hFI, by omega, VOk_W _ _ _ _ (by decide), hE.cut ⟨rfl, rfl, rfl, rfl, rfl, rfl, rfl, trivial⟩, (show Sep W w (row 57 9 (.slice none 0 0) 0 [] :: _) from hS.nil_row).fit⟩
    · exact ⟨St, T, S1, F1, n2, V1, o.po, A3, c3, g, hSI, hST, hFI2, by omega, hK1, hE.cut ⟨rfl, rfl, rfl, rfl, rfl, rfl, rfl, trivial⟩, hS.fit⟩
    · exact ⟨St, T, S2, F2, n2, ⟨wh, vi, fv, ou, 0, false⟩, 0, A3, c3, g, hSI, hST, hFI2, by omega, hK2, hE.cut ⟨rfl, rfl, rfl, rfl, rfl, rfl, rfl, trivial⟩, hS.fit⟩
    · exact ⟨St, T, S, F, nn, VdW 1, 0, none, 0, g, hSI, hST, hFI, by omega, VOk_W _ _ _ _ (by decide), hE.cut ⟨rfl, rfl, rfl, rfl, rfl, rfl, rfl, trivial⟩, (show Sep W w (row 57 9 (.slice none 0 0) 0 [] :: _) from hS.nil_row).fit⟩
  · repeat' (first | refine wl_nil ?_ | refine then_n ?_ | refine c_exit ?_ | refine c_ret ?_ | refine then_e ?_ | refine inb_e ?_ | refine c_cond_f hE rfl ?_ | (refine c_regI 7 ?_; all_goals (refine wl hE rfl ?_; refine qm hE ?_; clear hE a; intro a hE); all_goals (refine wl hE rfl ?_; refine qm hE ?_; clear hE a; intro a hE); all_goals (refine wl hE rfl ?_; refine qn1 hE ?_; clear hE a; intro a hE); all_goals (refine wl hE rfl ?_; refine qb hE ?_; clear hE a; intro a hE); all_goals (refine wl hE rfl ?_; refine qm hE ?_; clear hE a; intro a hE); all_goals ((refine wl_splitg hE rfl rfl ?_ ?_) <;> (clear hE; intro hb hE; (first | replace hb := of_decide_eq_true hb | replace hb := of_decide_eq_false hb | (simp only [Bool.not_eq_true', Bool.not_eq_false', decide_eq_true_eq, decide_eq_false_iff_not] at hb) | skip); try (exfalso; first | omega | exact absurd trivial hb | exact absurd rfl hb | (simp only [beq_self_eq_true, bne_self_eq_false, reduceCtorEq] at hb; done))) <;> (first | (refine wl hE rfl ?_; refine qm hE ?_; clear hE a; intro a hE) | (refine wl_skip hE rfl rfl rfl ?_; clear hE a; intro a hE))); all_goals (first | (refine wl hE rfl ?_; refine qb hE ?_; clear hE a; intro a hE) | (refine wl_skip hE rfl rfl rfl ?_; clear hE a; intro a hE)); all_goals (refine wl hE rfl ?_; first | (refine qpt hE ?_; clear hE a; intro a hE) | (refine qpf hE ?_; clear hE a; intro a hE))) | (refine c_regI 31 ?_; all_goals (refine wl hE rfl ?_; refine is_call 17 rfl ?_; refine qc hE (fixed17_s _) ?_; clear hE; clear a; rintro _ a w ⟨rfl, hS1⟩ hE; replace hS := hS.then hS1; clear hS1); all_goals (refine wl hE rfl ?_; refine qa hE ?_; clear hE a; intro a hE)) | refine c_seq ?_ | ((refine c_cond hE rfl ?_ ?_) <;> (intro hb; (first | replace hb := of_decide_eq_true hb | replace hb := of_decide_eq_false hb | (simp only [Bool.not_eq_true', Bool.not_eq_false', decide_eq_true_eq, decide_eq_false_iff_not] at hb) | skip); try (exfalso; first | omega | exact absurd trivial hb | exact absurd rfl hb | (simp only [beq_self_eq_true, bne_self_eq_false, reduceCtorEq] at hb; done)))))
    all_goals exact p_ret hE rfl rfl ⟨_, rfl, rfl, hS.clean⟩
def frOf17 (x : T39) : Fr := ⟨x.1, x.2.1, x.2.2.1.1, x.2.2.1.2.1, x.2.2.1.2.2.1, x.2.2.1.2.2.2, x.2.2.2.1, x.2.2.2.2⟩
def ozOf (x : Int × Int × Int × T39 × Int) : Oz := ⟨x.1, x.2.1, x.2.2.1, frOf17 x.2.2.2.1, x.2.2.2.2⟩
theorem ozs_cells {W : World} {x : T27} {A : Option Addr} {n c : Nat} (K : kd27.K W x [.slice A n c]) : n = (x.map ozOf).length ∧ (x.map ozOf).length ≤ c ∧ Rd W A ((x.map ozOf).flatMap Oz.cells) := by
  obtain ⟨A', c', rs, e, hle, hr, hR⟩ := K
  cases e
  rw [Kn.Rows.flat (f := fun x => Oz.cells (ozOf x)) (fun x r h => by obtain ⟨_, _, rfl, rfl, _, _, rfl, rfl, _, _, rfl, rfl, _, _, rfl, ⟨_, _, rfl, rfl, _, _, rfl, rfl, _, _, rfl, ⟨_, _, rfl, rfl, _, _, rfl, rfl, _, _, rfl, rfl, rfl⟩, _, _, rfl, rfl, rfl⟩, rfl⟩ := h; rfl) x rs hr] at hR
  refine ⟨by simp, by simpa using hle, ?_⟩
  rwa [List.flatMap_map]
theorem u64_pos {n : Int} (h : (Lit.int .u64 n).wf = true) : 0 ≤ n := by
  have e1 : IntKind.u64.min = 0 := by decide
  have h2 : (decide (IntKind.u64.min ≤ n) && decide (n ≤ IntKind.u64.max)) = true := h
  rw [e1, Bool.and_eq_true, decide_eq_true_eq, decide_eq_true_eq] at h2
  omega
theorem bridgeApart_call (W : World) (x0 : T26) (cs0 : List Value) (K0 : kd26.K W x0 cs0) (w0 : wf26 x0) (x1 : T27) (A1 : Option Addr) (len1 cap1 : Nat) (K1 : kd27.K W x1 [.slice A1 len1 cap1]) (w1 : wf27 x1) : Calls Try.prog 3 #[.agg cs0.toArray, .slice A1 len1 cap1] W fun e w' => ∃ r, e = .returned r ∧ r = .bool true ∧ Sep W w' [] := by
  obtain ⟨B, bc, lc, kp, rfl, hB, hBl, hBX⟩ := box_open K0 w0
  obtain ⟨rfl, hcap, hR⟩ := ozs_cells K1
  refine apart_law B bc lc kp A1 cap1 _ W hB hBl hBX hcap hR (by rw [List.length_map]; exact w1.1) fun o ho => ?_
  obtain ⟨y, hy, rfl⟩ := List.mem_map.1 ho
  have h := (w1.2 y hy).2.2.2.1
  exact ⟨u64_pos h.1, u64_pos h.2.1⟩
end Go.Proofs.Ytdgpjkddpbiieaa

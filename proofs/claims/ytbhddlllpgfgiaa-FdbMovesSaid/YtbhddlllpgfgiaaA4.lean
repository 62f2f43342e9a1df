/- DERIVED. Layer 10: a table's heap; one put in. No condition. -/
import Derived.Test.YtbhddlllpgfgiaaA3
namespace Go.Proofs.Ytbhddlllpgfgiaa
open Go.RowKit Go.Sx Go.Proofs.YtbhddlllpgfgiaaTy
set_option linter.unusedVariables false
set_option linter.unusedSimpArgs false
set_option maxRecDepth 100000
attribute [local irreducible] Oper.wp Code.wp wpList wpAnyH Calls bodyPost Exit.then Exit.inBlock Code.rounds
set_option maxHeartbeats 1000000
def KeyV : Value := .func (.func 38) #[] #[]
/-- What a table owns: its block, and its row. -/
def Ag (g : Nat) (l : List En) (room life : Int) : Asn := ex fun (p : Option Addr × Nat) => stars [blk g [.slice p.1 l.length p.2, .func (.func 38) #[] #[], .int .i64 room, .int .i64 life] 90, row 71 4 (.slice p.1 l.length p.2) l.length (l.flatMap En.cells)]
theorem Ag.out {g : Nat} {l : List En} {room life : Int} {w0 w : World} {L L' : List Asn} (hS : Sep w0 w L) (hp : Pull (Ag g l room life) L L' := by repeat (first | exact Pull.here | apply Pull.there)) : ∃ A c, Sep w0 w (blk g [.slice A l.length c, .func (.func 38) #[] #[], .int .i64 room, .int .i64 life] 90 :: row 71 4 (.slice A l.length c) l.length (l.flatMap En.cells) :: L') := by
  obtain ⟨⟨A, c⟩, h⟩ := hS.out_ex hp
  exact ⟨A, c, h.out_stars Pull.here⟩
theorem Ag.in_ {g : Nat} {l : List En} {room life : Int} {A : Option Addr} {c : Nat} {w0 w : World} {L : List Asn} (hS : Sep w0 w (blk g [.slice A l.length c, .func (.func 38) #[] #[], .int .i64 room, .int .i64 life] 90 :: row 71 4 (.slice A l.length c) l.length (l.flatMap En.cells) :: L)) : Sep w0 w (Ag g l room life :: L) :=
  Sep.in_ex (f := fun (p : Option Addr × Nat) => stars [blk g [.slice p.1 l.length p.2, .func (.func 38) #[] #[], .int .i64 room, .int .i64 life] 90, row 71 4 (.slice p.1 l.length p.2) l.length (l.flatMap En.cells)]) (A, c) (Sep.in_stars (M := [_, _]) hS)
theorem At.tail {w : World} {g o : Nat} {x : Value} {xs : List Value} (h : At w ⟨g, o, none⟩ (x :: xs)) : At w ⟨g, o + 1, none⟩ xs := fun j v hj => by
  have := h (j + 1) v (by simpa using hj)
  have e : (⟨g, o, none⟩ : Addr).add (j + 1) = (⟨g, o + 1, none⟩ : Addr).add j := by
    unfold Addr.add
    split <;> split <;> simp only [Addr.mk.injEq, and_true, true_and] <;> omega
  rwa [e] at this
theorem At.head {w : World} {ad : Addr} {x : Value} {xs : List Value} (h : At w ad (x :: xs)) : At w ad [x] := At.pre (xs := [x]) (ys := xs) h
theorem find_t (A : Option Addr) (c g : Nat) (l : List En) (key : Int) (rest : List Value) (w0 : World) (hT : At w0 ⟨g, 0, none⟩ (.slice A l.length c :: .func (.func 38) #[] #[] :: rest)) (hR : Rd w0 A (l.flatMap En.cells)) (hl : l.length ≤ 1073741824) (hs : Rising l) :
    Calls Try.prog 41 #[.pointer (some ⟨g, 0, none⟩), .int .u64 key] w0 fun e w' => ∃ r, e = .returned r ∧ (∃ i : Int, r = .tuple #[.int .i64 i, .bool (decide (i < l.length ∧ (l.getD i.toNat E0).k = key))] ∧ At1 l key i) ∧ Sep w0 w' [] :=
  find_s A c g l key w0 (At.head hT) (At.head (At.tail hT)) hR hl hs
theorem insert_j (A : Option Addr) (c : Nat) (l : List En) (j : Int) (x : En) (g1 c1 : Nat) (u0 w0 : World) (L : List Asn) (hj : 0 ≤ j) (hi : j ≤ l.length) (hl : l.length ≤ 1073741822)
    (hS0 : Sep u0 w0 (row 71 4 (.slice (some ⟨g1, 0, none⟩) 1 c1) 1 x.cells :: row 71 4 (.slice A l.length c) l.length (l.flatMap En.cells) :: L)) :
    Calls Try.prog 60 #[.slice A l.length c, .int .i64 j, .slice (some ⟨g1, 0, none⟩) 1 c1] w0 fun e w' => ∃ r, e = .returned r ∧ ∃ A' c', r = .slice A' (l.length + 1) c' ∧ Sep u0 w' (row 71 4 (.slice A' (l.length + 1) c') (l.length + 1) ((insAt l j.toNat x).flatMap En.cells) :: L) := by
  have := insert_s A c l j.toNat x g1 c1 u0 w0 L (by omega) hl hS0
  rw [Int.toNat_of_nonneg hj] at this
  exact this
theorem insAt_len (l : List En) (i : Nat) (x : En) (h : i ≤ l.length) : (insAt l i x).length = l.length + 1 := by
  simp only [insAt, List.length_append, List.length_take, List.length_singleton, List.length_drop]
  omega
/-- One put in its place, in a list by rising keys. -/
def putAt (l : List En) (i : Int) (x : En) : List En := if i < l.length ∧ (l.getD i.toNat E0).k = x.k then l.set i.toNat x else insAt l i.toNat x
theorem oput_s (g : Nat) (l : List En) (room life : Int) (x : En) (u0 w0 : World) (L : List Asn) (hS0 : Sep u0 w0 (Ag g l room life :: L)) (hl : l.length ≤ 1073741822) (hs : Rising l) : Calls Try.prog 48 #[.pointer (some ⟨g, 0, none⟩), .agg x.cells.toArray] w0 fun e w' => ∃ r, e = .returned r ∧ r = .tuple #[] ∧ ∃ i, At1 l x.k i ∧ Sep u0 w' (Ag g (putAt l i x) room life :: L) := by
  refine enter (args := [.pointer (some ⟨g, 0, none⟩), .agg x.cells.toArray]) 36 Try.func48 rfl rfl rfl ?_
  intro a hE _
  obtain ⟨A, c, hS⟩ := Ag.out hS0
  clear hS0
  obtain ⟨hc1, hc2, _⟩ := hS.drop.row_cap
  have hA : (0 : Int) < l.length → A = some (adr A) := fun h => (Rd.row (A := A) (n := l.length) (c := c) (xs := l.flatMap En.cells) hS).some (by rw [flat_len elen]; omega)
  obtain ⟨g0, hg0⟩ : ∃ g0, g0 = g := ⟨_, rfl⟩
  rw [← hg0] at hE hS
  revert hE
  revert hS
  generalize w0 = w
  intro hS hE
  repeat' (first | refine wl_nil ?_ | refine then_n ?_ | refine c_block ?_ | refine c_skip ?_ | refine c_exit ?_ | refine c_ret ?_ | refine then_r ?_ | refine then_e ?_ | refine inb_n ?_ | refine inb_r ?_ | refine inb_e ?_ | refine inb_o rfl ?_ | refine c_cond_t hE rfl ?_ | refine c_cond_f hE rfl ?_ | refine c_rnd ?_ | (refine c_midr (id := 1) (I := fun a w => ∃ i : Int, At1 l x.k i ∧ ∃ g, Env a 36 [(0, .pointer (some ⟨g0, 0, none⟩)), (3, .pointer (some ⟨g, 0, none⟩)), (4, .int .i64 i), (5, .bool (decide (i < l.length ∧ (l.getD i.toNat E0).k = x.k)))] ∧ Sep u0 w (blk g x.cells 71 :: blk g0 [.slice A l.length c, .func (.func 38) #[] #[], .int .i64 room, .int .i64 life] 90 :: row 71 4 (.slice A l.length c) l.length (l.flatMap En.cells) :: L)) ?_ ?_; rotate_left; clear hE hS; clear a w g; rintro a w ⟨i, hi, g, hE, hS⟩; have hi0 := hi.1; have hi1 := hi.2.1) | (refine c_regI 0 ?_; all_goals (refine wl hE rfl ?_; (first | refine qbx hE hS ?_); clear hE hS; clear a; intro g a w hE hS)) | (refine c_regI 2 ?_; all_goals (refine wl hE rfl ?_; refine qm hE ?_; clear hE a; intro a hE)) | refine c_seq ?_ | (refine rg_guard 1 ?_; refine rg_start [0, 3] hE hS ?_; clear hS; (try clear w); intro w hS hX; all_goals (first | (refine rg_y 0 hE hX (by first | exact y_move | exact y_index hA) ?_ rfl rfl rfl rfl; clear hE a; intro a hE)); all_goals (first | (refine rg_y 1 hE hX (by first | exact y_move | exact y_index hA) ?_ rfl rfl rfl rfl; clear hE a; intro a hE)); all_goals (first | (refine rg_y 2 hE hX (by first | exact y_nil | exact y_index hA) ?_ rfl rfl rfl rfl; clear hE a; intro a hE)); all_goals (first | (refine rg_y 3 hE hX (by first | exact y_fieldFF | exact y_field | exact y_fieldF | exact y_index hA) ?_ rfl rfl rfl rfl; clear hE a; intro a hE)); all_goals (first | (refine rg_y 4 hE hX (by first | exact y_load | exact y_loadA | exact y_index hA) ?_ rfl rfl rfl rfl; clear hE a; intro a hE)); all_goals (first | (refine rg_y 5 hE hX (by first | exact y_load | exact y_loadA | exact y_index hA) ?_ rfl rfl rfl rfl; clear hE a; intro a hE)); all_goals (first | (refine rg_e 6 hE rfl rfl (by kernel_rfl) ?_; intro K hK; (first | ((refine qcF (vs := [.agg x.cells.toArray]) (cs := []) hE (key_s x _) ?_; clear hE; clear a; rintro _ a w ⟨rfl, hS1⟩ hE; replace hS := hS.then hS1; clear hS1)) | ((first | refine qmin hE ?_ | refine qmax hE ?_); clear hE a; intro a hE)); refine rg_k hK hS ?_; clear hK hX; clear K; intro hX)); all_goals (first | (refine rg_e 7 hE rfl rfl (by kernel_rfl) ?_; intro K hK; (first | ((refine is_call 41 rfl ?_; refine qc hE (find_t A c g0 l x.k _ _ (blk_At hS) (Rd.row (A := A) (n := l.length) (c := c) (xs := l.flatMap En.cells) hS) (by omega) hs) ?_; clear hE; clear a; rintro _ a w ⟨⟨i, rfl, hi⟩, hS1⟩ hE; replace hS := hS.then hS1; clear hS1))); refine rg_k hK hS ?_; clear hK hX; clear K; intro hX)); all_goals (first | (refine rg_y 8 hE hX (by first | exact y_move | exact y_index hA) ?_ rfl rfl rfl rfl; clear hE a; intro a hE)); all_goals (first | (refine rg_y 9 hE hX (by first | exact y_extract | exact y_index hA) ?_ rfl rfl rfl rfl; clear hE a; intro a hE)); all_goals (first | (refine rg_y 10 hE hX (by first | exact y_extract | exact y_index hA) ?_ rfl rfl rfl rfl; clear hE a; intro a hE)); all_goals (first | (refine rg_y 11 hE hX (by first | exact y_assign | exact y_index hA) ?_ rfl rfl rfl rfl; clear hE a; intro a hE)); all_goals (first | (refine rg_y 12 hE hX (by first | exact y_assign | exact y_index hA) ?_ rfl rfl rfl rfl; clear hE a; intro a hE)); all_goals (refine rg_done ?_ (by kernel_rfl); (try clear hX))) | (refine rg_guard 3 ?_; refine rl_start 7 [0, 3] hE hS ?_; clear hS; (try clear w); intro w hS hX; all_goals (first | (refine rl_y 0 hE hX (by first | exact y_move | exact y_index hA) ?_ rfl rfl rfl rfl; clear hE a; intro a hE)); all_goals (first | (refine rl_y 1 hE hX (by first | exact y_nil | exact y_index hA) ?_ rfl rfl rfl rfl; clear hE a; intro a hE)); all_goals (first | (refine rl_y 2 hE hX (by first | exact y_fieldFF | exact y_field | exact y_fieldF | exact y_index hA) ?_ rfl rfl rfl rfl; clear hE a; intro a hE)); all_goals (first | (refine rl_y 3 hE hX (by first | exact y_load | exact y_loadA | exact y_index hA) ?_ rfl rfl rfl rfl; clear hE a; intro a hE)); all_goals (first | (refine rl_y 4 hE hX (by first | exact y_move | exact y_index hA) ?_ rfl rfl rfl rfl; clear hE a; intro a hE)); all_goals (first | (refine rl_y 5 hE hX (by first | exact y_load | exact y_loadA | exact y_index hA) ?_ rfl rfl rfl rfl; clear hE a; intro a hE)); all_goals (first | (refine rl_y 6 hE hX (by first | exact y_ia | exact y_index hA) ?_ rfl rfl rfl rfl; clear hE a; intro a hE)); all_goals (first | (refine rl_z (z := 7) hE rfl rfl (by kernel_rfl) ?_; intro K hK; (first | ((refine qsR (df := E0) (off := 0) (v := .agg x.cells.toArray) (l := l) (i := i) x hE hS elen rfl ?_; clear hS; intro w hS)) | ((first | refine qst0 hE hS ?_ | refine qst hE hS ?_); clear hS; intro w hS)); refine hK _ _ ?_; clear hK; clear K)); all_goals (refine rl_done ?_ (by kernel_rfl); (try clear hX))) | (refine rg_guard 4 ?_; refine rl_start 11 [0, 3] hE hS ?_; clear hS; (try clear w); intro w hS hX; all_goals (first | (refine rl_y 0 hE hX (by first | exact y_move | exact y_index hA) ?_ rfl rfl rfl rfl; clear hE a; intro a hE)); all_goals (first | (refine rl_y 1 hE hX (by first | exact y_move | exact y_index hA) ?_ rfl rfl rfl rfl; clear hE a; intro a hE)); all_goals (first | (refine rl_y 2 hE hX (by first | exact y_nil | exact y_index hA) ?_ rfl rfl rfl rfl; clear hE a; intro a hE)); all_goals (first | (refine rl_y 3 hE hX (by first | exact y_fieldFF | exact y_field | exact y_fieldF | exact y_index hA) ?_ rfl rfl rfl rfl; clear hE a; intro a hE)); all_goals (first | (refine rl_y 4 hE hX (by first | exact y_load | exact y_loadA | exact y_index hA) ?_ rfl rfl rfl rfl; clear hE a; intro a hE)); all_goals (first | (refine rl_y 5 hE hX (by first | exact y_move | exact y_index hA) ?_ rfl rfl rfl rfl; clear hE a; intro a hE)); all_goals (first | (refine rl_y 6 hE hX (by first | exact y_load | exact y_loadA | exact y_index hA) ?_ rfl rfl rfl rfl; clear hE a; intro a hE)); all_goals (first | (refine rl_e 7 hE rfl rfl (by kernel_rfl) ?_; intro K hK; (first | ((first | refine qbs1 hE hS ?_ | refine qbs hE hS ?_ | refine qbs0 hE hS ?_); clear hE hS; clear a; intro g a w hE hS)); refine rl_k hK hS ?_; clear hK hX; clear K; intro hX)); all_goals (first | (refine rl_e 8 hE rfl rfl (by kernel_rfl) ?_; intro K hK; (first | ((refine is_call 60 rfl ?_; refine qc hE (insert_j A c l i x g 1 u0 _ _ hi0 hi1 hl hS.fit) ?_; clear hE hS; clear a; rintro _ a w ⟨A2, c2, rfl, hS⟩ hE))); refine rl_k hK hS ?_; clear hK hX; clear K; intro hX)); all_goals (first | (refine rl_e 9 hE rfl rfl (by kernel_rfl) ?_; intro K hK; (first | ((first | refine qn hE ?_ | refine qnf hE ?_); clear hE a; intro a hE)); refine rl_k hK hS ?_; clear hK hX; clear K; intro hX)); all_goals (first | (refine rl_y 10 hE hX (by first | exact y_fieldFF | exact y_field | exact y_fieldF | exact y_index hA) ?_ rfl rfl rfl rfl; clear hE a; intro a hE)); all_goals (first | (refine rl_z (z := 11) hE rfl rfl (by kernel_rfl) ?_; intro K hK; (first | ((refine qsR (df := E0) (off := 0) (v := .agg x.cells.toArray) (l := l) (i := i) x hE hS elen rfl ?_; clear hS; intro w hS)) | ((first | refine qst0 hE hS ?_ | refine qst hE hS ?_); clear hS; intro w hS)); refine hK _ _ ?_; clear hK; clear K)); all_goals (refine rl_done ?_ (by kernel_rfl); (try clear hX))) | ((refine c_cond hE rfl ?_ ?_) <;> (intro hb; (first | replace hb := of_decide_eq_true hb | replace hb := of_decide_eq_false hb | (simp only [Bool.not_eq_true', Bool.not_eq_false', decide_eq_true_eq, decide_eq_false_iff_not] at hb) | skip); try (exfalso; first | omega | exact absurd trivial hb | exact absurd rfl hb | (simp only [beq_self_eq_true, bne_self_eq_false, reduceCtorEq] at hb; done)))))
  all_goals subst hg0
  · refine p_none hE rfl ⟨_, rfl, rfl, i, hi, ?_⟩
    have e : (putAt l i x) = l.set i.toNat x := by unfold putAt; rw [if_pos hb]
    rw [e]
    have h2 : l.length = (l.set i.toNat x).length := by simp
    refine Ag.in_ (A := A) (c := c) ?_
    rw [← h2]
    exact hS.fit
  · refine p_end hE rfl ⟨_, rfl, rfl, i, hi, ?_⟩
    have e : (putAt l i x) = insAt l i.toNat x := by unfold putAt; rw [if_neg hb]
    rw [e]
    have h2 : (insAt l i.toNat x).length = l.length + 1 := insAt_len l _ x (by omega)
    refine Ag.in_ (A := A2) (c := c2) ?_
    rw [h2]
    exact hS.fit
  · exact ⟨i, hi, _, hE.cut ⟨rfl, rfl, rfl, rfl, trivial⟩, hS⟩
end Go.Proofs.Ytbhddlllpgfgiaa

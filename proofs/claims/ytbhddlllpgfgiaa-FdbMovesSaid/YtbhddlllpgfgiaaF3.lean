/- DERIVED. Layer 11: the moves of addresses; a table's heap. No condition. -/
import Derived.Test.YtbhddlllpgfgiaaF2
namespace Go.Proofs.Ytbhddlllpgfgiaa
open Go.RowKit Go.Sx Go.Proofs.YtbhddlllpgfgiaaTy
set_option linter.unusedVariables false
set_option linter.unusedSimpArgs false
set_option maxRecDepth 100000
attribute [local irreducible] Oper.wp Code.wp wpList wpAnyH Calls bodyPost Exit.then Exit.inBlock Code.rounds
set_option maxHeartbeats 1000000
theorem u64_wf {k : Int} (h0 : 0 ≤ k) (h1 : k < 18446744073709551616) : (Lit.int .u64 k).wf = true := by
  have e1 : IntKind.u64.min = 0 := by decide
  have e2 : IntKind.u64.max = 18446744073709551615 := by decide
  show (decide (IntKind.u64.min ≤ k) && decide (k ≤ IntKind.u64.max)) = true
  rw [e1, e2, decide_eq_true h0, decide_eq_true (by omega)]
  rfl
/-- The moves of one key, and where they lie. -/
structure Mv where
  k : Int
  l : List Int
  A : Option Addr
  c : Nat
def mvRow (m : Mv) : Asn := row 3 1 (.slice m.A m.l.length m.c) m.l.length (m.l.flatMap ic)
def slot (D : List Mv) (k : Int) : Mv := (D.find? fun m => decide (m.k = k)).getD ⟨k, [], none, 0⟩
def lookM (D : List Mv) (k : Int) : Option Value := (D.find? fun m => decide (m.k = k)).map fun m => .slice m.A m.l.length m.c
theorem look_slot (D : List Mv) (k : Int) : (lookM D k).getD (.slice none 0 0) = .slice (slot D k).A (slot D k).l.length (slot D k).c := by
  unfold lookM slot
  cases D.find? fun m => decide (m.k = k) <;> rfl
theorem pull_mid {x : Asn} {R : List Asn} : ∀ L : List Asn, Pull x (L ++ x :: R) (L ++ R)
  | [] => Pull.here
  | _ :: L => Pull.there (pull_mid L)
theorem slot_out {D : List Mv} {k : Int} {w0 w : World} {L L' : List Asn} (hS : Sep w0 w L) (hp : Pull (stars (D.map mvRow)) L L' := by repeat (first | exact Pull.here | apply Pull.there)) : ∃ D' : List Mv, (∀ k', k' ≠ k → D'.find? (fun m => decide (m.k = k')) = D.find? fun m => decide (m.k = k')) ∧ Sep w0 w (stars (D'.map mvRow) :: mvRow (slot D k) :: L') := by
  have h := hS.out_stars hp
  cases hf : D.find? fun m => decide (m.k = k) with
  | none =>
    refine ⟨D, fun _ _ => rfl, ?_⟩
    have e : slot D k = ⟨k, [], none, 0⟩ := by unfold slot; rw [hf]; rfl
    rw [e]
    have h2 : Sep w0 w (row 3 1 (.slice none 0 0) 0 [] :: (D.map mvRow ++ L')) := h.nil_row
    exact (h2.push (L := D.map mvRow ++ mvRow ⟨k, [], none, 0⟩ :: L') (pull_mid _)).in_stars
  | some m =>
    have e : slot D k = m := by unfold slot; rw [hf]; rfl
    obtain ⟨hk, a, b, hD, ha⟩ := List.find?_eq_some_iff_append.1 hf
    refine ⟨a ++ b, ?_, ?_⟩
    · intro k' hk'
      have hne : ¬ m.k = k' := by have := of_decide_eq_true hk; omega
      rw [hD, List.find?_append, List.find?_append, List.find?_cons_of_neg (by simpa using hne)]
    · rw [hD, List.map_append, List.map_cons, List.append_assoc, List.cons_append] at h
      have h2 := h.pull (pull_mid (x := mvRow m) (R := b.map mvRow ++ L') (a.map mvRow))
      rw [← List.append_assoc, ← List.map_append] at h2
      rw [e]
      exact (h2.push (pull_mid _)).in_stars
theorem slot_in {D' : List Mv} {m : Mv} {w0 w : World} {L : List Asn} (hS : Sep w0 w (stars (D'.map mvRow) :: mvRow m :: L)) : Sep w0 w (stars ((m :: D').map mvRow) :: L) := by
  have h : Sep w0 w (D'.map mvRow ++ mvRow m :: L) := hS.out_stars Pull.here
  have h2 : Sep w0 w (mvRow m :: (D'.map mvRow ++ L)) := h.pull (pull_mid _)
  exact Sep.in_stars (M := (m :: D').map mvRow) h2
/-- What a map of moves owns. -/
def Mp (b : Nat) (F : Int → List Int) (n : Nat) : Asn := ex fun (D : List Mv) => stars [pur (∀ k, F k = (slot D k).l), mpA Try.prog 39 .u64 b n (lookM D), stars (D.map mvRow)]
theorem Mp.out {b n : Nat} {F : Int → List Int} {w0 w : World} {L L' : List Asn} (hS : Sep w0 w L) (hp : Pull (Mp b F n) L L' := by repeat (first | exact Pull.here | apply Pull.there)) : ∃ D, (∀ k, F k = (slot D k).l) ∧ Sep w0 w (mpA Try.prog 39 .u64 b n (lookM D) :: stars (D.map mvRow) :: L') := by
  obtain ⟨D, h⟩ := hS.out_ex hp
  have h2 : Sep w0 w (pur (∀ k, F k = (slot D k).l) :: mpA Try.prog 39 .u64 b n (lookM D) :: stars (D.map mvRow) :: L') := h.out_stars Pull.here
  obtain ⟨h3, h4⟩ := h2.out_pur Pull.here
  exact ⟨D, h3, h4⟩
theorem Mp.in_ {b n : Nat} {F : Int → List Int} {D : List Mv} {w0 w : World} {L : List Asn} (hF : ∀ k, F k = (slot D k).l) (hS : Sep w0 w (mpA Try.prog 39 .u64 b n (lookM D) :: stars (D.map mvRow) :: L)) : Sep w0 w (Mp b F n :: L) :=
  Sep.in_ex (f := fun (D : List Mv) => stars [pur (∀ k, F k = (slot D k).l), mpA Try.prog 39 .u64 b n (lookM D), stars (D.map mvRow)]) D (Sep.in_stars (M := [_, _, _]) (hS.in_pur hF))
structure Kp where
  room : Int
  life : Int
  moves : Int
  win : Int
def Kp.cells (k : Kp) : List Value := [.int .i64 k.room, .int .i64 k.life, .int .i64 k.moves, .int .i64 k.win]
/-- What a table of addresses owns. -/
def Fd (g : Nat) (S : List En) (F : Int → List Int) (n : Nat) (kp : Kp) : Asn := ex fun (p : Nat × Nat) => stars [blk g [.pointer (some ⟨p.1, 0, none⟩), .int .i64 kp.room, .int .i64 kp.life, .int .i64 kp.moves, .int .i64 kp.win, .map (some p.2)] 65, Ag p.1 S kp.room kp.life, Mp p.2 F n]
theorem Fd.out {g n : Nat} {S : List En} {F : Int → List Int} {kp : Kp} {w0 w : World} {L L' : List Asn} (hS : Sep w0 w L) (hp : Pull (Fd g S F n kp) L L' := by repeat (first | exact Pull.here | apply Pull.there)) : ∃ gt b, Sep w0 w (blk g [.pointer (some ⟨gt, 0, none⟩), .int .i64 kp.room, .int .i64 kp.life, .int .i64 kp.moves, .int .i64 kp.win, .map (some b)] 65 :: Ag gt S kp.room kp.life :: Mp b F n :: L') := by
  obtain ⟨⟨gt, b⟩, h⟩ := hS.out_ex hp
  exact ⟨gt, b, h.out_stars Pull.here⟩
theorem Fd.in_ {g n gt b : Nat} {S : List En} {F : Int → List Int} {kp : Kp} {w0 w : World} {L : List Asn} (hS : Sep w0 w (blk g [.pointer (some ⟨gt, 0, none⟩), .int .i64 kp.room, .int .i64 kp.life, .int .i64 kp.moves, .int .i64 kp.win, .map (some b)] 65 :: Ag gt S kp.room kp.life :: Mp b F n :: L)) : Sep w0 w (Fd g S F n kp :: L) :=
  Sep.in_ex (f := fun (p : Nat × Nat) => stars [blk g [.pointer (some ⟨p.1, 0, none⟩), .int .i64 kp.room, .int .i64 kp.life, .int .i64 kp.moves, .int .i64 kp.win, .map (some p.2)] 65, Ag p.1 S kp.room kp.life, Mp p.2 F n]) (gt, b) (Sep.in_stars (M := [_, _, _]) hS)
def tooOld (win now at_ : Int) : Bool := decide (win ≤ now - at_)
theorem counted1_s (b5 b3 g : Nat) (win now x : Int) (w0 : World) (h1 : At w0 ⟨b5, 0, none⟩ [.int .i64 now]) (h2 : At w0 ⟨b3, 0, none⟩ [.pointer (some ⟨g, 0, none⟩)]) (h3 : At w0 ⟨g, 4, none⟩ [.int .i64 win]) (hn : 0 ≤ now ∧ now ≤ 1099511627776) (hx : 0 ≤ x ∧ x ≤ 1099511627776) : Calls Try.prog 46 #[.int .i64 x, .pointer (some ⟨b5, 0, none⟩), .pointer (some ⟨b3, 0, none⟩)] w0 fun e w' => ∃ r, e = .returned r ∧ r = .bool (tooOld win now x) ∧ Sep w0 w' [] := by
  refine enter (args := [.int .i64 x, .pointer (some ⟨b5, 0, none⟩), .pointer (some ⟨b3, 0, none⟩)]) 14 Try.func46 rfl rfl rfl ?_
  intro a hE hS
  repeat' (first | refine wl_nil ?_ | refine then_n ?_ | refine c_block ?_ | refine c_skip ?_ | refine c_exit ?_ | refine c_ret ?_ | refine then_r ?_ | refine then_e ?_ | refine inb_n ?_ | refine inb_r ?_ | refine inb_e ?_ | refine inb_o rfl ?_ | refine c_cond_t hE rfl ?_ | refine c_cond_f hE rfl ?_ | refine c_rnd ?_ | (refine c_regI 0 ?_; all_goals (refine wl hE rfl ?_; refine qa hE ?_; clear hE a; intro a hE)) | refine c_seq ?_ | (refine rg_guard 1 ?_; refine rg_start [1, 2] hE hS ?_; clear hS; (try clear w); intro w hS hX; all_goals (first | (refine rg_y 0 hE hX (by first | exact y_load | exact y_loadA | exact y_load0 h1 | exact y_load0 h2 | exact y_load0 h3) ?_ rfl rfl rfl rfl; clear hE a; intro a hE)); all_goals (first | (refine rg_y 1 hE hX (by first | exact y_move | exact y_load0 h1 | exact y_load0 h2 | exact y_load0 h3) ?_ rfl rfl rfl rfl; clear hE a; intro a hE)); all_goals (first | (refine rg_y 2 hE hX (by first | exact y_bin | exact y_binE | exact y_binN | exact y_bin2 | exact y_pn | exact y_load0 h1 | exact y_load0 h2 | exact y_load0 h3) ?_ rfl rfl rfl rfl; clear hE a; intro a hE)); all_goals (first | (refine rg_y 3 hE hX (by first | exact y_load | exact y_loadA | exact y_load0 h1 | exact y_load0 h2 | exact y_load0 h3) ?_ rfl rfl rfl rfl; clear hE a; intro a hE)); all_goals (first | (refine rg_y 4 hE hX (by first | exact y_nil | exact y_load0 h1 | exact y_load0 h2 | exact y_load0 h3) ?_ rfl rfl rfl rfl; clear hE a; intro a hE)); all_goals (first | (refine rg_y 5 hE hX (by first | exact y_fieldFF | exact y_field | exact y_fieldF | exact y_load0 h1 | exact y_load0 h2 | exact y_load0 h3) ?_ rfl rfl rfl rfl; clear hE a; intro a hE)); all_goals (first | (refine rg_y 6 hE hX (by first | exact y_fieldFF | exact y_field | exact y_fieldF | exact y_load0 h1 | exact y_load0 h2 | exact y_load0 h3) ?_ rfl rfl rfl rfl; clear hE a; intro a hE)); all_goals (first | (refine rg_y 7 hE hX (by first | exact y_load | exact y_loadA | exact y_load0 h1 | exact y_load0 h2 | exact y_load0 h3) ?_ rfl rfl rfl rfl; clear hE a; intro a hE)); all_goals (first | (refine rg_y 8 hE hX (by first | exact y_bin | exact y_binE | exact y_binN | exact y_bin2 | exact y_pn | exact y_load0 h1 | exact y_load0 h2 | exact y_load0 h3) ?_ rfl rfl rfl rfl; clear hE a; intro a hE)); all_goals (first | (refine rg_y 9 hE hX (by first | exact y_assign | exact y_load0 h1 | exact y_load0 h2 | exact y_load0 h3) ?_ rfl rfl rfl rfl; clear hE a; intro a hE)); all_goals (refine rg_done ?_ (by kernel_rfl); (try clear hX))) | ((refine c_cond hE rfl ?_ ?_) <;> (intro hb; (first | replace hb := of_decide_eq_true hb | replace hb := of_decide_eq_false hb | (simp only [Bool.not_eq_true', Bool.not_eq_false', decide_eq_true_eq, decide_eq_false_iff_not] at hb) | skip); try (exfalso; first | omega | exact absurd trivial hb | exact absurd rfl hb | (simp only [beq_self_eq_true, bne_self_eq_false, reduceCtorEq] at hb; done)))))
  all_goals exact p_ret hE rfl rfl ⟨_, rfl, rfl, hS.clean⟩
def counts (win now : Int) (l : List Int) : Int := (l.filter fun x => !tooOld win now x).length
theorem tab_win {g gt b : Nat} {kp : Kp} {w0 w : World} {L L' : List Asn} (h : Sep w0 w L) (hp : Pull (blk g [.pointer (some ⟨gt, 0, none⟩), .int .i64 kp.room, .int .i64 kp.life, .int .i64 kp.moves, .int .i64 kp.win, .map (some b)] 65) L L' := by repeat (first | exact Pull.here | apply Pull.there)) : At w ⟨g, 4, none⟩ [.int .i64 kp.win] := At.head (At.tail (At.tail (At.tail (At.tail (blk_At h hp)))))
theorem counted_s (g gt b : Nat) (F : Int → List Int) (n : Nat) (kp : Kp) (k now : Int) (u0 w0 : World) (L : List Asn) (hS0 : Sep u0 w0 (blk g [.pointer (some ⟨gt, 0, none⟩), .int .i64 kp.room, .int .i64 kp.life, .int .i64 kp.moves, .int .i64 kp.win, .map (some b)] 65 :: Mp b F n :: L)) (hk : 0 ≤ k ∧ k < 18446744073709551616) (hn : 0 ≤ now ∧ now ≤ 1099511627776) (hF : ∀ x ∈ F k, 0 ≤ x ∧ x ≤ 1099511627776) (hl : (F k).length ≤ 1000000) :
    Calls Try.prog 30 #[.pointer (some ⟨g, 0, none⟩), .int .u64 k, .int .i64 now] w0 fun e w' => ∃ r, e = .returned r ∧ r = .int .i64 (counts kp.win now (F k)) ∧ Sep u0 w' (blk g [.pointer (some ⟨gt, 0, none⟩), .int .i64 kp.room, .int .i64 kp.life, .int .i64 kp.moves, .int .i64 kp.win, .map (some b)] 65 :: Mp b F n :: L) := by
  refine enter (args := [.pointer (some ⟨g, 0, none⟩), .int .u64 k, .int .i64 now]) 19 Try.func30 rfl rfl rfl ?_
  intro a hE _
  obtain ⟨D, hD, hS⟩ := Mp.out hS0
  clear hS0
  obtain ⟨m, hm⟩ : ∃ m, slot D k = m := ⟨_, rfl⟩
  have hls := look_slot D k
  have hFk := hD k
  rw [hm] at hls hFk
  rw [hFk] at hF hl ⊢
  have hwf : (Lit.int .u64 k).wf = true := u64_wf hk.1 hk.2
  obtain ⟨D2, _, hS2⟩ := slot_out (k := k) hS
  rw [hm] at hS2
  obtain ⟨hc1, hc2, _⟩ := hS2.drop.row_cap (A := m.A) (n := m.l.length) (c := m.c)
  clear hS2
  obtain ⟨g0, hg0⟩ : ∃ g0, g0 = g := ⟨_, rfl⟩
  rw [← hg0] at hE hS ⊢
  clear hg0
  revert hE
  revert hS
  generalize w0 = w
  intro hS hE
  have hRd : ∀ (w : World) (L' : List Asn), Sep u0 w (stars (D.map mvRow) :: L') → Rd w m.A (m.l.flatMap ic) := fun w L' h => by
    obtain ⟨D3, _, h3⟩ := slot_out (k := k) h
    rw [hm] at h3
    exact Rd.row (A := m.A) (n := m.l.length) (c := m.c) (xs := m.l.flatMap ic) h3
  repeat' (first | refine wl_nil ?_ | refine then_n ?_ | refine c_block ?_ | refine c_skip ?_ | refine c_exit ?_ | refine c_ret ?_ | refine then_r ?_ | refine then_e ?_ | refine inb_n ?_ | refine inb_r ?_ | refine inb_e ?_ | refine inb_o rfl ?_ | refine c_cond_t hE rfl ?_ | refine c_cond_f hE rfl ?_ | refine c_rnd ?_ | (refine c_regI 0 ?_; all_goals (refine wl hE rfl ?_; (first | refine qbx hE hS ?_); clear hE hS; clear a; intro g a w hE hS); all_goals (refine wl hE rfl ?_; (first | refine qbx hE hS ?_); clear hE hS; clear a; intro g a w hE hS); all_goals (refine wl hE rfl ?_; refine qa hE ?_; clear hE a; intro a hE)) | (refine c_regI 1 ?_; all_goals (refine wl hE rfl ?_; (first | refine ql hE hS ?_ | refine qL hE hS ?_ | refine qlr hE hS ?_); clear hE a; intro a hE); all_goals (refine wl hE rfl ?_; (first | refine qn hE ?_ | refine qnf hE ?_); clear hE a; intro a hE); all_goals (refine wl hE rfl ?_; (first | refine qf hE ?_ | refine qFF hE ?_ | refine qF hE ?_); clear hE a; intro a hE); all_goals (refine wl hE rfl ?_; (first | refine ql hE hS ?_ | refine qL hE hS ?_ | refine qlr hE hS ?_); clear hE a; intro a hE); all_goals (refine wl hE rfl ?_; refine qm hE ?_; clear hE a; intro a hE); all_goals (refine wl hE rfl ?_; fail); all_goals (refine wl hE rfl ?_; fail); all_goals (refine wl hE rfl ?_; fail); all_goals (refine wl hE rfl ?_; fail); all_goals (refine wl hE rfl ?_; refine qa hE ?_; clear hE a; intro a hE)) | (refine c_regI 2 ?_; all_goals (refine wl hE rfl ?_; refine qm hE ?_; clear hE a; intro a hE); all_goals (refine wl hE rfl ?_; (first | refine qn1 hE ?_ | refine qns hE ?_); clear hE a; intro a hE); all_goals (refine wl hE rfl ?_; refine qa hE ?_; clear hE a; intro a hE)) | refine c_seq ?_ | ((refine c_cond hE rfl ?_ ?_) <;> (intro hb; (first | replace hb := of_decide_eq_true hb | replace hb := of_decide_eq_false hb | (simp only [Bool.not_eq_true', Bool.not_eq_false', decide_eq_true_eq, decide_eq_false_iff_not] at hb) | skip); try (exfalso; first | omega | exact absurd trivial hb | exact absurd rfl hb | (simp only [beq_self_eq_true, bne_self_eq_false, reduceCtorEq] at hb; done)))))
  obtain ⟨b3, b5, hS2, hE2⟩ : ∃ b3 b5, Sep u0 w (blk b5 [.int .i64 now] 3 :: blk b3 [.pointer (some ⟨g0, 0, none⟩)] 24 :: blk g0 [.pointer (some ⟨gt, 0, none⟩), .int .i64 kp.room, .int .i64 kp.life, .int .i64 kp.moves, .int .i64 kp.win, .map (some b)] 65 :: mpA Try.prog 39 .u64 b n (lookM D) :: stars (D.map mvRow) :: L) ∧ Env a 19 [(1, .int .u64 k), (3, .pointer (some ⟨b3, 0, none⟩)), (5, .pointer (some ⟨b5, 0, none⟩))] := ⟨_, _, hS.fit, hE.cut ⟨rfl, rfl, rfl, trivial⟩⟩
  clear hS hE
  have hS := hS2
  have hE := hE2
  clear hS2 hE2
  repeat' (first | refine wl_nil ?_ | refine then_n ?_ | refine c_block ?_ | refine c_skip ?_ | refine c_exit ?_ | refine c_ret ?_ | refine then_r ?_ | refine then_e ?_ | refine inb_n ?_ | refine inb_r ?_ | refine inb_e ?_ | refine inb_o rfl ?_ | refine c_cond_t hE rfl ?_ | refine c_cond_f hE rfl ?_ | refine c_rnd ?_ | (refine c_regI 0 ?_; all_goals (refine wl hE rfl ?_; (first | refine qbx hE hS ?_); clear hE hS; clear a; intro g a w hE hS); all_goals (refine wl hE rfl ?_; (first | refine qbx hE hS ?_); clear hE hS; clear a; intro g a w hE hS); all_goals (refine wl hE rfl ?_; refine qa hE ?_; clear hE a; intro a hE)) | (refine c_regI 1 ?_; all_goals (refine wl hE rfl ?_; (first | refine ql hE hS ?_ | refine qL hE hS ?_ | refine qlr hE hS ?_); clear hE a; intro a hE); all_goals (refine wl hE rfl ?_; (first | refine qn hE ?_ | refine qnf hE ?_); clear hE a; intro a hE); all_goals (refine wl hE rfl ?_; (first | refine qf hE ?_ | refine qFF hE ?_ | refine qF hE ?_); clear hE a; intro a hE); all_goals (refine wl hE rfl ?_; (first | refine ql hE hS ?_ | refine qL hE hS ?_ | refine qlr hE hS ?_); clear hE a; intro a hE); all_goals (refine wl hE rfl ?_; refine qm hE ?_; clear hE a; intro a hE); all_goals (refine wl hE rfl ?_; refine qlk hE hS hwf hls ?_; clear hE; clear a; intro a hE); all_goals (refine wl hE rfl ?_; first | ((refine is_call 45 rfl ?_; refine qc hE (cloneI_s m.A m.c m.l _ (hRd _ _ hS.fit) (by omega) hc1) ?_; clear hE; clear a; rintro _ a w ⟨A2, c2, rfl, hS1⟩ hE; replace hS := hS.then hS1; clear hS1)) | ((refine qc hE (deleteI_s A2 c2 m.l 46 [.pointer (some ⟨b5, 0, none⟩), .pointer (some ⟨b3, 0, none⟩)] (tooOld kp.win now) u0 _ (blk b5 [.int .i64 now] 3 :: blk b3 [.pointer (some ⟨g0, 0, none⟩)] 24 :: blk g0 [.pointer (some ⟨gt, 0, none⟩), .int .i64 kp.room, .int .i64 kp.life, .int .i64 kp.moves, .int .i64 kp.win, .map (some b)] 65 :: mpA Try.prog 39 .u64 b n (lookM D) :: stars (D.map mvRow) :: L) hS.fit (by omega) (fun x hx w h => counted1_s b5 b3 g0 kp.win now x w (blk_At h) (blk_At h) (tab_win h) hn (hF x hx))) ?_; clear hE hS; clear a; rintro _ a w ⟨m2, hm2, rfl, hS⟩ hE))); all_goals (refine wl hE rfl ?_; refine qmf2 hE ?_; clear hE; clear a; intro a hE); all_goals (refine wl hE rfl ?_; refine qc hE (deleteI_s A2 c2 m.l 46 [.pointer (some ⟨b5, 0, none⟩), .pointer (some ⟨b3, 0, none⟩)] (tooOld kp.win now) u0 _ (blk b5 [.int .i64 now] 3 :: blk b3 [.pointer (some ⟨g0, 0, none⟩)] 24 :: blk g0 [.pointer (some ⟨gt, 0, none⟩), .int .i64 kp.room, .int .i64 kp.life, .int .i64 kp.moves, .int .i64 kp.win, .map (some b)] 65 :: mpA Try.prog 39 .u64 b n (lookM D) :: stars (D.map mvRow) :: L) hS.fit (by omega) (fun x hx w h => counted1_s b5 b3 g0 kp.win now x w (blk_At h) (blk_At h) (tab_win h) hn (hF x hx))) ?_; clear hE hS; clear a; rintro _ a w ⟨m2, hm2, rfl, hS⟩ hE); all_goals (refine wl hE rfl ?_; refine qa hE ?_; clear hE a; intro a hE)) | (refine c_regI 2 ?_; all_goals (refine wl hE rfl ?_; refine qm hE ?_; clear hE a; intro a hE); all_goals (refine wl hE rfl ?_; (first | refine qn1 hE ?_ | refine qns hE ?_); clear hE a; intro a hE); all_goals (refine wl hE rfl ?_; refine qa hE ?_; clear hE a; intro a hE)) | refine c_seq ?_ | ((refine c_cond hE rfl ?_ ?_) <;> (intro hb; (first | replace hb := of_decide_eq_true hb | replace hb := of_decide_eq_false hb | (simp only [Bool.not_eq_true', Bool.not_eq_false', decide_eq_true_eq, decide_eq_false_iff_not] at hb) | skip); try (exfalso; first | omega | exact absurd trivial hb | exact absurd rfl hb | (simp only [beq_self_eq_true, bne_self_eq_false, reduceCtorEq] at hb; done)))))
  refine p_ret hE rfl rfl ⟨_, rfl, ?_, ?_⟩
  · rw [hm2]; rfl
  · have h3 : Sep u0 w (Mp b F n :: blk g0 [.pointer (some ⟨gt, 0, none⟩), .int .i64 kp.room, .int .i64 kp.life, .int .i64 kp.moves, .int .i64 kp.win, .map (some b)] 65 :: L) := Mp.in_ hD hS.fit
    exact h3.fit
def fadd (F : Int → List Int) (k now : Int) : Int → List Int := fun x => if x = k then F k ++ [now] else F x
theorem ic_snoc (M : List Int) (x : Int) : M.flatMap ic ++ ic x = (M ++ [x]).flatMap ic := by simp
theorem put_look {D D2 : List Mv} {k : Int} {v : Mv} (hv : v.k = k) (hD2 : ∀ k', k' ≠ k → D2.find? (fun m => decide (m.k = k')) = D.find? fun m => decide (m.k = k')) : fput (lookM D) k (.slice v.A v.l.length v.c) = lookM (v :: D2) := by
  funext x
  unfold fput lookM
  by_cases hx : x = k
  · rw [if_pos hx, List.find?_cons_of_pos (by simp [hv, hx])]
    rfl
  · rw [if_neg hx, List.find?_cons_of_neg (by simp [hv]; exact fun h => hx h.symm), hD2 x hx]
theorem put_slot {D D2 : List Mv} {k now : Int} {v : Mv} {F : Int → List Int} (hv : v.k = k) (hl : v.l = F k ++ [now]) (hD : ∀ k, F k = (slot D k).l) (hD2 : ∀ k', k' ≠ k → D2.find? (fun m => decide (m.k = k')) = D.find? fun m => decide (m.k = k')) : ∀ x, fadd F k now x = (slot (v :: D2) x).l := by
  intro x
  unfold fadd slot
  by_cases hx : x = k
  · rw [if_pos hx, List.find?_cons_of_pos (by simp [hv, hx])]
    exact hl.symm
  · have h := hD x
    have h2 := hD2 x hx
    rw [if_neg hx, List.find?_cons_of_neg (by simp [hv]; exact fun h => hx h.symm), h]
    unfold slot
    rw [h2]
theorem moved_s (g gt b : Nat) (F : Int → List Int) (n : Nat) (kp : Kp) (k now : Int) (u0 w0 : World) (L : List Asn) (hS0 : Sep u0 w0 (blk g [.pointer (some ⟨gt, 0, none⟩), .int .i64 kp.room, .int .i64 kp.life, .int .i64 kp.moves, .int .i64 kp.win, .map (some b)] 65 :: Mp b F n :: L)) (hk : 0 ≤ k ∧ k < 18446744073709551616) (hl : (F k).length ≤ 1000000) (hn : n ≤ 1000000) :
    Calls Try.prog 32 #[.pointer (some ⟨g, 0, none⟩), .int .u64 k, .int .i64 now] w0 fun e w' => ∃ r, e = .returned r ∧ r = .tuple #[] ∧ Sep u0 w' (blk g [.pointer (some ⟨gt, 0, none⟩), .int .i64 kp.room, .int .i64 kp.life, .int .i64 kp.moves, .int .i64 kp.win, .map (some b)] 65 :: Mp b (fadd F k now) (n + 1) :: L) := by
  refine enter (args := [.pointer (some ⟨g, 0, none⟩), .int .u64 k, .int .i64 now]) 20 Try.func32 rfl rfl rfl ?_
  intro a hE _
  obtain ⟨D, hD, hS⟩ := Mp.out hS0
  clear hS0
  obtain ⟨m, hm⟩ : ∃ m, slot D k = m := ⟨_, rfl⟩
  have hls := look_slot D k
  have hFk := hD k
  rw [hm] at hls hFk
  have hwf : (Lit.int .u64 k).wf = true := u64_wf hk.1 hk.2
  obtain ⟨D2, hD2, hS⟩ := slot_out (k := k) hS
  rw [hm] at hS
  have hS2 : Sep u0 w0 (row 3 1 (.slice m.A m.l.length m.c) m.l.length (m.l.flatMap ic) :: stars (D2.map mvRow) :: mpA Try.prog 39 .u64 b n (lookM D) :: blk g [.pointer (some ⟨gt, 0, none⟩), .int .i64 kp.room, .int .i64 kp.life, .int .i64 kp.moves, .int .i64 kp.win, .map (some b)] 65 :: L) := by
    unfold mvRow at hS
    exact hS.fit
  clear hS
  have hS := hS2
  clear hS2
  have hml : m.l.length ≤ 1000000 := by rw [← hFk]; exact hl
  obtain ⟨hc1, hc2, _⟩ := hS.row_cap (A := m.A) (n := m.l.length) (c := m.c)
  obtain ⟨g0, hg0⟩ : ∃ g0, g0 = g := ⟨_, rfl⟩
  rw [← hg0] at hE hS ⊢
  clear hg0
  revert hE
  revert hS
  generalize w0 = w
  intro hS hE
  repeat' (first | (refine wl hE rfl ?_; first | ((first | refine qm hE ?_ | refine qa hE ?_ | refine qb hE ?_ | refine qFF hE ?_ | refine qf hE ?_ | refine ql hE hS ?_ | refine qn hE ?_ | refine qe hE ?_ | refine qpt hE ?_ | refine qpf hE ?_ | refine qu hE ?_ | refine qn1 hE ?_ | refine qns hE ?_ | refine qL hE hS ?_ | refine qbu hE ?_ | refine qF hE ?_ | refine qnf hE ?_ | refine qmin hE ?_ | refine qmax hE ?_ | refine qssh hE ?_ | refine qix1 hE ?_ | refine qix hE ?_ | refine qia hE ?_ | refine qbA hE ?_ | refine qbE hE ?_ | refine qbN hE ?_ | refine qcv hE ?_ | refine qfd1 hE ?_ | refine qfd hE ?_ | refine qi hE (fun _ => rfl) ?_ | refine qlr hE hS ?_ | refine qb2 hE ?_ | refine qng hE ?_ | refine qpn hE ?_); clear hE a; intro a hE) | ((first | refine qst0 hE hS ?_ | refine qst hE hS ?_); clear hS; intro w hS) | ((first | refine qal hE hS ?_ | refine qbx hE hS ?_ | refine qbs1 hE hS ?_ | refine qbs hE hS ?_ | refine qbs0 hE hS ?_); clear hE hS; clear a; intro g a w hE hS) | ((refine qlk hE hS hwf hls ?_; clear hE; clear a; intro a hE)) | ((refine qap (A := m.A) (c := m.c) (N := m.l.length + 1) (xs := m.l.flatMap ic) (ys := (m.l ++ [now]).flatMap ic) hE hS (Rd.row (n := 1) (xs := ic now) hS) (ic_one [now]) ?_ (hY := ic_snoc m.l now); clear hE hS; clear a; intro A4 c4 a w hE hS)) | ((refine qup hE hS hwf ?_; clear hS; intro w hS))) | refine c_reg ?_ | refine wl_nil ?_ | refine then_n ?_ | refine c_block ?_ | refine c_skip ?_ | refine c_exit ?_ | refine c_ret ?_ | refine then_r ?_ | refine then_e ?_ | refine inb_n ?_ | refine inb_r ?_ | refine inb_e ?_ | refine inb_o rfl ?_ | refine c_cond_t hE rfl ?_ | refine c_cond_f hE rfl ?_ | refine c_rnd ?_ | refine c_seq ?_ | (refine rg_guard 0 ?_; refine rg_start [0] hE hS ?_; clear hS; (try clear w); intro w hS hX; all_goals (first | (refine rg_y 0 hE hX (by exact y_move) ?_ rfl rfl rfl rfl; clear hE a; intro a hE)); all_goals (first | (refine rg_y 1 hE hX (by exact y_nil) ?_ rfl rfl rfl rfl; clear hE a; intro a hE)); all_goals (first | (refine rg_y 2 hE hX (by first | exact y_fieldFF | exact y_field | exact y_fieldF) ?_ rfl rfl rfl rfl; clear hE a; intro a hE)); all_goals (first | (refine rg_y 3 hE hX (by first | exact y_load | exact y_loadA) ?_ rfl rfl rfl rfl; clear hE a; intro a hE)); all_goals (first | (refine rg_y 4 hE hX (by exact y_move) ?_ rfl rfl rfl rfl; clear hE a; intro a hE)); all_goals (first | (refine rg_y 5 hE hX (by exact y_move) ?_ rfl rfl rfl rfl; clear hE a; intro a hE)); all_goals (first | (refine rg_y 6 hE hX (by exact y_nil) ?_ rfl rfl rfl rfl; clear hE a; intro a hE)); all_goals (first | (refine rg_y 7 hE hX (by first | exact y_fieldFF | exact y_field | exact y_fieldF) ?_ rfl rfl rfl rfl; clear hE a; intro a hE)); all_goals (first | (refine rg_y 8 hE hX (by first | exact y_load | exact y_loadA) ?_ rfl rfl rfl rfl; clear hE a; intro a hE)); all_goals (first | (refine rg_y 9 hE hX (by exact y_move) ?_ rfl rfl rfl rfl; clear hE a; intro a hE)); all_goals (first | (refine rg_y 11 hE hX (by exact y_move) ?_ rfl rfl rfl rfl; clear hE a; intro a hE)); all_goals ((refine rg_e2 10 12 (by kernel_rfl) ?_ ?_) <;> first | (intro K hK; refine rg_op (i := 10) hE rfl rfl ?_; (first | ((refine qlk hE hS hwf hls ?_; clear hE; clear a; intro a hE))); refine rg_k hK hS ?_; clear hK hX; clear K; intro hX; all_goals (first | (refine rg_e 12 hE rfl rfl (by kernel_rfl) ?_; intro K hK; (first | ((first | refine qbs1 hE hS ?_ | refine qbs hE hS ?_ | refine qbs0 hE hS ?_); clear hE hS; clear a; intro g a w hE hS)); refine rg_k hK hS ?_; clear hK hX; clear K; intro hX)); all_goals (first | (refine rg_e 13 hE rfl rfl (by kernel_rfl) ?_; intro K hK; (first | ((refine qap (A := m.A) (c := m.c) (N := m.l.length + 1) (xs := m.l.flatMap ic) (ys := (m.l ++ [now]).flatMap ic) hE hS (Rd.row (n := 1) (xs := ic now) hS) (ic_one [now]) ?_ (hY := ic_snoc m.l now); clear hE hS; clear a; intro A4 c4 a w hE hS)) | ((first | refine qmin hE ?_ | refine qmax hE ?_); clear hE a; intro a hE)); refine rg_k hK hS ?_; clear hK hX; clear K; intro hX)); all_goals (first | (refine rg_e 14 hE rfl rfl (by kernel_rfl) ?_; intro K hK; (first | ((refine qup hE hS hwf ?_; clear hS; intro w hS))); refine rg_k hK hS ?_; clear hK hX; clear K; intro hX)); all_goals (refine rg_done ?_ (by kernel_rfl); (try clear hX))) | (intro K hK; refine rg_op (i := 12) hE rfl rfl ?_; (first | ((first | refine qbs1 hE hS ?_ | refine qbs hE hS ?_ | refine qbs0 hE hS ?_); clear hE hS; clear a; intro g a w hE hS)); refine rg_k hK hS ?_; clear hK hX; clear K; intro hX; all_goals (first | (refine rg_e 10 hE rfl rfl (by kernel_rfl) ?_; intro K hK; (first | ((refine qlk hE hS hwf hls ?_; clear hE; clear a; intro a hE))); refine rg_k hK hS ?_; clear hK hX; clear K; intro hX)); all_goals (first | (refine rg_e 13 hE rfl rfl (by kernel_rfl) ?_; intro K hK; (first | ((refine qap (A := m.A) (c := m.c) (N := m.l.length + 1) (xs := m.l.flatMap ic) (ys := (m.l ++ [now]).flatMap ic) hE hS (Rd.row (n := 1) (xs := ic now) hS) (ic_one [now]) ?_ (hY := ic_snoc m.l now); clear hE hS; clear a; intro A4 c4 a w hE hS)) | ((first | refine qmin hE ?_ | refine qmax hE ?_); clear hE a; intro a hE)); refine rg_k hK hS ?_; clear hK hX; clear K; intro hX)); all_goals (first | (refine rg_e 14 hE rfl rfl (by kernel_rfl) ?_; intro K hK; (first | ((refine qup hE hS hwf ?_; clear hS; intro w hS))); refine rg_k hK hS ?_; clear hK hX; clear K; intro hX)); all_goals (refine rg_done ?_ (by kernel_rfl); (try clear hX))))) | (refine wl_skip hE rfl rfl rfl ?_; clear hE a; intro a hE) | ((refine wl_splitg hE rfl rfl ?_ ?_) <;> (clear hE; intro hb hE; (first | replace hb := of_decide_eq_true hb | replace hb := of_decide_eq_false hb | (simp only [Bool.not_eq_true', Bool.not_eq_false', decide_eq_true_eq, decide_eq_false_iff_not] at hb) | skip); try (exfalso; first | omega | exact absurd trivial hb | exact absurd rfl hb | (simp only [beq_self_eq_true, bne_self_eq_false, reduceCtorEq] at hb; done)))) | ((refine c_cond hE rfl ?_ ?_) <;> (intro hb; (first | replace hb := of_decide_eq_true hb | replace hb := of_decide_eq_false hb | (simp only [Bool.not_eq_true', Bool.not_eq_false', decide_eq_true_eq, decide_eq_false_iff_not] at hb) | skip); try (exfalso; first | omega | exact absurd trivial hb | exact absurd rfl hb | (simp only [beq_self_eq_true, bne_self_eq_false, reduceCtorEq] at hb; done)))))
  all_goals
    have e2 : (m.l ++ [now]).length = m.l.length + 1 := by simp
    rw [← e2] at hS
    have hS3 : Sep u0 w (stars (D2.map mvRow) :: mvRow ⟨k, m.l ++ [now], A4, c4⟩ :: mpA Try.prog 39 .u64 b (n + 1) (fput (lookM D) k (.slice A4 (m.l ++ [now]).length c4)) :: blk g0 [.pointer (some ⟨gt, 0, none⟩), .int .i64 kp.room, .int .i64 kp.life, .int .i64 kp.moves, .int .i64 kp.win, .map (some b)] 65 :: L) := by
      show Sep u0 w (stars (D2.map mvRow) :: row 3 1 (.slice A4 (m.l ++ [now]).length c4) (m.l ++ [now]).length ((m.l ++ [now]).flatMap ic) :: mpA Try.prog 39 .u64 b (n + 1) (fput (lookM D) k (.slice A4 (m.l ++ [now]).length c4)) :: blk g0 [.pointer (some ⟨gt, 0, none⟩), .int .i64 kp.room, .int .i64 kp.life, .int .i64 kp.moves, .int .i64 kp.win, .map (some b)] 65 :: L)
      exact hS.fit
    have hS4 := slot_in hS3
    have e3 := put_look (D := D) (D2 := D2) (v := ⟨k, m.l ++ [now], A4, c4⟩) rfl hD2
    rw [e3] at hS4
    have hS5 : Sep u0 w (Mp b (fadd F k now) (n + 1) :: blk g0 [.pointer (some ⟨gt, 0, none⟩), .int .i64 kp.room, .int .i64 kp.life, .int .i64 kp.moves, .int .i64 kp.win, .map (some b)] 65 :: L) := Mp.in_ (put_slot (D := D) (v := ⟨k, m.l ++ [now], A4, c4⟩) rfl (by rw [hFk]) hD hD2) hS4.fit
    exact p_end hE rfl ⟨_, rfl, rfl, hS5.fit⟩
end Go.Proofs.Ytbhddlllpgfgiaa

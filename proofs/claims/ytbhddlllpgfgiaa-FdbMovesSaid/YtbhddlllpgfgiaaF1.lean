/- DERIVED. Layer 11: slices of ints: Clone, IndexFunc, DeleteFunc. No condition. -/
import Derived.Test.YtbhddlllpgfgiaaF0
namespace Go.Proofs.Ytbhddlllpgfgiaa
open Go.RowKit Go.Sx Go.Proofs.YtbhddlllpgfgiaaTy
set_option linter.unusedVariables false
set_option linter.unusedSimpArgs false
set_option maxRecDepth 100000
attribute [local irreducible] Oper.wp Code.wp wpList wpAnyH Calls bodyPost Exit.then Exit.inBlock Code.rounds
set_option maxHeartbeats 1000000
def ic (x : Int) : List Value := [.int .i64 x]
theorem ilen (x : Int) : (ic x).length = 1 := rfl
theorem ic_one (l : List Int) : ∀ u ∈ l.flatMap ic, u.oneCell' = true := fun u hu => by
  obtain ⟨x, _, h⟩ := List.mem_flatMap.1 hu
  simp [ic] at h
  subst h
  rfl
theorem cloneI_s (A : Option Addr) (c : Nat) (l : List Int) (w0 : World) (hR : Rd w0 A (l.flatMap ic)) (hl : l.length ≤ 1073741824) (hc : l.length ≤ c) : Calls Try.prog 45 #[.slice A l.length c] w0 fun e w' => ∃ r, e = .returned r ∧ ∃ A' c', r = .slice A' l.length c' ∧ Sep w0 w' [row 3 1 (.slice A' l.length c') l.length (l.flatMap ic)] := by
  have hone := ic_one l
  refine enter (args := [.slice A l.length c]) 8 Try.func45 rfl rfl rfl ?_
  intro a hE hS
  cases A with
  | none =>
    have h0 : l = [] := by
      cases l with
      | nil => rfl
      | cons x l => exact absurd (hR.some (by simp [ic])) (by simp [adr])
    subst h0
    repeat' (first | refine wl_nil ?_ | refine then_n ?_ | refine c_block ?_ | refine c_skip ?_ | refine c_exit ?_ | refine c_ret ?_ | refine then_r ?_ | refine then_e ?_ | refine inb_n ?_ | refine inb_r ?_ | refine inb_e ?_ | refine inb_o rfl ?_ | refine c_cond_t hE rfl ?_ | refine c_cond_f hE rfl ?_ | refine c_rnd ?_ | (refine c_regI 0 ?_; all_goals (refine wl hE rfl ?_; refine qa hE ?_; clear hE a; intro a hE)) | (refine c_regI 1 ?_; all_goals (refine wl hE rfl ?_; refine qm hE ?_; clear hE a; intro a hE); all_goals (refine wl hE rfl ?_; (first | refine qnil hE ?_ | refine qb hE ?_ | refine qb2 hE ?_ | refine qbE hE ?_ | refine qbN hE ?_ | refine qpn hE ?_); clear hE a; intro a hE)) | (refine c_regI 2 ?_; all_goals (refine wl hE rfl ?_; refine qa hE ?_; clear hE a; intro a hE)) | (refine c_regI 3 ?_; all_goals (refine wl hE rfl ?_; (first | refine qbs1 hE hS ?_ | refine qbs hE hS ?_ | refine qbs0 hE hS ?_); clear hE hS; clear a; intro g a w hE hS); all_goals (refine wl hE rfl ?_; refine qm hE ?_; clear hE a; intro a hE); all_goals (refine wl hE rfl ?_; (first | refine qmin hE ?_ | refine qmax hE ?_); clear hE a; intro a hE); all_goals (refine wl hE rfl ?_; refine qa hE ?_; clear hE a; intro a hE)) | refine c_seq ?_ | ((refine c_cond hE rfl ?_ ?_) <;> (intro hb; (first | replace hb := of_decide_eq_true hb | replace hb := of_decide_eq_false hb | (simp only [Bool.not_eq_true', Bool.not_eq_false', decide_eq_true_eq, decide_eq_false_iff_not] at hb) | skip); try (exfalso; first | omega | exact absurd trivial hb | exact absurd rfl hb | (simp only [beq_self_eq_true, bne_self_eq_false, reduceCtorEq] at hb; done)))))
    exact p_ret hE rfl rfl ⟨_, rfl, none, 0, rfl, hS.nil_row⟩
  | some b =>
    repeat' (first | refine wl_nil ?_ | refine then_n ?_ | refine c_block ?_ | refine c_skip ?_ | refine c_exit ?_ | refine c_ret ?_ | refine then_r ?_ | refine then_e ?_ | refine inb_n ?_ | refine inb_r ?_ | refine inb_e ?_ | refine inb_o rfl ?_ | refine c_cond_t hE rfl ?_ | refine c_cond_f hE rfl ?_ | refine c_rnd ?_ | (refine c_regI 0 ?_; all_goals (refine wl hE rfl ?_; refine qa hE ?_; clear hE a; intro a hE)) | (refine c_regI 1 ?_; all_goals (refine wl hE rfl ?_; refine qm hE ?_; clear hE a; intro a hE); all_goals (refine wl hE rfl ?_; (first | refine qnil hE ?_ | refine qb hE ?_ | refine qb2 hE ?_ | refine qbE hE ?_ | refine qbN hE ?_ | refine qpn hE ?_); clear hE a; intro a hE)) | (refine c_regI 2 ?_; all_goals (refine wl hE rfl ?_; refine qa hE ?_; clear hE a; intro a hE)) | (refine c_regI 3 ?_; all_goals (refine wl hE rfl ?_; (first | refine qbs1 hE hS ?_ | refine qbs hE hS ?_ | refine qbs0 hE hS ?_); clear hE hS; clear a; intro g a w hE hS); all_goals (refine wl hE rfl ?_; refine qm hE ?_; clear hE a; intro a hE); all_goals (refine wl hE rfl ?_; first | ((refine qap (N := l.length) (ys := l.flatMap ic) hE hS (hR.move hS) hone ?_ (hl := by rw [flat_len ilen]); clear hE hS; clear a; intro A2 c2 a w hE hS)) | ((first | refine qmin hE ?_ | refine qmax hE ?_); clear hE a; intro a hE)); all_goals (refine wl hE rfl ?_; refine qa hE ?_; clear hE a; intro a hE)) | refine c_seq ?_ | ((refine c_cond hE rfl ?_ ?_) <;> (intro hb; (first | replace hb := of_decide_eq_true hb | replace hb := of_decide_eq_false hb | (simp only [Bool.not_eq_true', Bool.not_eq_false', decide_eq_true_eq, decide_eq_false_iff_not] at hb) | skip); try (exfalso; first | omega | exact absurd trivial hb | exact absurd rfl hb | (simp only [beq_self_eq_true, bne_self_eq_false, reduceCtorEq] at hb; done)))))
    exact p_ret hE rfl rfl ⟨_, rfl, A2, c2, rfl, hS.only⟩
/-- A function value that tells of each entry of some what p tells. -/
def TellsI (f : FuncId) (cs : List Value) (l : List Int) (p : Int → Bool) (w0 : World) : Prop := ∀ x ∈ l, ∀ w L, Sep w0 w L → Calls Try.prog f (.int .i64 x :: cs).toArray w fun e w' => ∃ r, e = .returned r ∧ r = .bool (p x) ∧ Sep w w' []
theorem TellsI.move {f : FuncId} {cs : List Value} {l : List Int} {p : Int → Bool} {w0 w : World} {L : List Asn} (h : TellsI f cs l p w0) (hS : Sep w0 w L) : TellsI f cs l p w := fun x hx w' L' h' => h x hx w' [] (hS.clean.same ⟨h'.below.os, h'.below.tape, h'.below.output, h'.below.size, h'.below.block⟩)
def FoundAtI (l : List Int) (p : Int → Bool) (k : Int) : Prop := (∃ i : Nat, k = i ∧ i < l.length ∧ (∀ y ∈ l.take i, p y = false) ∧ p (l.getD i 0) = true) ∨ (k = -1 ∧ ∀ y ∈ l, p y = false)
theorem FoundAtI.rng {l : List Int} {p : Int → Bool} {k : Int} (h : FoundAtI l p k) : k = -1 ∨ (0 ≤ k ∧ k < l.length) := by
  rcases h with ⟨i, h1, h2, _⟩ | ⟨h, _⟩ <;> omega
theorem getD_memI {l : List Int} {i : Nat} (h : i < l.length) : l.getD i 0 ∈ l := by simp [h]
theorem take_noI {l : List Int} {p : Int → Bool} {i : Int} (h0 : 0 ≤ i) (h1 : i < (l.length : Int)) (hx : ∀ y ∈ l.take i.toNat, p y = false) (hne : p (l.getD i.toNat 0) = false) : ∀ y ∈ l.take (i + 1).toNat, p y = false := by
  intro y hy
  have hlt : i.toNat < l.length := by omega
  rw [show (i + 1).toNat = i.toNat + 1 by omega, List.take_succ_eq_append_getElem hlt] at hy
  rcases List.mem_append.1 hy with h | h
  · exact hx y h
  · simp at h; subst h; simpa [hlt] using hne
theorem indexI_s (A : Option Addr) (c : Nat) (l : List Int) (f : FuncId) [FnTy Try.prog f] (cs : List Value) (p : Int → Bool) (w0 : World) (hR : Rd w0 A (l.flatMap ic)) (hl : l.length ≤ 9223372036854775806) (hp : TellsI f cs l p w0) :
    Calls Try.prog 58 #[.slice A l.length c, .func (.func f) #[] cs.toArray] w0 fun e w' => ∃ r, e = .returned r ∧ (∃ k : Int, r = .int .i64 k ∧ FoundAtI l p k) ∧ Sep w0 w' [] := by
  have hA : (0 : Int) < l.length → A = some (adr A) := fun h => hR.some (by rw [flat_len ilen]; omega)
  have hT := hR.at_
  refine enter (args := [.slice A l.length c, .func (.func f) #[] cs.toArray]) 19 Try.func58 rfl rfl rfl ?_
  intro a hE hS
  repeat' (first | refine wl_nil ?_ | refine then_n ?_ | refine c_block ?_ | refine c_skip ?_ | refine c_exit ?_ | refine c_ret ?_ | refine then_r ?_ | refine then_e ?_ | refine inb_n ?_ | refine inb_r ?_ | refine inb_e ?_ | refine inb_o rfl ?_ | refine c_cond_t hE rfl ?_ | refine c_cond_f hE rfl ?_ | refine c_rnd ?_ | (refine c_regI 0 ?_; all_goals (refine wl hE rfl ?_; refine qa hE ?_; clear hE a; intro a hE)) | (refine c_regI 1 ?_; all_goals (refine wl hE rfl ?_; refine qm hE ?_; clear hE a; intro a hE); all_goals (refine wl hE rfl ?_; (first | refine qn1 hE ?_ | refine qns hE ?_); clear hE a; intro a hE); all_goals (refine wl hE rfl ?_; refine qm hE ?_; clear hE a; intro a hE)) | (refine c_regI 2 ?_; all_goals (refine wl hE rfl ?_; (first | refine qb hE ?_ | refine qb2 hE ?_ | refine qbE hE ?_ | refine qbN hE ?_ | refine qpn hE ?_); clear hE a; intro a hE)) | (refine c_regI 3 ?_; all_goals (refine wl hE rfl ?_; refine qm hE ?_; clear hE a; intro a hE); all_goals (refine wl hE rfl ?_; refine qa hE ?_; clear hE a; intro a hE)) | (refine c_regI 4 ?_; all_goals (refine wl hE rfl ?_; refine qm hE ?_; clear hE a; intro a hE); all_goals (refine wl hE rfl ?_; refine qm hE ?_; clear hE a; intro a hE); all_goals (refine wl hE rfl ?_; refine qm hE ?_; clear hE a; intro a hE); all_goals (refine wl hE rfl ?_; (first | refine qi hE (fun _ => rfl) ?_ | refine qia hE ?_); clear hE a; intro a hE); all_goals (refine wl hE rfl ?_; (first | refine ql hE hS ?_ | refine qL hE hS ?_ | refine qlr hE hS ?_); clear hE a; intro a hE); all_goals (refine wl hE rfl ?_; (first | refine qmin hE ?_ | refine qmax hE ?_); clear hE a; intro a hE)) | (refine c_regI 5 ?_; all_goals (refine wl hE rfl ?_; refine qm hE ?_; clear hE a; intro a hE); all_goals (refine wl hE rfl ?_; refine qa hE ?_; clear hE a; intro a hE)) | (refine c_regI 6 ?_; all_goals (refine wl hE rfl ?_; (first | refine qb hE ?_ | refine qb2 hE ?_ | refine qbE hE ?_ | refine qbN hE ?_ | refine qpn hE ?_); clear hE a; intro a hE); all_goals (refine wl hE rfl ?_; refine qm hE ?_; clear hE a; intro a hE)) | (refine c_regI 7 ?_; all_goals (refine wl hE rfl ?_; refine qa hE ?_; clear hE a; intro a hE)) | refine c_seq ?_ | ((refine c_cond hE rfl ?_ ?_) <;> (intro hb; (first | replace hb := of_decide_eq_true hb | replace hb := of_decide_eq_false hb | (simp only [Bool.not_eq_true', Bool.not_eq_false', decide_eq_true_eq, decide_eq_false_iff_not] at hb) | skip); try (exfalso; first | omega | exact absurd trivial hb | exact absurd rfl hb | (simp only [beq_self_eq_true, bne_self_eq_false, reduceCtorEq] at hb; done)))))
  refine c_loopN (fun m a w => ∃ i : Int, 0 ≤ i ∧ i ≤ l.length ∧ m = (l.length - i).toNat ∧ (∀ y ∈ l.take i.toNat, p y = false) ∧ Env a 19 [(0, .slice A l.length c), (1, .func (.func f) #[] cs.toArray), (7, .int .i64 l.length), (8, .int .i64 i)] ∧ Sep w0 w []) _ ⟨0, by omega, by omega, rfl, by simp, hE.cut ⟨rfl, rfl, rfl, rfl, trivial⟩, hS⟩ ?_
  clear hE hS a
  rintro m a w ⟨i, h0, h1, rfl, hx, hE, hS⟩
  obtain ⟨x, hxd⟩ : ∃ x, l.getD i.toNat 0 = x := ⟨_, rfl⟩
  have hxm : ∀ _ : Unit, i < l.length → x ∈ l := fun _ h => hxd ▸ getD_memI (by omega)
  repeat' (first | refine wl_nil ?_ | refine then_n ?_ | refine c_block ?_ | refine c_skip ?_ | refine c_exit ?_ | refine c_ret ?_ | refine then_r ?_ | refine then_e ?_ | refine inb_n ?_ | refine inb_r ?_ | refine inb_e ?_ | refine inb_o rfl ?_ | refine c_cond_t hE rfl ?_ | refine c_cond_f hE rfl ?_ | refine c_rnd ?_ | (refine c_regI 0 ?_; all_goals (refine wl hE rfl ?_; refine qa hE ?_; clear hE a; intro a hE)) | (refine c_regI 1 ?_; all_goals (refine wl hE rfl ?_; refine qm hE ?_; clear hE a; intro a hE); all_goals (refine wl hE rfl ?_; (first | refine qn1 hE ?_ | refine qns hE ?_); clear hE a; intro a hE); all_goals (refine wl hE rfl ?_; refine qm hE ?_; clear hE a; intro a hE)) | (refine c_regI 2 ?_; all_goals (refine wl hE rfl ?_; (first | refine qb hE ?_ | refine qb2 hE ?_ | refine qbE hE ?_ | refine qbN hE ?_ | refine qpn hE ?_); clear hE a; intro a hE)) | (refine c_regI 3 ?_; all_goals (refine wl hE rfl ?_; refine qm hE ?_; clear hE a; intro a hE); all_goals (refine wl hE rfl ?_; refine qa hE ?_; clear hE a; intro a hE)) | (refine c_regI 4 ?_; all_goals (refine wl hE rfl ?_; refine qm hE ?_; clear hE a; intro a hE); all_goals (refine wl hE rfl ?_; refine qm hE ?_; clear hE a; intro a hE); all_goals (refine wl hE rfl ?_; refine qm hE ?_; clear hE a; intro a hE); all_goals (refine wl hE rfl ?_; (first | refine qi hE hA ?_ | refine qi hE (fun _ => rfl) ?_ | refine qia hE ?_); clear hE a; intro a hE); all_goals (refine wl hE rfl ?_; (first | refine q0F 0 (i := i) (df := 0) hE hS ilen hT (by rw [hxd]; rfl) ?_ | refine ql hE hS ?_ | refine qL hE hS ?_ | refine qlr hE hS ?_); clear hE a; intro a hE); all_goals (refine wl hE rfl ?_; first | ((refine qcF (vs := [.int .i64 x]) hE (hp x (hxm () (by omega)) _ _ hS) ?_; clear hE; clear a; rintro _ a w ⟨rfl, hS1⟩ hE; replace hS := hS.then hS1; clear hS1)) | ((first | refine qmin hE ?_ | refine qmax hE ?_); clear hE a; intro a hE))) | (refine c_regI 5 ?_; all_goals (refine wl hE rfl ?_; refine qm hE ?_; clear hE a; intro a hE); all_goals (refine wl hE rfl ?_; refine qa hE ?_; clear hE a; intro a hE)) | (refine c_regI 6 ?_; all_goals (refine wl hE rfl ?_; (first | refine qb hE ?_ | refine qb2 hE ?_ | refine qbE hE ?_ | refine qbN hE ?_ | refine qpn hE ?_); clear hE a; intro a hE); all_goals (refine wl hE rfl ?_; refine qm hE ?_; clear hE a; intro a hE)) | (refine c_regI 7 ?_; all_goals (refine wl hE rfl ?_; refine qa hE ?_; clear hE a; intro a hE)) | refine c_seq ?_ | ((refine c_cond hE rfl ?_ ?_) <;> (intro hb; (first | replace hb := of_decide_eq_true hb | replace hb := of_decide_eq_false hb | (simp only [Bool.not_eq_true', Bool.not_eq_false', decide_eq_true_eq, decide_eq_false_iff_not] at hb) | skip); try (exfalso; first | omega | exact absurd trivial hb | exact absurd rfl hb | (simp only [beq_self_eq_true, bne_self_eq_false, reduceCtorEq] at hb; done)))))
  · exact p_ret hE rfl rfl ⟨_, rfl, ⟨_, rfl, .inl ⟨i.toNat, by omega, by omega, hx, by rw [hxd]; exact hb⟩⟩, hS⟩
  · exact ⟨_, by omega, i + 1, by omega, by omega, rfl, take_noI h0 (by assumption) hx (by rw [hxd]; exact hb), hE.cut ⟨rfl, rfl, rfl, rfl, trivial⟩, hS⟩
  · exact p_ret hE rfl rfl ⟨_, rfl, ⟨_, rfl, .inr ⟨rfl, by rwa [List.take_of_length_le (by omega)] at hx⟩⟩, hS⟩
/-- The walk's list: what is kept of those seen so far, ahead; those not yet seen, as they were. -/
structure KeptI (l : List Int) (p : Int → Bool) (l2 : List Int) (i j : Int) : Prop where
  h0 : 0 ≤ i
  h1 : i < j
  h2 : j ≤ l.length
  hl : l2.length = l.length
  ht : l2.take i.toNat = (l.take j.toNat).filter fun x => !p x
  hd : l2.drop j.toNat = l.drop j.toNat
theorem KeptI.start {l : List Int} {p : Int → Bool} {i : Nat} (h : i < l.length) (hn : ∀ y ∈ l.take i, p y = false) (hp : p (l.getD i 0) = true) : KeptI l p l i (i + 1) := by
  refine ⟨by omega, by omega, by omega, rfl, ?_, rfl⟩
  have e : l.getD i 0 = l[i] := by simp [h]
  rw [e] at hp
  rw [show ((i : Int) + 1).toNat = i + 1 by omega, List.take_succ_eq_append_getElem h, List.filter_append, show ((i : Int)).toNat = i by omega]
  have h1 : (l.take i).filter (fun x => !p x) = l.take i := List.filter_eq_self.2 fun y hy => by rw [hn y hy]; rfl
  rw [h1]
  simp [hp]
theorem KeptI.get {l l2 : List Int} {p : Int → Bool} {i j : Int} (h : KeptI l p l2 i j) (hj : j < l.length) : l2.getD j.toNat 0 = l.getD j.toNat 0 := by
  have e := congrArg (fun q => q[0]?) h.hd
  simp only [List.getElem?_drop, Nat.add_zero] at e
  simp [e]
theorem KeptI.skip {l l2 : List Int} {p : Int → Bool} {i j : Int} (h : KeptI l p l2 i j) (hj : j < l.length) (hp : p (l.getD j.toNat 0) = true) : KeptI l p l2 i (j + 1) := by
  have h0 := h.h0
  have h1 := h.h1
  have hjl : j.toNat < l.length := by omega
  have hjl2 : j.toNat < l2.length := by rw [h.hl]; exact hjl
  refine ⟨h0, by omega, by omega, h.hl, ?_, ?_⟩
  · have e : l.getD j.toNat 0 = l[j.toNat] := by simp [hjl]
    rw [e] at hp
    rw [show (j + 1).toNat = j.toNat + 1 by omega, List.take_succ_eq_append_getElem hjl, List.filter_append, ← h.ht]
    simp [hp]
  · rw [show (j + 1).toNat = j.toNat + 1 by omega, ← List.drop_drop, ← List.drop_drop, h.hd]
theorem KeptI.keep {l l2 : List Int} {p : Int → Bool} {i j : Int} (h : KeptI l p l2 i j) (hj : j < l.length) (hp : p (l.getD j.toNat 0) = false) : KeptI l p (l2.set i.toNat (l.getD j.toNat 0)) (i + 1) (j + 1) := by
  have h0 := h.h0
  have h1 := h.h1
  have hjl : j.toNat < l.length := by omega
  have hil2 : i.toNat < l2.length := by rw [h.hl]; omega
  have e : l.getD j.toNat 0 = l[j.toNat] := by simp [hjl]
  rw [e] at hp ⊢
  refine ⟨by omega, by omega, by omega, by simp [h.hl], ?_, ?_⟩
  · rw [show (j + 1).toNat = j.toNat + 1 by omega, show (i + 1).toNat = i.toNat + 1 by omega, List.take_succ_eq_append_getElem hjl, List.filter_append, ← h.ht, List.take_succ_eq_append_getElem (by simpa using hil2), List.take_set_of_le (Nat.le_refl _)]
    simp [hp]
  · rw [show (j + 1).toNat = j.toNat + 1 by omega, List.drop_set_of_lt (by omega), ← List.drop_drop, ← List.drop_drop, h.hd]
theorem kept_endI (l2 : List Int) (i : Nat) (h : i ≤ l2.length) : (putL (l2.flatMap ic) (i * 1) (List.replicate (l2.length - i) [Value.int .i64 0]).flatten).take (i * 1) = (l2.take i).flatMap ic := by
  have h1 : (l2.flatMap ic).length = l2.length * 1 := flat_len ilen l2
  unfold putL
  rw [List.append_assoc, List.take_append_of_le_length (by rw [List.length_take, h1]; omega), List.take_take, Nat.min_self, flat_take ilen l2 i h]
theorem deleteI_s (A : Option Addr) (c : Nat) (l : List Int) (f : FuncId) [FnTy Try.prog f] (cs : List Value) (p : Int → Bool) (u0 w0 : World) (L : List Asn) (hS0 : Sep u0 w0 (row 3 1 (.slice A l.length c) l.length (l.flatMap ic) :: L)) (hl : l.length ≤ 1073741823)
    (hp : ∀ x ∈ l, ∀ w, Sep u0 w L → Calls Try.prog f (.int .i64 x :: cs).toArray w fun e w' => ∃ r, e = .returned r ∧ r = .bool (p x) ∧ Sep w w' []) :
    Calls Try.prog 44 #[.slice A l.length c, .func (.func f) #[] cs.toArray] w0 fun e w' => ∃ r, e = .returned r ∧ ∃ m, m = (l.filter fun x => !p x).length ∧ r = .slice A m c ∧ Sep u0 w' (row 3 1 (.slice A m c) m ((l.filter fun x => !p x).flatMap ic) :: L) := by
  obtain ⟨hc1, hc2, _⟩ := hS0.row_cap
  have hA : (0 : Int) < l.length → A = some (adr A) := fun h => (Rd.row (A := A) (n := l.length) (c := c) (xs := l.flatMap ic) hS0).some (by rw [flat_len ilen]; omega)
  refine enter (args := [.slice A l.length c, .func (.func f) #[] cs.toArray]) 42 Try.func44 rfl rfl rfl ?_
  intro a hE _
  have hS := hS0
  clear hS0
  revert hE
  revert hS
  generalize w0 = w
  intro hS hE
  have hT : TellsI f cs l p w := fun x hx w2 L2 h2 => hp x hx w2 (hS.drop.then h2.clean)
  repeat' (first | refine wl_nil ?_ | refine then_n ?_ | refine c_block ?_ | refine c_skip ?_ | refine c_exit ?_ | refine c_ret ?_ | refine then_r ?_ | refine then_e ?_ | refine inb_n ?_ | refine inb_r ?_ | refine inb_e ?_ | refine inb_o rfl ?_ | refine c_cond_t hE rfl ?_ | refine c_cond_f hE rfl ?_ | refine c_rnd ?_ | (refine c_regI 0 ?_; all_goals (refine wl hE rfl ?_; refine qa hE ?_; clear hE a; intro a hE)) | (refine c_regI 1 ?_; all_goals (refine wl hE rfl ?_; refine qm hE ?_; clear hE a; intro a hE); all_goals (refine wl hE rfl ?_; refine qm hE ?_; clear hE a; intro a hE); all_goals (refine wl hE rfl ?_; refine is_call 58 rfl ?_; refine qc hE (indexI_s A c l f cs p _ (Rd.row (A := A) (n := l.length) (c := c) (xs := l.flatMap ic) hS) (by omega) hT) ?_; clear hE; clear a; rintro _ a w ⟨⟨k, rfl, hk⟩, hS1⟩ hE; replace hS := hS.then hS1; clear hS1; have hk1 := hk.rng); all_goals (refine wl hE rfl ?_; refine qa hE ?_; clear hE a; intro a hE)) | (refine c_regI 2 ?_; all_goals (refine wl hE rfl ?_; refine qm hE ?_; clear hE a; intro a hE); all_goals (refine wl hE rfl ?_; (first | refine qb hE ?_ | refine qb2 hE ?_ | refine qbE hE ?_ | refine qbN hE ?_ | refine qpn hE ?_); clear hE a; intro a hE)) | (refine c_regI 3 ?_; all_goals (refine wl hE rfl ?_; refine qm hE ?_; clear hE a; intro a hE); all_goals (refine wl hE rfl ?_; refine qa hE ?_; clear hE a; intro a hE)) | (refine c_regI 4 ?_; all_goals (refine wl hE rfl ?_; refine qm hE ?_; clear hE a; intro a hE); all_goals (refine wl hE rfl ?_; (first | refine qb hE ?_ | refine qb2 hE ?_ | refine qbE hE ?_ | refine qbN hE ?_ | refine qpn hE ?_); clear hE a; intro a hE); all_goals (refine wl hE rfl ?_; refine qa hE ?_; clear hE a; intro a hE)) | (refine c_regI 5 ?_; all_goals (refine wl hE rfl ?_; refine qm hE ?_; clear hE a; intro a hE); all_goals (refine wl hE rfl ?_; refine qm hE ?_; clear hE a; intro a hE); all_goals (refine wl hE rfl ?_; (first | refine qn1 hE ?_ | refine qns hE ?_); clear hE a; intro a hE); all_goals (refine wl hE rfl ?_; (first | refine qb hE ?_ | refine qb2 hE ?_ | refine qbE hE ?_ | refine qbN hE ?_ | refine qpn hE ?_); clear hE a; intro a hE)) | (refine c_regI 7 ?_; all_goals (refine wl hE rfl ?_; refine qm hE ?_; clear hE a; intro a hE); all_goals (refine wl hE rfl ?_; refine qm hE ?_; clear hE a; intro a hE); all_goals (refine wl hE rfl ?_; (first | refine qi hE (fun _ => rfl) ?_ | refine qia hE ?_); clear hE a; intro a hE); all_goals (refine wl hE rfl ?_; (first | refine ql hE hS ?_ | refine qL hE hS ?_ | refine qlr hE hS ?_); clear hE a; intro a hE); all_goals (refine wl hE rfl ?_; refine qa hE ?_; clear hE a; intro a hE)) | (refine c_regI 8 ?_; all_goals (refine wl hE rfl ?_; refine qm hE ?_; clear hE a; intro a hE); all_goals (refine wl hE rfl ?_; refine qm hE ?_; clear hE a; intro a hE); all_goals (refine wl hE rfl ?_; (first | refine qmin hE ?_ | refine qmax hE ?_); clear hE a; intro a hE); all_goals (refine wl hE rfl ?_; (first | refine qu hE ?_ | refine qng hE ?_); clear hE a; intro a hE)) | (refine c_regI 9 ?_; all_goals (refine wl hE rfl ?_; refine qm hE ?_; clear hE a; intro a hE); all_goals (refine wl hE rfl ?_; refine qm hE ?_; clear hE a; intro a hE); all_goals (refine wl hE rfl ?_; refine qm hE ?_; clear hE a; intro a hE); all_goals (refine wl hE rfl ?_; (first | refine qi hE (fun _ => rfl) ?_ | refine qia hE ?_); clear hE a; intro a hE); all_goals (refine wl hE rfl ?_; (first | refine qst0 hE hS ?_ | refine qst hE hS ?_); clear hS; intro w hS)) | (refine c_regI 10 ?_; all_goals (refine wl hE rfl ?_; refine qm hE ?_; clear hE a; intro a hE); all_goals (refine wl hE rfl ?_; (first | refine qb hE ?_ | refine qb2 hE ?_ | refine qbE hE ?_ | refine qbN hE ?_ | refine qpn hE ?_); clear hE a; intro a hE); all_goals (refine wl hE rfl ?_; refine qa hE ?_; clear hE a; intro a hE)) | (refine c_regI 6 ?_; all_goals (refine wl hE rfl ?_; refine qm hE ?_; clear hE a; intro a hE); all_goals (refine wl hE rfl ?_; (first | refine qb hE ?_ | refine qb2 hE ?_ | refine qbE hE ?_ | refine qbN hE ?_ | refine qpn hE ?_); clear hE a; intro a hE); all_goals (refine wl hE rfl ?_; refine qa hE ?_; clear hE a; intro a hE)) | (refine c_regI 11 ?_; all_goals (refine wl hE rfl ?_; refine qm hE ?_; clear hE a; intro a hE); all_goals (refine wl hE rfl ?_; refine qm hE ?_; clear hE a; intro a hE); all_goals (refine wl hE rfl ?_; refine qssh hE ?_; clear hE a; intro a hE); all_goals (refine wl hE rfl ?_; (first | refine qmin hE ?_ | refine qmax hE ?_); clear hE a; intro a hE)) | (refine c_regI 12 ?_; all_goals (refine wl hE rfl ?_; refine qm hE ?_; clear hE a; intro a hE); all_goals (refine wl hE rfl ?_; refine qm hE ?_; clear hE a; intro a hE); all_goals (refine wl hE rfl ?_; refine qssh hE ?_; clear hE a; intro a hE); all_goals (refine wl hE rfl ?_; refine qa hE ?_; clear hE a; intro a hE)) | refine c_seq ?_ | ((refine c_cond hE rfl ?_ ?_) <;> (intro hb; (first | replace hb := of_decide_eq_true hb | replace hb := of_decide_eq_false hb | (simp only [Bool.not_eq_true', Bool.not_eq_false', decide_eq_true_eq, decide_eq_false_iff_not] at hb) | skip); try (exfalso; first | omega | exact absurd trivial hb | exact absurd rfl hb | (simp only [beq_self_eq_true, bne_self_eq_false, reduceCtorEq] at hb; done)))))
  · have hno : ∀ y ∈ l, p y = false := by
      rcases hk with ⟨i, h1, _⟩ | ⟨_, h⟩
      · omega
      · exact h
    have e : (l.filter fun x => !p x) = l := List.filter_eq_self.2 fun y hy => by rw [hno y hy]; rfl
    refine p_ret hE rfl rfl ⟨_, rfl, l.length, by rw [e], rfl, ?_⟩
    rw [e]
    exact hS
  · have hK : KeptI l p l k (k + 1) := by
      rcases hk with ⟨i, rfl, h1, h2, h3⟩ | ⟨h, _⟩
      · exact KeptI.start h1 h2 h3
      · exact absurd h hb
    refine c_loopN (fun m a w => ∃ (l2 : List Int) (i j : Int), KeptI l p l2 i j ∧ m = (l.length - j).toNat ∧ Env a 42 [(0, .slice A l.length c), (1, .func (.func f) #[] cs.toArray), (5, .int .i64 i), (6, .int .i64 j)] ∧ Sep u0 w (row 3 1 (.slice A l.length c) l.length (l2.flatMap ic) :: L)) _ ⟨l, k, k + 1, hK, rfl, hE.cut ⟨rfl, rfl, rfl, rfl, trivial⟩, hS⟩ ?_
    clear hE hS hT a hK hb hk1 hk
    clear w
    rintro m a w ⟨l2, i, j, hK, rfl, hE, hS⟩
    have h0 := hK.h0
    have h1 := hK.h1
    have h2 := hK.h2
    have hl2 := hK.hl
    obtain ⟨x, hx⟩ : ∃ x, l2.getD j.toNat 0 = x := ⟨_, rfl⟩
    have hxm : ∀ _ : Unit, j < l.length → x ∈ l := fun _ h => by rw [← hx, hK.get h]; exact getD_memI (by omega)
    repeat' (first | refine wl_nil ?_ | refine then_n ?_ | refine c_block ?_ | refine c_skip ?_ | refine c_exit ?_ | refine c_ret ?_ | refine then_r ?_ | refine then_e ?_ | refine inb_n ?_ | refine inb_r ?_ | refine inb_e ?_ | refine inb_o rfl ?_ | refine c_cond_t hE rfl ?_ | refine c_cond_f hE rfl ?_ | refine c_rnd ?_ | (refine c_regI 0 ?_; all_goals (refine wl hE rfl ?_; refine qa hE ?_; clear hE a; intro a hE)) | (refine c_regI 1 ?_; all_goals (refine wl hE rfl ?_; refine qm hE ?_; clear hE a; intro a hE); all_goals (refine wl hE rfl ?_; refine qm hE ?_; clear hE a; intro a hE); all_goals (refine wl hE rfl ?_; fail); all_goals (refine wl hE rfl ?_; refine qa hE ?_; clear hE a; intro a hE)) | (refine c_regI 2 ?_; all_goals (refine wl hE rfl ?_; refine qm hE ?_; clear hE a; intro a hE); all_goals (refine wl hE rfl ?_; (first | refine qb hE ?_ | refine qb2 hE ?_ | refine qbE hE ?_ | refine qbN hE ?_ | refine qpn hE ?_); clear hE a; intro a hE)) | (refine c_regI 3 ?_; all_goals (refine wl hE rfl ?_; refine qm hE ?_; clear hE a; intro a hE); all_goals (refine wl hE rfl ?_; refine qa hE ?_; clear hE a; intro a hE)) | (refine c_regI 4 ?_; all_goals (refine wl hE rfl ?_; refine qm hE ?_; clear hE a; intro a hE); all_goals (refine wl hE rfl ?_; (first | refine qb hE ?_ | refine qb2 hE ?_ | refine qbE hE ?_ | refine qbN hE ?_ | refine qpn hE ?_); clear hE a; intro a hE); all_goals (refine wl hE rfl ?_; refine qa hE ?_; clear hE a; intro a hE)) | (refine c_regI 5 ?_; all_goals (refine wl hE rfl ?_; refine qm hE ?_; clear hE a; intro a hE); all_goals (refine wl hE rfl ?_; refine qm hE ?_; clear hE a; intro a hE); all_goals (refine wl hE rfl ?_; (first | refine qn1 hE ?_ | refine qns hE ?_); clear hE a; intro a hE); all_goals (refine wl hE rfl ?_; (first | refine qb hE ?_ | refine qb2 hE ?_ | refine qbE hE ?_ | refine qbN hE ?_ | refine qpn hE ?_); clear hE a; intro a hE)) | (refine c_regI 7 ?_; all_goals (refine wl hE rfl ?_; refine qm hE ?_; clear hE a; intro a hE); all_goals (refine wl hE rfl ?_; refine qm hE ?_; clear hE a; intro a hE); all_goals (refine wl hE rfl ?_; (first | refine qi hE hA ?_ | refine qi hE (fun _ => rfl) ?_ | refine qia hE ?_); clear hE a; intro a hE); all_goals (refine wl hE rfl ?_; (first | refine qlP (i := j) (df := 0) 0 hE hS ilen (by rw [hx]; rfl) ?_ | refine ql hE hS ?_ | refine qL hE hS ?_ | refine qlr hE hS ?_); clear hE a; intro a hE); all_goals (refine wl hE rfl ?_; refine qa hE ?_; clear hE a; intro a hE)) | (refine c_regI 8 ?_; all_goals (refine wl hE rfl ?_; refine qm hE ?_; clear hE a; intro a hE); all_goals (refine wl hE rfl ?_; refine qm hE ?_; clear hE a; intro a hE); all_goals (refine wl hE rfl ?_; first | ((refine qcF (vs := [.int .i64 x]) hE (hp x (hxm () (by omega)) _ hS.fit) ?_; clear hE; clear a; rintro _ a w ⟨rfl, hS1⟩ hE; replace hS := hS.then hS1; clear hS1)) | ((first | refine qmin hE ?_ | refine qmax hE ?_); clear hE a; intro a hE)); all_goals (refine wl hE rfl ?_; (first | refine qu hE ?_ | refine qng hE ?_); clear hE a; intro a hE)) | (refine c_regI 9 ?_; all_goals (refine wl hE rfl ?_; refine qm hE ?_; clear hE a; intro a hE); all_goals (refine wl hE rfl ?_; refine qm hE ?_; clear hE a; intro a hE); all_goals (refine wl hE rfl ?_; refine qm hE ?_; clear hE a; intro a hE); all_goals (refine wl hE rfl ?_; (first | refine qi hE hA ?_ | refine qi hE (fun _ => rfl) ?_ | refine qia hE ?_); clear hE a; intro a hE); all_goals (refine wl hE rfl ?_; first | ((refine qsR (df := 0) (off := 0) (v := .int .i64 x) (l := l2) (i := i) (A := A) (p := (adr A).add (i.toNat * 1 + 0)) x hE hS ilen rfl ?_; clear hS; intro w hS)) | ((first | refine qst0 hE hS ?_ | refine qst hE hS ?_); clear hS; intro w hS))) | (refine c_regI 10 ?_; all_goals (refine wl hE rfl ?_; refine qm hE ?_; clear hE a; intro a hE); all_goals (refine wl hE rfl ?_; (first | refine qb hE ?_ | refine qb2 hE ?_ | refine qbE hE ?_ | refine qbN hE ?_ | refine qpn hE ?_); clear hE a; intro a hE); all_goals (refine wl hE rfl ?_; refine qa hE ?_; clear hE a; intro a hE)) | (refine c_regI 6 ?_; all_goals (refine wl hE rfl ?_; refine qm hE ?_; clear hE a; intro a hE); all_goals (refine wl hE rfl ?_; (first | refine qb hE ?_ | refine qb2 hE ?_ | refine qbE hE ?_ | refine qbN hE ?_ | refine qpn hE ?_); clear hE a; intro a hE); all_goals (refine wl hE rfl ?_; refine qa hE ?_; clear hE a; intro a hE)) | (refine c_regI 11 ?_; all_goals (refine wl hE rfl ?_; refine qm hE ?_; clear hE a; intro a hE); all_goals (refine wl hE rfl ?_; refine qm hE ?_; clear hE a; intro a hE); all_goals (refine wl hE rfl ?_; first | ((refine qsh i.toNat hE ?_; clear hE; clear a; intro a hE)) | ((refine qsL i.toNat hE ?_; clear hE; clear a; intro a hE)) | (refine qssh hE ?_; clear hE a; intro a hE)); all_goals (refine wl hE rfl ?_; first | ((refine qclr (sz := 1) (c := c) (dc := c - i.toNat) (dl := l.length - i.toNat) (zs := [.int .i64 0]) i.toNat (l2.length - i.toNat) (A := A) (N := l.length) (xs := l2.flatMap ic) hE hS ?_ (by decide) (by rw [hl2]) (by omega) (by omega) rfl; clear hS; intro w hS)) | ((first | refine qmin hE ?_ | refine qmax hE ?_); clear hE a; intro a hE))) | (refine c_regI 12 ?_; all_goals (refine wl hE rfl ?_; refine qm hE ?_; clear hE a; intro a hE); all_goals (refine wl hE rfl ?_; refine qm hE ?_; clear hE a; intro a hE); all_goals (refine wl hE rfl ?_; first | ((refine qsh i.toNat hE ?_; clear hE; clear a; intro a hE)) | ((refine qsL i.toNat hE ?_; clear hE; clear a; intro a hE)) | (refine qssh hE ?_; clear hE a; intro a hE)); all_goals (refine wl hE rfl ?_; refine qa hE ?_; clear hE a; intro a hE)) | refine c_seq ?_ | ((refine c_cond hE rfl ?_ ?_) <;> (intro hb; (first | replace hb := of_decide_eq_true hb | replace hb := of_decide_eq_false hb | (simp only [Bool.not_eq_true', Bool.not_eq_false', decide_eq_true_eq, decide_eq_false_iff_not] at hb) | skip); try (exfalso; first | omega | exact absurd trivial hb | exact absurd rfl hb | (simp only [beq_self_eq_true, bne_self_eq_false, reduceCtorEq] at hb; done)))))
    · exact ⟨_, by omega, _, i + 1, j + 1, hK.keep (by omega) (by rw [← hK.get (by omega), hx]; simpa using hb), rfl, hE.cut ⟨rfl, rfl, rfl, rfl, trivial⟩, by rw [← hK.get (by omega), hx]; exact hS.fit⟩
    · exact ⟨_, by omega, l2, i, j + 1, hK.skip (by omega) (by rw [← hK.get (by omega), hx]; simpa using hb), rfl, hE.cut ⟨rfl, rfl, rfl, rfl, trivial⟩, hS.fit⟩
    · have e : j = l.length := by omega
      have ht := hK.ht
      rw [e, List.take_of_length_le (l := l) (by omega)] at ht
      have e1 : (l.filter fun x => !p x).length = i.toNat := by rw [← ht, List.length_take]; omega
      refine p_ret hE rfl rfl ⟨_, rfl, i.toNat, e1.symm, rfl, ?_⟩
      have h3 := hS.row_cut (A := A) (n := l.length) (c := c) i.toNat c (by omega) (by omega) (by omega)
      rw [kept_endI l2 i.toNat (by omega), ht] at h3
      exact h3.fit
end Go.Proofs.Ytbhddlllpgfgiaa

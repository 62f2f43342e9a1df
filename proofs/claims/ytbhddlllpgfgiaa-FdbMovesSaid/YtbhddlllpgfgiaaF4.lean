/- DERIVED. Layer 11: Learn. No condition. -/
import Derived.Test.YtbhddlllpgfgiaaF3
namespace Go.Proofs.Ytbhddlllpgfgiaa
open Go.RowKit Go.Sx Go.Proofs.YtbhddlllpgfgiaaTy
set_option linter.unusedVariables false
set_option linter.unusedSimpArgs false
set_option maxRecDepth 100000
attribute [local irreducible] Oper.wp Code.wp wpList wpAnyH Calls bodyPost Exit.then Exit.inBlock Code.rounds
set_option maxHeartbeats 1000000
/-- What stays true of a table. -/
structure FdI (S : List En) (F : Int → List Int) (n : Nat) (kp : Kp) : Prop where
  inv : Inv kp.room S
  nums : ∀ x ∈ S, (0 ≤ x.k ∧ x.k < 18446744073709551616) ∧ (0 ≤ x.v ∧ x.v < 18446744073709551616)
  times : ∀ k, ∀ x ∈ F k, 0 ≤ x ∧ x ≤ 1099511627776
  len : ∀ k, (F k).length ≤ n
  room : 1 ≤ kp.room ∧ kp.room ≤ 4096
  life : 0 ≤ kp.life ∧ kp.life ≤ 1099511627776
def whatT (kp : Kp) (S : List En) (F : Int → List Int) (k v now : Int) : Int :=
  if (getT kp.life S k now).2 = true then (if (getT kp.life S k now).1.v = v then 1 else if (getT kp.life S k now).1.f = true then 2 else if kp.moves ≤ counts kp.win now (F k) then 4 else 3) else 2
def learnT (kp : Kp) (S : List En) (F : Int → List Int) (vid m tk tn now : Int) : Int × List En × (Int → List Int) :=
  if (mayB vid m && targetB tk tn) = true then
    if whatT kp S F (keyM vid m) (valM tk tn) now = 4 then (4, S, F)
    else if (putT kp.room kp.life S (keyM vid m) (valM tk tn) now).1 = 0 then (whatT kp S F (keyM vid m) (valM tk tn) now, (putT kp.room kp.life S (keyM vid m) (valM tk tn) now).2, if whatT kp S F (keyM vid m) (valM tk tn) now = 3 then fadd F (keyM vid m) now else F)
    else (0, (putT kp.room kp.life S (keyM vid m) (valM tk tn) now).2, F)
  else (0, S, F)
theorem may_is {vid m : Int} (h : mayB vid m = true) : (1 ≤ vid ∧ vid ≤ 4094) ∧ m < 281474976710656 := by
  unfold mayB ownB at h
  simp only [Bool.and_eq_true, decide_eq_true_eq] at h
  exact ⟨h.1, h.2.1.2⟩
theorem target_is {k n : Int} (h : targetB k n = true) : 0 ≤ k ∧ k ≤ 1 := by
  have := of_decide_eq_true h
  omega
theorem get_ok {life : Int} {l : List En} {k now : Int} (h : (getT life l k now).2 = true) : okT now = true := by
  unfold getT at h
  split at h
  · split at h
    · rename_i hh; exact hh.1
    · cases h
  · cases h
theorem spareE_sub {room : Int} {l l2 : List En} (hs : spareE room l = some l2) : ∀ x ∈ l2, x ∈ l := by
  unfold spareE at hs
  split at hs
  · cases hs; exact fun x hx => hx
  · split at hs
    · cases hs
    · have hs := Option.some.inj hs
      subst hs
      exact fun x hx => List.mem_of_mem_eraseIdx hx
theorem putT_all {P : En → Prop} {room life : Int} {S : List En} {k v now : Int} (h : ∀ x ∈ S, P x) (hx : P ⟨k, v, now, false⟩) : ∀ x ∈ (putT room life S k v now).2, P x := by
  unfold putT
  split
  · split
    · split
      · exact h
      · intro y hy
        rcases mem_put.1 hy with rfl | ⟨h1, _⟩
        · exact hx
        · exact h y h1
    · split
      · rename_i l2 h2
        intro y hy
        rcases mem_put.1 hy with rfl | ⟨h1, _⟩
        · exact hx
        · exact h y (List.mem_filter.1 (spareE_sub h2 y h1)).1
      · intro y hy
        exact h y (List.mem_filter.1 hy).1
  · exact h
theorem fixT_all {P : En → Prop} {room : Int} {S : List En} {k v : Int} (h : ∀ x ∈ S, P x) (hx : P ⟨k, v, 0, true⟩) : ∀ x ∈ (fixT room S k v).2, P x := by
  unfold fixT
  split
  · intro y hy
    rcases mem_put.1 hy with rfl | ⟨h1, _⟩
    · exact hx
    · exact h y h1
  · split
    · rename_i l2 h2
      intro y hy
      rcases mem_put.1 hy with rfl | ⟨h1, _⟩
      · exact hx
      · exact h y (spareE_sub h2 y h1)
    · exact h
theorem put_FdI {S : List En} {F : Int → List Int} {n : Nat} {kp : Kp} {k v now : Int} (hI : FdI S F n kp) (hk : 0 ≤ k ∧ k < 18446744073709551616) (hv : 0 ≤ v ∧ v < 18446744073709551616) : FdI (putT kp.room kp.life S k v now).2 F n kp :=
  ⟨putT_inv hI.room.1 hI.inv k v now, putT_all hI.nums ⟨hk, hv⟩, hI.times, hI.len, hI.room, hI.life⟩
theorem fix_FdI {S : List En} {F : Int → List Int} {n : Nat} {kp : Kp} {k v : Int} (hI : FdI S F n kp) (hk : 0 ≤ k ∧ k < 18446744073709551616) (hv : 0 ≤ v ∧ v < 18446744073709551616) : FdI (fixT kp.room S k v).2 F n kp :=
  ⟨fixT_inv hI.room.1 hI.inv k v, fixT_all hI.nums ⟨hk, hv⟩, hI.times, hI.len, hI.room, hI.life⟩
theorem filter_FdI {S : List En} {F : Int → List Int} {n : Nat} {kp : Kp} (hI : FdI S F n kp) (p : En → Bool) : FdI (S.filter p) F n kp :=
  ⟨filter_inv hI.inv p, fun x hx => hI.nums x (List.mem_filter.1 hx).1, hI.times, hI.len, hI.room, hI.life⟩
theorem add_FdI {S : List En} {F : Int → List Int} {n : Nat} {kp : Kp} {k now : Int} (hI : FdI S F n kp) (hn : 0 ≤ now ∧ now ≤ 1099511627776) : FdI S (fadd F k now) (n + 1) kp := by
  refine ⟨hI.inv, hI.nums, ?_, ?_, hI.room, hI.life⟩
  · intro j x hx
    unfold fadd at hx
    split at hx
    · rcases List.mem_append.1 hx with h | h
      · exact hI.times k x h
      · rw [List.mem_singleton.1 h]; exact hn
    · exact hI.times j x hx
  · intro j
    unfold fadd
    split
    · rw [List.length_append]
      have := hI.len k
      simp
      omega
    · have := hI.len j
      omega
theorem val_rng {k n : Int} (hk : 0 ≤ k ∧ k ≤ 1) (hn : 0 ≤ n ∧ n < 4294967296) : 0 ≤ valM k n ∧ valM k n < 18446744073709551616 := by
  unfold valM
  omega
theorem learn_s (g : Nat) (S : List En) (F : Int → List Int) (n : Nat) (kp : Kp) (vid m tk tn now : Int) (u0 w0 : World) (L : List Asn) (hS0 : Sep u0 w0 (Fd g S F n kp :: L)) (hI : FdI S F n kp) (hm : 0 ≤ m) (hn : 0 ≤ tn ∧ tn < 4294967296) (hnn : n ≤ 1000000) :
    Calls Try.prog 14 #[.pointer (some ⟨g, 0, none⟩), .int .i64 vid, .int .u64 m, .agg #[.int .i64 tk, .int .u32 tn], .int .i64 now] w0 fun e w' => ∃ r, e = .returned r ∧ r = .int .i64 (learnT kp S F vid m tk tn now).1 ∧ ∃ n', n' ≤ n + 1 ∧ FdI (learnT kp S F vid m tk tn now).2.1 (learnT kp S F vid m tk tn now).2.2 n' kp ∧ Sep u0 w' (Fd g (learnT kp S F vid m tk tn now).2.1 (learnT kp S F vid m tk tn now).2.2 n' kp :: L) := by
  refine enter (args := [.pointer (some ⟨g, 0, none⟩), .int .i64 vid, .int .u64 m, .agg #[.int .i64 tk, .int .u32 tn], .int .i64 now]) 85 Try.func14 rfl rfl rfl ?_
  intro a hE _
  obtain ⟨gt, b, hS⟩ := Fd.out hS0
  clear hS0
  have hFl := hI.len (keyM vid m)
  obtain ⟨x, is, hg⟩ : ∃ x is, getT kp.life S (keyM vid m) now = (x, is) := ⟨_, _, rfl⟩
  have hgo : is = true → okT now = true := fun h => get_ok (life := kp.life) (l := S) (k := keyM vid m) (by rw [hg]; exact h)
  obtain ⟨c, S2, hp⟩ : ∃ c S2, putT kp.room kp.life S (keyM vid m) (valM tk tn) now = (c, S2) := ⟨_, _, rfl⟩
  obtain ⟨g0, hg0⟩ : ∃ g0, g0 = g := ⟨_, rfl⟩
  rw [← hg0] at hE hS ⊢
  clear hg0
  revert hE
  revert hS
  generalize w0 = w
  intro hS hE
  repeat' (first | refine wl_nil ?_ | refine then_n ?_ | refine c_block ?_ | refine c_skip ?_ | refine c_exit ?_ | refine c_ret ?_ | refine then_r ?_ | refine then_e ?_ | refine inb_n ?_ | refine inb_r ?_ | refine inb_e ?_ | refine inb_o rfl ?_ | refine c_cond_t hE rfl ?_ | refine c_cond_f hE rfl ?_ | refine c_rnd ?_ | (refine c_regI 0 ?_; all_goals (refine wl hE rfl ?_; (first | refine qbx hE hS ?_); clear hE hS; clear a; intro g a w hE hS); all_goals (refine wl hE rfl ?_; refine qa hE ?_; clear hE a; intro a hE)) | (refine c_regI 1 ?_; all_goals (refine wl hE rfl ?_; refine qm hE ?_; clear hE a; intro a hE); all_goals (refine wl hE rfl ?_; refine qm hE ?_; clear hE a; intro a hE); all_goals (refine wl hE rfl ?_; refine is_call 25 rfl ?_; refine qc hE (may_s vid m _) ?_; clear hE; clear a; rintro _ a w ⟨rfl, hS1⟩ hE; replace hS := hS.then hS1; clear hS1); all_goals (refine wl hE rfl ?_; (first | refine qu hE ?_ | refine qng hE ?_); clear hE a; intro a hE); all_goals (refine wl hE rfl ?_; refine qm hE ?_; clear hE a; intro a hE); all_goals (first | (refine wl hE rfl ?_; (first | refine ql hE hS ?_ | refine qL hE hS ?_ | refine qlr hE hS ?_); clear hE a; intro a hE) | (refine wl_skip hE rfl rfl rfl ?_; clear hE a; intro a hE) | ((refine wl_splitg hE rfl rfl ?_ ?_) <;> (clear hE; intro hb hE; (first | replace hb := of_decide_eq_true hb | replace hb := of_decide_eq_false hb | (simp only [Bool.not_eq_true', Bool.not_eq_false', decide_eq_true_eq, decide_eq_false_iff_not] at hb) | skip); try (exfalso; first | omega | exact absurd trivial hb | exact absurd rfl hb | (simp only [beq_self_eq_true, bne_self_eq_false, reduceCtorEq] at hb; done))) <;> (first | (refine wl hE rfl ?_; (first | refine ql hE hS ?_ | refine qL hE hS ?_ | refine qlr hE hS ?_); clear hE a; intro a hE) | (refine wl_skip hE rfl rfl rfl ?_; clear hE a; intro a hE)))); all_goals (first | (refine wl hE rfl ?_; refine is_call 28 rfl ?_; refine qc hE (target_s tk tn _) ?_; clear hE; clear a; rintro _ a w ⟨rfl, hS1⟩ hE; replace hS := hS.then hS1; clear hS1) | (refine wl_skip hE rfl rfl rfl ?_; clear hE a; intro a hE)); all_goals (first | (refine wl hE rfl ?_; (first | refine qu hE ?_ | refine qng hE ?_); clear hE a; intro a hE) | (refine wl_skip hE rfl rfl rfl ?_; clear hE a; intro a hE)); all_goals (refine wl hE rfl ?_; (first | refine qpt hE ?_ | refine qpf hE ?_); clear hE a; intro a hE)) | (refine c_regI 2 ?_; all_goals (refine wl hE rfl ?_; refine qa hE ?_; clear hE a; intro a hE)) | (refine c_regI 3 ?_; all_goals (refine wl hE rfl ?_; refine qm hE ?_; clear hE a; intro a hE); all_goals (refine wl hE rfl ?_; refine qm hE ?_; clear hE a; intro a hE); all_goals (refine wl hE rfl ?_; fail); all_goals (refine wl hE rfl ?_; refine qa hE ?_; clear hE a; intro a hE)) | (refine c_regI 4 ?_; all_goals (refine wl hE rfl ?_; refine qm hE ?_; clear hE a; intro a hE); all_goals (refine wl hE rfl ?_; (first | refine qn hE ?_ | refine qnf hE ?_); clear hE a; intro a hE); all_goals (refine wl hE rfl ?_; (first | refine qf hE ?_ | refine qFF hE ?_ | refine qF hE ?_); clear hE a; intro a hE); all_goals (refine wl hE rfl ?_; (first | refine ql hE hS ?_ | refine qL hE hS ?_ | refine qlr hE hS ?_); clear hE a; intro a hE); all_goals (refine wl hE rfl ?_; refine qm hE ?_; clear hE a; intro a hE); all_goals (refine wl hE rfl ?_; refine qm hE ?_; clear hE a; intro a hE); all_goals (refine wl hE rfl ?_; fail); all_goals (refine wl hE rfl ?_; refine qm hE ?_; clear hE a; intro a hE); all_goals (refine wl hE rfl ?_; refine qe hE ?_; clear hE a; intro a hE); all_goals (refine wl hE rfl ?_; refine qe hE ?_; clear hE a; intro a hE); all_goals (refine wl hE rfl ?_; (first | refine qal hE hS ?_); clear hE hS; clear a; intro g a w hE hS); all_goals (refine wl hE rfl ?_; (first | refine qst0 hE hS ?_ | refine qst hE hS ?_); clear hS; intro w hS); all_goals (refine wl hE rfl ?_; refine qa hE ?_; clear hE a; intro a hE)) | (refine c_regI 5 ?_; all_goals (refine wl hE rfl ?_; refine qa hE ?_; clear hE a; intro a hE)) | (refine c_regI 7 ?_; all_goals (refine wl hE rfl ?_; refine qa hE ?_; clear hE a; intro a hE)) | (refine c_regI 8 ?_; all_goals (refine wl hE rfl ?_; refine qm hE ?_; clear hE a; intro a hE); all_goals (refine wl hE rfl ?_; refine qm hE ?_; clear hE a; intro a hE); all_goals (first | (refine wl hE rfl ?_; (first | refine qf hE ?_ | refine qFF hE ?_ | refine qF hE ?_); clear hE a; intro a hE) | (refine wl_skip hE rfl rfl rfl ?_; clear hE a; intro a hE) | ((refine wl_splitg hE rfl rfl ?_ ?_) <;> (clear hE; intro hb hE; (first | replace hb := of_decide_eq_true hb | replace hb := of_decide_eq_false hb | (simp only [Bool.not_eq_true', Bool.not_eq_false', decide_eq_true_eq, decide_eq_false_iff_not] at hb) | skip); try (exfalso; first | omega | exact absurd trivial hb | exact absurd rfl hb | (simp only [beq_self_eq_true, bne_self_eq_false, reduceCtorEq] at hb; done))) <;> (first | (refine wl hE rfl ?_; (first | refine qf hE ?_ | refine qFF hE ?_ | refine qF hE ?_); clear hE a; intro a hE) | (refine wl_skip hE rfl rfl rfl ?_; clear hE a; intro a hE)))); all_goals (first | (refine wl hE rfl ?_; (first | refine ql hE hS ?_ | refine qL hE hS ?_ | refine qlr hE hS ?_); clear hE a; intro a hE) | (refine wl_skip hE rfl rfl rfl ?_; clear hE a; intro a hE)); all_goals (refine wl hE rfl ?_; (first | refine qpt hE ?_ | refine qpf hE ?_); clear hE a; intro a hE); all_goals (refine wl hE rfl ?_; refine qa hE ?_; clear hE a; intro a hE)) | (refine c_regI 10 ?_; all_goals (refine wl hE rfl ?_; refine qa hE ?_; clear hE a; intro a hE)) | (refine c_regI 11 ?_; all_goals (refine wl hE rfl ?_; refine qm hE ?_; clear hE a; intro a hE); all_goals (refine wl hE rfl ?_; refine qa hE ?_; clear hE a; intro a hE)) | (refine c_regI 12 ?_; all_goals (refine wl hE rfl ?_; refine qa hE ?_; clear hE a; intro a hE)) | (refine c_regI 14 ?_; all_goals (refine wl hE rfl ?_; refine qa hE ?_; clear hE a; intro a hE)) | (refine c_regI 15 ?_; all_goals (refine wl hE rfl ?_; refine qm hE ?_; clear hE a; intro a hE); all_goals (refine wl hE rfl ?_; (first | refine qb hE ?_ | refine qb2 hE ?_ | refine qbE hE ?_ | refine qbN hE ?_ | refine qpn hE ?_); clear hE a; intro a hE)) | (refine c_regI 16 ?_; all_goals (refine wl hE rfl ?_; refine qm hE ?_; clear hE a; intro a hE); all_goals (refine wl hE rfl ?_; refine qm hE ?_; clear hE a; intro a hE); all_goals (refine wl hE rfl ?_; refine qm hE ?_; clear hE a; intro a hE); all_goals (refine wl hE rfl ?_; fail)) | (refine c_regI 17 ?_; all_goals (refine wl hE rfl ?_; refine qm hE ?_; clear hE a; intro a hE); all_goals (refine wl hE rfl ?_; refine qa hE ?_; clear hE a; intro a hE)) | refine c_seq ?_ | ((refine c_cond hE rfl ?_ ?_) <;> (intro hb; (first | replace hb := of_decide_eq_true hb | replace hb := of_decide_eq_false hb | (simp only [Bool.not_eq_true', Bool.not_eq_false', decide_eq_true_eq, decide_eq_false_iff_not] at hb) | skip); try (exfalso; first | omega | exact absurd trivial hb | exact absurd rfl hb | (simp only [beq_self_eq_true, bne_self_eq_false, reduceCtorEq] at hb; done)))))
  · have e : learnT kp S F vid m tk tn now = (0, S, F) := by simp [learnT, hb]
    rw [e]
    exact p_ret hE rfl rfl ⟨_, rfl, rfl, n, by omega, hI, Fd.in_ (gt := gt) (b := b) hS.fit⟩
  · have e : learnT kp S F vid m tk tn now = (0, S, F) := by simp [learnT, hb]
    rw [e]
    exact p_ret hE rfl rfl ⟨_, rfl, rfl, n, by omega, hI, Fd.in_ (gt := gt) (b := b) hS.fit⟩
  have htb : targetB tk tn = true := by assumption
  have hmb : mayB vid m = true := by assumption
  have hv := may_is hmb
  have ht := target_is htb
  have hk : 0 ≤ keyM vid m ∧ keyM vid m < 18446744073709551616 := by unfold keyM; omega
  have hS2 : FdI S2 F n kp := by have := put_FdI hI (k := keyM vid m) (v := valM tk tn) (now := now) hk (val_rng ht hn); rwa [hp] at this
  have hgo2 := hgo
  clear hgo
  cases is
  all_goals repeat' (first | refine wl_nil ?_ | refine then_n ?_ | refine c_block ?_ | refine c_skip ?_ | refine c_exit ?_ | refine c_ret ?_ | refine then_r ?_ | refine then_e ?_ | refine inb_n ?_ | refine inb_r ?_ | refine inb_e ?_ | refine inb_o rfl ?_ | refine c_cond_t hE rfl ?_ | refine c_cond_f hE rfl ?_ | refine c_rnd ?_ | (refine c_regI 0 ?_; all_goals (refine wl hE rfl ?_; (first | refine qbx hE hS ?_); clear hE hS; clear a; intro g a w hE hS); all_goals (refine wl hE rfl ?_; refine qa hE ?_; clear hE a; intro a hE)) | (refine c_regI 1 ?_; all_goals (refine wl hE rfl ?_; refine qm hE ?_; clear hE a; intro a hE); all_goals (refine wl hE rfl ?_; refine qm hE ?_; clear hE a; intro a hE); all_goals (refine wl hE rfl ?_; fail); all_goals (refine wl hE rfl ?_; (first | refine qu hE ?_ | refine qng hE ?_); clear hE a; intro a hE); all_goals (refine wl hE rfl ?_; refine qm hE ?_; clear hE a; intro a hE); all_goals (first | (refine wl hE rfl ?_; (first | refine ql hE hS ?_ | refine qL hE hS ?_ | refine qlr hE hS ?_); clear hE a; intro a hE) | (refine wl_skip hE rfl rfl rfl ?_; clear hE a; intro a hE) | ((refine wl_splitg hE rfl rfl ?_ ?_) <;> (clear hE; intro hb hE; (first | replace hb := of_decide_eq_true hb | replace hb := of_decide_eq_false hb | (simp only [Bool.not_eq_true', Bool.not_eq_false', decide_eq_true_eq, decide_eq_false_iff_not] at hb) | skip); try (exfalso; first | omega | exact absurd trivial hb | exact absurd rfl hb | (simp only [beq_self_eq_true, bne_self_eq_false, reduceCtorEq] at hb; done))) <;> (first | (refine wl hE rfl ?_; (first | refine ql hE hS ?_ | refine qL hE hS ?_ | refine qlr hE hS ?_); clear hE a; intro a hE) | (refine wl_skip hE rfl rfl rfl ?_; clear hE a; intro a hE)))); all_goals (first | (refine wl hE rfl ?_; fail) | (refine wl_skip hE rfl rfl rfl ?_; clear hE a; intro a hE)); all_goals (first | (refine wl hE rfl ?_; (first | refine qu hE ?_ | refine qng hE ?_); clear hE a; intro a hE) | (refine wl_skip hE rfl rfl rfl ?_; clear hE a; intro a hE)); all_goals (refine wl hE rfl ?_; (first | refine qpt hE ?_ | refine qpf hE ?_); clear hE a; intro a hE)) | (refine c_regI 2 ?_; all_goals (refine wl hE rfl ?_; refine qa hE ?_; clear hE a; intro a hE)) | (refine c_regI 3 ?_; all_goals (refine wl hE rfl ?_; refine qm hE ?_; clear hE a; intro a hE); all_goals (refine wl hE rfl ?_; refine qm hE ?_; clear hE a; intro a hE); all_goals (refine wl hE rfl ?_; refine is_call 27 rfl ?_; refine qc hE (key2_s vid m _ (by omega) (by omega) hm hv.2) ?_; clear hE; clear a; rintro _ a w ⟨rfl, hS1⟩ hE; replace hS := hS.then hS1; clear hS1); all_goals (refine wl hE rfl ?_; refine qa hE ?_; clear hE a; intro a hE)) | (refine c_regI 4 ?_; all_goals (refine wl hE rfl ?_; refine qm hE ?_; clear hE a; intro a hE); all_goals (refine wl hE rfl ?_; (first | refine qn hE ?_ | refine qnf hE ?_); clear hE a; intro a hE); all_goals (refine wl hE rfl ?_; (first | refine qf hE ?_ | refine qFF hE ?_ | refine qF hE ?_); clear hE a; intro a hE); all_goals (refine wl hE rfl ?_; (first | refine ql hE hS ?_ | refine qL hE hS ?_ | refine qlr hE hS ?_); clear hE a; intro a hE); all_goals (refine wl hE rfl ?_; refine qm hE ?_; clear hE a; intro a hE); all_goals (refine wl hE rfl ?_; refine qm hE ?_; clear hE a; intro a hE); all_goals (refine wl hE rfl ?_; refine is_call 26 rfl ?_; refine qc hE (get_v gt S x _ kp.room kp.life (keyM vid m) now u0 _ _ hg hI.inv hS.fit hI.room) ?_; clear hE hS; clear a; rintro _ a w ⟨rfl, hS⟩ hE); all_goals (refine wl hE rfl ?_; refine qm hE ?_; clear hE a; intro a hE); all_goals (refine wl hE rfl ?_; refine qe hE ?_; clear hE a; intro a hE); all_goals (refine wl hE rfl ?_; refine qe hE ?_; clear hE a; intro a hE); all_goals (refine wl hE rfl ?_; (first | refine qal hE hS ?_); clear hE hS; clear a; intro g a w hE hS); all_goals (refine wl hE rfl ?_; (first | refine qst0 hE hS ?_ | refine qst hE hS ?_); clear hS; intro w hS); all_goals (refine wl hE rfl ?_; refine qa hE ?_; clear hE a; intro a hE)) | (refine c_regI 5 ?_; all_goals (refine wl hE rfl ?_; refine qa hE ?_; clear hE a; intro a hE)) | (refine c_regI 7 ?_; all_goals (refine wl hE rfl ?_; refine qa hE ?_; clear hE a; intro a hE)) | (refine c_regI 8 ?_; all_goals (refine wl hE rfl ?_; refine qm hE ?_; clear hE a; intro a hE); all_goals (refine wl hE rfl ?_; refine qm hE ?_; clear hE a; intro a hE); all_goals (first | (refine wl hE rfl ?_; (first | refine qf hE ?_ | refine qFF hE ?_ | refine qF hE ?_); clear hE a; intro a hE) | (refine wl_skip hE rfl rfl rfl ?_; clear hE a; intro a hE) | ((refine wl_splitg hE rfl rfl ?_ ?_) <;> (clear hE; intro hb hE; (first | replace hb := of_decide_eq_true hb | replace hb := of_decide_eq_false hb | (simp only [Bool.not_eq_true', Bool.not_eq_false', decide_eq_true_eq, decide_eq_false_iff_not] at hb) | skip); try (exfalso; first | omega | exact absurd trivial hb | exact absurd rfl hb | (simp only [beq_self_eq_true, bne_self_eq_false, reduceCtorEq] at hb; done))) <;> (first | (refine wl hE rfl ?_; (first | refine qf hE ?_ | refine qFF hE ?_ | refine qF hE ?_); clear hE a; intro a hE) | (refine wl_skip hE rfl rfl rfl ?_; clear hE a; intro a hE)))); all_goals (first | (refine wl hE rfl ?_; (first | refine ql hE hS ?_ | refine qL hE hS ?_ | refine qlr hE hS ?_); clear hE a; intro a hE) | (refine wl_skip hE rfl rfl rfl ?_; clear hE a; intro a hE)); all_goals (refine wl hE rfl ?_; (first | refine qpt hE ?_ | refine qpf hE ?_); clear hE a; intro a hE); all_goals (refine wl hE rfl ?_; refine qa hE ?_; clear hE a; intro a hE)) | (refine c_regI 10 ?_; all_goals (refine wl hE rfl ?_; refine qa hE ?_; clear hE a; intro a hE)) | (refine c_regI 11 ?_; all_goals (refine wl hE rfl ?_; refine qm hE ?_; clear hE a; intro a hE); all_goals (refine wl hE rfl ?_; refine qa hE ?_; clear hE a; intro a hE)) | (refine c_regI 12 ?_; all_goals (refine wl hE rfl ?_; refine qa hE ?_; clear hE a; intro a hE)) | (refine c_regI 14 ?_; all_goals (refine wl hE rfl ?_; refine qa hE ?_; clear hE a; intro a hE)) | (refine c_regI 15 ?_; all_goals (refine wl hE rfl ?_; refine qm hE ?_; clear hE a; intro a hE); all_goals (refine wl hE rfl ?_; (first | refine qb hE ?_ | refine qb2 hE ?_ | refine qbE hE ?_ | refine qbN hE ?_ | refine qpn hE ?_); clear hE a; intro a hE)) | (refine c_regI 16 ?_; all_goals (refine wl hE rfl ?_; refine qm hE ?_; clear hE a; intro a hE); all_goals (refine wl hE rfl ?_; refine qm hE ?_; clear hE a; intro a hE); all_goals (refine wl hE rfl ?_; refine qm hE ?_; clear hE a; intro a hE); all_goals (refine wl hE rfl ?_; refine is_call 32 rfl ?_; refine qc hE (moved_s g0 gt b F n kp (keyM vid m) now u0 _ _ hS.fit hk (by omega) hnn) ?_; clear hE hS; clear a; rintro _ a w ⟨rfl, hS⟩ hE)) | (refine c_regI 17 ?_; all_goals (refine wl hE rfl ?_; refine qm hE ?_; clear hE a; intro a hE); all_goals (refine wl hE rfl ?_; refine qa hE ?_; clear hE a; intro a hE)) | refine c_seq ?_ | (refine rg_guard 6 ?_; refine rg_start [12, 8] hE hS ?_; clear hS; (try clear w); intro w hS hX; all_goals (first | (refine rg_y 0 hE hX (by exact y_move) ?_ rfl rfl rfl rfl; clear hE a; intro a hE)); all_goals (first | (refine rg_y 1 hE hX (by exact y_move) ?_ rfl rfl rfl rfl; clear hE a; intro a hE)); all_goals (first | (refine rg_y 2 hE hX (by first | exact y_fieldFF | exact y_field | exact y_fieldF) ?_ rfl rfl rfl rfl; clear hE a; intro a hE) | (refine rg_n 2 hE hX ?_ rfl rfl rfl rfl; clear hE a; intro a hE) | ((refine rg_split hE 39 rfl ?_ ?_) <;> (clear hE; intro hb hE; (first | replace hb := of_decide_eq_true hb | replace hb := of_decide_eq_false hb | (simp only [Bool.not_eq_true', Bool.not_eq_false', decide_eq_true_eq, decide_eq_false_iff_not] at hb) | skip); try (exfalso; first | omega | exact absurd trivial hb | exact absurd rfl hb | (simp only [beq_self_eq_true, bne_self_eq_false, reduceCtorEq] at hb; done))) <;> (first | (refine rg_y 2 hE hX (by first | exact y_fieldFF | exact y_field | exact y_fieldF) ?_ rfl rfl rfl rfl; clear hE a; intro a hE) | (refine rg_n 2 hE hX ?_ rfl rfl rfl rfl; clear hE a; intro a hE)))); all_goals (first | (refine rg_y 3 hE hX (by first | exact y_load | exact y_loadA) ?_ rfl rfl rfl rfl; clear hE a; intro a hE) | (refine rg_n 3 hE hX ?_ rfl rfl rfl rfl; clear hE a; intro a hE)); all_goals (first | (refine rg_y 4 hE hX (by first | exact y_load | exact y_loadA) ?_ rfl rfl rfl rfl; clear hE a; intro a hE) | (refine rg_n 4 hE hX ?_ rfl rfl rfl rfl; clear hE a; intro a hE)); all_goals (first | (refine rg_e 5 hE rfl rfl (by kernel_rfl) ?_; intro K hK; (first | ((refine is_call 29 rfl ?_; refine qc hE (val_s tk tn _ ht.1 ht.2 hn.1 hn.2) ?_; clear hE; clear a; rintro _ a w ⟨rfl, hS1⟩ hE; replace hS := hS.then hS1; clear hS1))); refine rg_k hK hS ?_; clear hK hX; clear K; intro hX) | (refine rg_es 5 hE hX rfl rfl rfl rfl (by kernel_rfl) ?_; clear hE a; intro a hE)); all_goals (first | (refine rg_y 6 hE hX (by first | exact y_bin | exact y_binE | exact y_binN | exact y_bin2 | exact y_pn) ?_ rfl rfl rfl rfl; clear hE a; intro a hE) | (refine rg_n 6 hE hX ?_ rfl rfl rfl rfl; clear hE a; intro a hE)); all_goals (first | (refine rg_y 7 hE hX (by first | exact y_pick_t | exact y_pick_f) ?_ rfl rfl rfl rfl; clear hE a; intro a hE)); all_goals (first | (refine rg_y 8 hE hX (by exact y_assign) ?_ rfl rfl rfl rfl; clear hE a; intro a hE)); all_goals (refine rg_done ?_ (by kernel_rfl); (try clear hX))) | (refine rg_guard 9 ?_; refine rg_start [0] hE hS ?_; clear hS; (try clear w); intro w hS hX; all_goals (first | (refine rg_y 0 hE hX (by exact y_move) ?_ rfl rfl rfl rfl; clear hE a; intro a hE)); all_goals (first | (refine rg_y 1 hE hX (by exact y_move) ?_ rfl rfl rfl rfl; clear hE a; intro a hE)); all_goals (first | (refine rg_y 2 hE hX (by exact y_move) ?_ rfl rfl rfl rfl; clear hE a; intro a hE) | (refine rg_n 2 hE hX ?_ rfl rfl rfl rfl; clear hE a; intro a hE) | ((refine rg_split hE 54 rfl ?_ ?_) <;> (clear hE; intro hb hE; (first | replace hb := of_decide_eq_true hb | replace hb := of_decide_eq_false hb | (simp only [Bool.not_eq_true', Bool.not_eq_false', decide_eq_true_eq, decide_eq_false_iff_not] at hb) | skip); try (exfalso; first | omega | exact absurd trivial hb | exact absurd rfl hb | (simp only [beq_self_eq_true, bne_self_eq_false, reduceCtorEq] at hb; done))) <;> (first | (refine rg_y 2 hE hX (by exact y_move) ?_ rfl rfl rfl rfl; clear hE a; intro a hE) | (refine rg_n 2 hE hX ?_ rfl rfl rfl rfl; clear hE a; intro a hE)))); all_goals (first | (refine rg_y 3 hE hX (by exact y_move) ?_ rfl rfl rfl rfl; clear hE a; intro a hE) | (refine rg_n 3 hE hX ?_ rfl rfl rfl rfl; clear hE a; intro a hE)); all_goals (first | (refine rg_y 4 hE hX (by exact y_move) ?_ rfl rfl rfl rfl; clear hE a; intro a hE) | (refine rg_n 4 hE hX ?_ rfl rfl rfl rfl; clear hE a; intro a hE)); all_goals (first | (refine rg_y 6 hE hX (by exact y_move) ?_ rfl rfl rfl rfl; clear hE a; intro a hE) | (refine rg_n 6 hE hX ?_ rfl rfl rfl rfl; clear hE a; intro a hE)); all_goals (first | (refine rg_y 7 hE hX (by exact y_nil) ?_ rfl rfl rfl rfl; clear hE a; intro a hE) | (refine rg_n 7 hE hX ?_ rfl rfl rfl rfl; clear hE a; intro a hE)); all_goals (first | (refine rg_y 8 hE hX (by first | exact y_fieldFF | exact y_field | exact y_fieldF) ?_ rfl rfl rfl rfl; clear hE a; intro a hE) | (refine rg_n 8 hE hX ?_ rfl rfl rfl rfl; clear hE a; intro a hE)); all_goals (first | (refine rg_y 9 hE hX (by first | exact y_fieldFF | exact y_field | exact y_fieldF) ?_ rfl rfl rfl rfl; clear hE a; intro a hE) | (refine rg_n 9 hE hX ?_ rfl rfl rfl rfl; clear hE a; intro a hE)); all_goals (first | (refine rg_y 10 hE hX (by first | exact y_load | exact y_loadA) ?_ rfl rfl rfl rfl; clear hE a; intro a hE) | (refine rg_n 10 hE hX ?_ rfl rfl rfl rfl; clear hE a; intro a hE)); all_goals (first | (refine rg_e 5 hE rfl rfl (by kernel_rfl) ?_; intro K hK; (first | ((refine is_call 30 rfl ?_; refine qc hE (counted_s g0 gt b F n kp (keyM vid m) now u0 _ _ hS.fit hk (okT_of (hgo2 rfl)) (hI.times _) (by omega)) ?_; clear hE hS; clear a; rintro _ a w ⟨rfl, hS⟩ hE))); refine rg_k hK hS ?_; clear hK hX; clear K; intro hX) | (refine rg_es 5 hE hX rfl rfl rfl rfl (by kernel_rfl) ?_; clear hE a; intro a hE)); all_goals (first | (refine rg_y 11 hE hX (by first | exact y_bin | exact y_binE | exact y_binN | exact y_bin2 | exact y_pn) ?_ rfl rfl rfl rfl; clear hE a; intro a hE) | (refine rg_n 11 hE hX ?_ rfl rfl rfl rfl; clear hE a; intro a hE)); all_goals (first | (refine rg_y 12 hE hX (by first | exact y_pick_t | exact y_pick_f) ?_ rfl rfl rfl rfl; clear hE a; intro a hE)); all_goals (first | (refine rg_y 13 hE hX (by exact y_assign) ?_ rfl rfl rfl rfl; clear hE a; intro a hE)); all_goals (refine rg_done ?_ (by kernel_rfl); (try clear hX))) | (refine rg_guard 13 ?_; refine rg_start [0, 8] hE hS ?_; clear hS; (try clear w); intro w hS hX; all_goals (first | (refine rg_y 0 hE hX (by exact y_move) ?_ rfl rfl rfl rfl; clear hE a; intro a hE)); all_goals (first | (refine rg_y 1 hE hX (by exact y_nil) ?_ rfl rfl rfl rfl; clear hE a; intro a hE)); all_goals (first | (refine rg_y 2 hE hX (by first | exact y_fieldFF | exact y_field | exact y_fieldF) ?_ rfl rfl rfl rfl; clear hE a; intro a hE)); all_goals (first | (refine rg_y 3 hE hX (by first | exact y_load | exact y_loadA) ?_ rfl rfl rfl rfl; clear hE a; intro a hE)); all_goals (first | (refine rg_y 4 hE hX (by exact y_move) ?_ rfl rfl rfl rfl; clear hE a; intro a hE)); all_goals (first | (refine rg_y 5 hE hX (by first | exact y_load | exact y_loadA) ?_ rfl rfl rfl rfl; clear hE a; intro a hE)); all_goals (first | (refine rg_y 7 hE hX (by exact y_move) ?_ rfl rfl rfl rfl; clear hE a; intro a hE)); all_goals (first | (refine rg_e 6 hE rfl rfl (by kernel_rfl) ?_; intro K hK; (first | ((refine is_call 29 rfl ?_; refine qc hE (val_s tk tn _ ht.1 ht.2 hn.1 hn.2) ?_; clear hE; clear a; rintro _ a w ⟨rfl, hS1⟩ hE; replace hS := hS.then hS1; clear hS1))); refine rg_k hK hS ?_; clear hK hX; clear K; intro hX)); all_goals (first | (refine rg_e 8 hE rfl rfl (by kernel_rfl) ?_; intro K hK; (first | ((refine is_call 31 rfl ?_; refine qc hE (put_v gt S S2 c kp.room kp.life (keyM vid m) (valM tk tn) now u0 _ _ hp hI.inv hS.fit hI.room) ?_; clear hE hS; clear a; rintro _ a w ⟨rfl, hS⟩ hE))); refine rg_k hK hS ?_; clear hK hX; clear K; intro hX)); all_goals (first | (refine rg_y 9 hE hX (by first | exact y_bin | exact y_binE | exact y_binN | exact y_bin2 | exact y_pn) ?_ rfl rfl rfl rfl; clear hE a; intro a hE)); all_goals (refine rg_done ?_ (by kernel_rfl); (try clear hX))) | ((refine c_cond hE rfl ?_ ?_) <;> (intro hb; (first | replace hb := of_decide_eq_true hb | replace hb := of_decide_eq_false hb | (simp only [Bool.not_eq_true', Bool.not_eq_false', decide_eq_true_eq, decide_eq_false_iff_not] at hb) | skip); try (exfalso; first | omega | exact absurd trivial hb | exact absurd rfl hb | (simp only [beq_self_eq_true, bne_self_eq_false, reduceCtorEq] at hb; done)))))
  · have e : learnT kp S F vid m tk tn now = (0, S2, F) := by clear hE hS; simp [learnT, whatT, hg, hp, *]
    rw [e]
    exact p_ret hE rfl rfl ⟨_, rfl, rfl, n, by omega, hS2, Fd.in_ (gt := gt) (b := b) hS.fit⟩
  · have e : learnT kp S F vid m tk tn now = (2, S2, F) := by clear hE hS; simp [learnT, whatT, hg, hp, *]
    rw [e]
    exact p_ret hE rfl rfl ⟨_, rfl, rfl, n, by omega, hS2, Fd.in_ (gt := gt) (b := b) hS.fit⟩
  · have e : learnT kp S F vid m tk tn now = (0, S2, F) := by clear hE hS; simp [learnT, whatT, hg, hp, *]
    rw [e]
    exact p_ret hE rfl rfl ⟨_, rfl, rfl, n, by omega, hS2, Fd.in_ (gt := gt) (b := b) hS.fit⟩
  · have e : learnT kp S F vid m tk tn now = (1, S2, F) := by clear hE hS; simp [learnT, whatT, hg, hp, *]
    rw [e]
    exact p_ret hE rfl rfl ⟨_, rfl, rfl, n, by omega, hS2, Fd.in_ (gt := gt) (b := b) hS.fit⟩
  · have e : learnT kp S F vid m tk tn now = (0, S2, F) := by clear hE hS; simp [learnT, whatT, hg, hp, *]
    rw [e]
    exact p_ret hE rfl rfl ⟨_, rfl, rfl, n, by omega, hS2, Fd.in_ (gt := gt) (b := b) hS.fit⟩
  · have e : learnT kp S F vid m tk tn now = (2, S2, F) := by clear hE hS; simp [learnT, whatT, hg, hp, *]
    rw [e]
    exact p_ret hE rfl rfl ⟨_, rfl, rfl, n, by omega, hS2, Fd.in_ (gt := gt) (b := b) hS.fit⟩
  · have e : learnT kp S F vid m tk tn now = (4, S, F) := by clear hE hS; simp [learnT, whatT, hg, hp, *]
    rw [e]
    exact p_ret hE rfl rfl ⟨_, rfl, rfl, n, by omega, hI, Fd.in_ (gt := gt) (b := b) hS.fit⟩
  · have e : learnT kp S F vid m tk tn now = (0, S2, F) := by clear hE hS; simp [learnT, whatT, hg, hp, *]
    rw [e]
    exact p_ret hE rfl rfl ⟨_, rfl, rfl, n, by omega, hS2, Fd.in_ (gt := gt) (b := b) hS.fit⟩
  · have e : learnT kp S F vid m tk tn now = (3, S2, fadd F (keyM vid m) now) := by clear hE hS; simp [learnT, whatT, hg, hp, *]
    rw [e]
    exact p_ret hE rfl rfl ⟨_, rfl, rfl, n + 1, by omega, add_FdI hS2 (okT_of (hgo2 rfl)), Fd.in_ (gt := gt) (b := b) hS.fit⟩
end Go.Proofs.Ytbhddlllpgfgiaa

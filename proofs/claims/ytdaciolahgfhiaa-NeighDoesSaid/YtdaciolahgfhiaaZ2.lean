/- DERIVED. Texts A2, A3, A4, A5, A6, A7, A8, A9, A10, A11, A12, A13, F0, F1, F2, Sk, Ss, P1, P2, F15, P3, N0 of this session, put together by a program of it (merge.py). No condition. -/
import Derived.Laws.MakeOwn
import Derived.Lib.AppendStr
import Derived.Lib.UnsafeStr
import Derived.Lib.Builder
import Derived.Laws.BytesArg
import Derived.Laws.Concat
import Derived.Laws.Strings2
import Derived.Laws.Strings3
import Derived.Laws.Externs
import Derived.Test.YtdaciolahgfhiaaZ1
/- DERIVED. Layer 10: the binary search. No condition. -/
namespace Go.Proofs.Ytdaciolahgfhiaa
open Go.RowKit Go.Sx Go.Proofs.YtdaciolahgfhiaaTy
set_option linter.unusedVariables false
set_option linter.unusedSimpArgs false
set_option maxRecDepth 100000
attribute [local irreducible] Oper.wp Code.wp wpList wpAnyH Calls bodyPost Exit.then Exit.inBlock Code.rounds
set_option maxHeartbeats 1000000
theorem find1_s (b g : Nat) (x : En) (key : Int) (w0 : World) (hB : At w0 ⟨b, 0, none⟩ [.pointer (some ⟨g, 0, none⟩)]) (hF : At w0 ⟨g, 1, none⟩ [.func (.func 45) #[] #[]]) : Calls Try.prog 71 #[.agg x.cells.toArray, .int .u64 key, .pointer (some ⟨b, 0, none⟩)] w0 fun e w' => ∃ r, e = .returned r ∧ r = .int .i64 (cmpI x.k key) ∧ Sep w0 w' [] := by
  refine enter (args := [.agg x.cells.toArray, .int .u64 key, .pointer (some ⟨b, 0, none⟩)]) 14 Try.func71 rfl rfl rfl ?_
  intro a hE hS
  repeat' (first | refine wl_nil ?_ | refine then_n ?_ | refine c_ret ?_ | (refine c_regI 0 ?_; all_goals (refine wl hE rfl ?_; refine qbx hE hS ?_; clear hE hS; clear a; intro g a w hE hS); all_goals (refine wl hE rfl ?_; refine qa hE ?_; clear hE a; intro a hE)) | refine c_seq ?_ | (refine rg_guard 1 ?_; refine rg_start [2, 3] hE hS ?_; clear hS; (try clear w); intro w hS hX; all_goals (refine rg_y 0 hE hX (by exact y_load0 hB) ?_ rfl rfl rfl rfl; clear hE a; intro a hE); all_goals (refine rg_y 1 hE hX (by exact y_nil) ?_ rfl rfl rfl rfl; clear hE a; intro a hE); all_goals (refine rg_y 2 hE hX (by exact y_field) ?_ rfl rfl rfl rfl; clear hE a; intro a hE); all_goals (refine rg_y 3 hE hX (by exact y_load0 hF) ?_ rfl rfl rfl rfl; clear hE a; intro a hE); all_goals (refine rg_y 4 hE hX (by exact y_loadA) ?_ rfl rfl rfl rfl; clear hE a; intro a hE); all_goals (refine rg_y 6 hE hX (by exact y_move) ?_ rfl rfl rfl rfl; clear hE a; intro a hE); all_goals (refine rg_e 5 hE rfl rfl (by kernel_rfl) ?_; intro K hK; (refine qcF (vs := [.agg x.cells.toArray]) (cs := []) hE (key_s x _) ?_; clear hE; clear a; rintro _ a w ⟨rfl, hS1⟩ hE; replace hS := hS.then hS1; clear hS1); refine rg_k hK hS ?_; clear hK hX; clear K; intro hX); all_goals (refine rg_e 7 hE rfl rfl (by kernel_rfl) ?_; intro K hK; (refine is_call 72 rfl ?_; refine qc hE (cmp_s x.k key _) ?_; clear hE; clear a; rintro _ a w ⟨rfl, hS1⟩ hE; replace hS := hS.then hS1; clear hS1); refine rg_k hK hS ?_; clear hK hX; clear K; intro hX); all_goals (refine rg_y 8 hE hX (by exact y_assign) ?_ rfl rfl rfl rfl; clear hE a; intro a hE); all_goals (refine rg_done ?_ (by kernel_rfl); (try clear hX))))
  
  all_goals exact p_ret hE rfl rfl ⟨_, rfl, rfl, hS.clean⟩
theorem blk_At {w0 w : World} {L L' : List Asn} {g : Nat} {cs : List Value} {t : TypeId} (hS : Sep w0 w L) (hp : Pull (blk g cs t) L L' := by repeat (first | exact Pull.here | apply Pull.there)) : At w ⟨g, 0, none⟩ cs := fun j v hj => by
  have h := hS.blk_at hp
  have hadd : (⟨g, 0, none⟩ : Addr).add j = ⟨g, j, none⟩ := by unfold Addr.add; split <;> simp_all
  rw [hadd, cell_of_row w g j cs.toArray t (0, 0) h]
  simpa using hj
/-- Where a key is, or would be. -/
def At1 (l : List En) (key : Int) (i : Int) : Prop := 0 ≤ i ∧ i ≤ l.length ∧ (∀ j : Nat, (j : Int) < i → (l.getD j E0).k < key) ∧ (∀ j : Nat, i ≤ (j : Int) → j < l.length → key ≤ (l.getD j E0).k)
def Rising (l : List En) : Prop := l.Pairwise fun x y => x.k < y.k
theorem Rising.lt {l : List En} (h : Rising l) {i j : Nat} (hij : i < j) (hj : j < l.length) : (l.getD i E0).k < (l.getD j E0).k := by
  have := List.pairwise_iff_getElem.1 h i j (by omega) hj hij
  simpa [show i < l.length by omega, hj] using this
theorem bs_lo {l : List En} (h : Rising l) {key : Int} {i m : Int} (hm0 : 0 ≤ m) (hm : m < l.length) (hx : (l.getD m.toNat E0).k < key) : ∀ j : Nat, (j : Int) < m + 1 → (l.getD j E0).k < key := by
  intro j hj
  rcases Nat.lt_or_ge j m.toNat with h1 | h1
  · have := h.lt h1 (by omega); omega
  · rw [show j = m.toNat by omega]; exact hx
theorem bs_hi {l : List En} (h : Rising l) {key : Int} {m : Int} (hm0 : 0 ≤ m) (hm : m < l.length) (hx : ¬ (l.getD m.toNat E0).k < key) : ∀ j : Nat, m ≤ (j : Int) → j < l.length → key ≤ (l.getD j E0).k := by
  intro j hj hl
  rcases Nat.lt_or_ge m.toNat j with h1 | h1
  · have := h.lt h1 hl; omega
  · rw [show j = m.toNat by omega]; omega
theorem cmp_neg {x y : Int} : cmpI x y < 0 ↔ x < y := by unfold cmpI; split <;> (try split) <;> omega
theorem cmp_zero {x y : Int} : cmpI x y = 0 ↔ x = y := by unfold cmpI; split <;> (try split) <;> omega
theorem wrap_u {i : Int} (h0 : 0 ≤ i) (h1 : i ≤ 9223372036854775807) : IntKind.u64.wrap i = i := by
  unfold IntKind.wrap
  simp [IntKind.bits, IntKind.signed]
  omega
theorem half_w {i j : Int} (h0 : 0 ≤ i) (h1 : 0 ≤ j) (h2 : i ≤ 4611686018427387903) (h3 : j ≤ 4611686018427387903) : IntKind.i64.wrap ((IntKind.u64.wrap (i + j)).fdiv (2 ^ min (Int.toNat 1) IntKind.u64.bits)) = (i + j) / 2 := by
  have e : min (Int.toNat 1) IntKind.u64.bits = 1 := by decide
  rw [wrap_u (by omega) (by omega), e, Int.fdiv_eq_ediv_of_nonneg _ (by decide)]
  exact wrap_in (by omega) (by omega)
theorem bs_s (A : Option Addr) (c b g : Nat) (l : List En) (key : Int) (w0 : World) (hR : Rd w0 A (l.flatMap En.cells)) (hl : l.length ≤ 1073741824) (hs : Rising l) (hB : At w0 ⟨b, 0, none⟩ [.pointer (some ⟨g, 0, none⟩)]) (hF : At w0 ⟨g, 1, none⟩ [.func (.func 45) #[] #[]]) :
    Calls Try.prog 70 #[.slice A l.length c, .int .u64 key, .func (.func 71) #[] #[.pointer (some ⟨b, 0, none⟩)]] w0 fun e w' => ∃ r, e = .returned r ∧ (∃ i : Int, r = .tuple #[.int .i64 i, .bool (decide (i < l.length ∧ (l.getD i.toNat E0).k = key))] ∧ At1 l key i) ∧ Sep w0 w' [] := by
  have hA : (0 : Int) < l.length → A = some (adr A) := fun h => hR.some (by rw [flat_len elen]; omega)
  have hT := hR.at_
  refine enter (args := [.slice A l.length c, .int .u64 key, .func (.func 71) #[] #[.pointer (some ⟨b, 0, none⟩)]]) 49 Try.func70 rfl rfl rfl ?_
  intro a hE hS
  repeat' (first | refine wl_nil ?_ | refine then_n ?_ | refine c_block ?_ | (refine c_regI 0 ?_; all_goals (refine wl hE rfl ?_; refine qa hE ?_; clear hE a; intro a hE); all_goals (refine wl hE rfl ?_; refine qa hE ?_; clear hE a; intro a hE)) | (refine c_regI 1 ?_; all_goals (refine wl hE rfl ?_; refine qm hE ?_; clear hE a; intro a hE); all_goals (refine wl hE rfl ?_; refine qn1 hE ?_; clear hE a; intro a hE); all_goals (refine wl hE rfl ?_; refine qa hE ?_; clear hE a; intro a hE)) | (refine c_regI 2 ?_; all_goals (refine wl hE rfl ?_; refine qm hE ?_; clear hE a; intro a hE); all_goals (refine wl hE rfl ?_; refine qa hE ?_; clear hE a; intro a hE); all_goals (refine wl hE rfl ?_; refine qa hE ?_; clear hE a; intro a hE)) | refine c_seq ?_)
  refine c_loopN (fun m a w => ∃ i j : Int, 0 ≤ i ∧ i ≤ j ∧ j ≤ l.length ∧ m = (j - i).toNat ∧ (∀ k : Nat, (k : Int) < i → (l.getD k E0).k < key) ∧ (∀ k : Nat, j ≤ (k : Int) → k < l.length → key ≤ (l.getD k E0).k) ∧ Env a 49 [(0, .slice A l.length c), (1, .int .u64 key), (2, .func (.func 71) #[] #[.pointer (some ⟨b, 0, none⟩)]), (8, .int .i64 l.length), (9, .int .i64 i), (10, .int .i64 j)] ∧ Sep w0 w []) _ ⟨0, l.length, by omega, by omega, by omega, rfl, fun k h => by omega, fun k h h2 => by omega, hE.cut ⟨rfl, rfl, rfl, rfl, rfl, rfl, trivial⟩, hS⟩ ?_
  clear hE hS a
  rintro m a w ⟨i, j, h0, h1, h2, rfl, hlo, hhi, hE, hS⟩

  repeat' (first | refine wl_nil ?_ | refine then_n ?_ | refine c_block ?_ | refine c_skip ?_ | refine c_exit ?_ | refine c_ret ?_ | refine then_e ?_ | refine inb_n ?_ | refine inb_e ?_ | (refine c_midq (id := 4) (I := fun a w => Env a 49 [(0, .slice A l.length c), (1, .int .u64 key), (2, .func (.func 71) #[] #[.pointer (some ⟨b, 0, none⟩)]), (8, .int .i64 l.length), (9, .int .i64 i), (10, .int .i64 j), (11, .int .i64 ((i + j) / 2))] ∧ Sep w0 w []) ?_ ?_; rotate_left; clear hE hS; clear a w; rintro a w ⟨hE, hS⟩; skip) | (refine c_regI 3 ?_; all_goals (refine wl hE rfl ?_; refine qm hE ?_; clear hE a; intro a hE); all_goals (refine wl hE rfl ?_; refine qm hE ?_; clear hE a; intro a hE); all_goals (refine wl hE rfl ?_; refine qb hE ?_; clear hE a; intro a hE)) | (refine c_regI 4 ?_; all_goals (refine wl hE rfl ?_; refine qm hE ?_; clear hE a; intro a hE); all_goals (refine wl hE rfl ?_; refine qm hE ?_; clear hE a; intro a hE); all_goals (refine wl hE rfl ?_; refine qb hE ?_; clear hE a; intro a hE); all_goals (refine wl hE rfl ?_; refine qcv hE ?_; clear hE a; intro a hE); all_goals (refine wl hE rfl ?_; refine qb2 hE ?_; clear hE a; intro a hE); all_goals (refine wl hE rfl ?_; refine qcv hE ?_; clear hE a; intro a hE); all_goals (refine wl hE rfl ?_; refine qa hE ?_; clear hE a; intro a hE)) | (refine c_regI 5 ?_; all_goals (refine wl hE rfl ?_; refine qm hE ?_; clear hE a; intro a hE); all_goals (refine wl hE rfl ?_; refine qm hE ?_; clear hE a; intro a hE); all_goals (refine wl hE rfl ?_; refine qm hE ?_; clear hE a; intro a hE); all_goals (refine wl hE rfl ?_; refine qi hE hA ?_; clear hE a; intro a hE); all_goals (refine wl hE rfl ?_; refine qLs (i := (i + j) / 2) (us := _) (df := E0) hE hS elen hT rfl ?_; clear hE a; intro a hE); all_goals (refine wl hE rfl ?_; refine qm hE ?_; clear hE a; intro a hE); all_goals (refine wl hE rfl ?_; refine qcF (vs := [.agg (l.getD ((i + j) / 2).toNat E0).cells.toArray, .int .u64 key]) hE (find1_s b g _ key _ (hB.move hS) (hF.move hS)) ?_; clear hE; clear a; rintro _ a w ⟨rfl, hS1⟩ hE; replace hS := hS.then hS1; clear hS1); all_goals (refine wl hE rfl ?_; refine qb hE ?_; clear hE a; intro a hE)) | (refine c_regI 6 ?_; all_goals (refine wl hE rfl ?_; refine qm hE ?_; clear hE a; intro a hE); all_goals (refine wl hE rfl ?_; refine qb hE ?_; clear hE a; intro a hE); all_goals (refine wl hE rfl ?_; refine qa hE ?_; clear hE a; intro a hE)) | (refine c_regI 7 ?_; all_goals (refine wl hE rfl ?_; refine qm hE ?_; clear hE a; intro a hE); all_goals (refine wl hE rfl ?_; refine qa hE ?_; clear hE a; intro a hE)) | (refine c_regI 8 ?_; all_goals (refine wl hE rfl ?_; refine qm hE ?_; clear hE a; intro a hE); all_goals (refine wl hE rfl ?_; refine qm hE ?_; clear hE a; intro a hE); all_goals (refine wl hE rfl ?_; refine qm hE ?_; clear hE a; intro a hE); all_goals (refine wl hE rfl ?_; refine qb hE ?_; clear hE a; intro a hE); all_goals (refine wl hE rfl ?_; refine qm hE ?_; clear hE a; intro a hE); all_goals ((refine wl_splitg hE rfl rfl ?_ ?_) <;> (clear hE; intro hb hE; (first | replace hb := of_decide_eq_true hb | replace hb := of_decide_eq_false hb | (simp only [Bool.not_eq_true', Bool.not_eq_false', decide_eq_true_eq, decide_eq_false_iff_not] at hb) | skip); try (exfalso; first | omega | exact absurd trivial hb | exact absurd rfl hb | (simp only [beq_self_eq_true, bne_self_eq_false, reduceCtorEq] at hb; done))) <;> (first | (refine wl hE rfl ?_; refine qm hE ?_; clear hE a; intro a hE) | (refine wl_skip hE rfl rfl rfl ?_; clear hE a; intro a hE))); all_goals (first | (refine wl hE rfl ?_; refine qm hE ?_; clear hE a; intro a hE) | (refine wl_skip hE rfl rfl rfl ?_; clear hE a; intro a hE)); all_goals (first | (refine wl hE rfl ?_; refine qm hE ?_; clear hE a; intro a hE) | (refine wl_skip hE rfl rfl rfl ?_; clear hE a; intro a hE)); all_goals (first | (refine wl hE rfl ?_; refine qi hE hA ?_; clear hE a; intro a hE) | (refine wl_skip hE rfl rfl rfl ?_; clear hE a; intro a hE)); all_goals (first | (refine wl hE rfl ?_; refine qLs (i := i) (us := _) (df := E0) hE hS elen hT rfl ?_; clear hE a; intro a hE) | (refine wl_skip hE rfl rfl rfl ?_; clear hE a; intro a hE)); all_goals (first | (refine wl hE rfl ?_; refine qm hE ?_; clear hE a; intro a hE) | (refine wl_skip hE rfl rfl rfl ?_; clear hE a; intro a hE)); all_goals (first | (refine wl hE rfl ?_; refine qcF (vs := [.agg (l.getD i.toNat E0).cells.toArray, .int .u64 key]) hE (find1_s b g _ key _ (hB.move hS) (hF.move hS)) ?_; clear hE; clear a; rintro _ a w ⟨rfl, hS1⟩ hE; replace hS := hS.then hS1; clear hS1) | (refine wl_skip hE rfl rfl rfl ?_; clear hE a; intro a hE)); all_goals (first | (refine wl hE rfl ?_; refine qb hE ?_; clear hE a; intro a hE) | (refine wl_skip hE rfl rfl rfl ?_; clear hE a; intro a hE)); all_goals (refine wl hE rfl ?_; first | (refine qpt hE ?_; clear hE a; intro a hE) | (refine qpf hE ?_; clear hE a; intro a hE)); all_goals (refine wl hE rfl ?_; refine qa hE ?_; clear hE a; intro a hE); all_goals (refine wl hE rfl ?_; refine qa hE ?_; clear hE a; intro a hE)) | refine c_seq ?_ | ((refine c_cond hE rfl ?_ ?_) <;> (intro hb; (first | replace hb := of_decide_eq_true hb | replace hb := of_decide_eq_false hb | (simp only [Bool.not_eq_true', Bool.not_eq_false', decide_eq_true_eq, decide_eq_false_iff_not] at hb) | skip); try (exfalso; first | omega | exact absurd trivial hb | exact absurd rfl hb | (simp only [beq_self_eq_true, bne_self_eq_false, reduceCtorEq] at hb; done)))))
  · have hb1 := cmp_neg.1 hb
    have hlt : i < j := by assumption
    obtain ⟨q, hq⟩ : ∃ q, q = (i + j) / 2 := ⟨_, rfl⟩
    rw [← hq] at hE hb1
    exact ⟨_, by omega, q + 1, j, by omega, by omega, by omega, rfl, bs_lo (i := i) hs (by omega) (by omega) hb1, hhi, hE.cut ⟨rfl, rfl, rfl, rfl, rfl, rfl, trivial⟩, hS⟩
  · have hb1 := fun h => hb (cmp_neg.2 h)
    have hlt : i < j := by assumption
    obtain ⟨q, hq⟩ : ∃ q, q = (i + j) / 2 := ⟨_, rfl⟩
    rw [← hq] at hE hb1
    exact ⟨_, by omega, i, q, by omega, by omega, by omega, rfl, hlo, bs_hi hs (by omega) (by omega) hb1, hE.cut ⟨rfl, rfl, rfl, rfl, rfl, rfl, trivial⟩, hS⟩
  · rw [half_w (by omega) (by omega) (by omega) (by omega)] at hE
    exact ⟨hE.cut ⟨rfl, rfl, rfl, rfl, rfl, rfl, rfl, trivial⟩, hS⟩
  · have e : j = i := by omega
    subst e
    refine p_rets hE rfl (rt hE (rt hE .nil)) rfl ⟨_, rfl, ⟨j, ?_, by omega, by omega, hlo, hhi⟩, hS⟩
    have h2 : (j < (l.length : Int) ∧ (l.getD j.toNat E0).k = key) ↔ cmpI (l.getD j.toNat E0).k key = 0 := by rw [cmp_zero]; exact ⟨fun h => h.2, fun h => ⟨hb, h⟩⟩
    simp only [h2]
  · have e : j = i := by omega
    subst e
    refine p_rets hE rfl (rt hE (rt hE .nil)) rfl ⟨_, rfl, ⟨j, ?_, by omega, by omega, hlo, hhi⟩, hS⟩
    rw [decide_eq_false (fun h => hb h.1)]
theorem find_s (A : Option Addr) (c g : Nat) (l : List En) (key : Int) (w0 : World) (hT : At w0 ⟨g, 0, none⟩ [.slice A l.length c]) (hF : At w0 ⟨g, 1, none⟩ [.func (.func 45) #[] #[]]) (hR : Rd w0 A (l.flatMap En.cells)) (hl : l.length ≤ 1073741824) (hs : Rising l) :
    Calls Try.prog 48 #[.pointer (some ⟨g, 0, none⟩), .int .u64 key] w0 fun e w' => ∃ r, e = .returned r ∧ (∃ i : Int, r = .tuple #[.int .i64 i, .bool (decide (i < l.length ∧ (l.getD i.toNat E0).k = key))] ∧ At1 l key i) ∧ Sep w0 w' [] := by
  refine enter (args := [.pointer (some ⟨g, 0, none⟩), .int .u64 key]) 15 Try.func48 rfl rfl rfl ?_
  intro a hE hS
  obtain ⟨g0, hg0⟩ : ∃ g0, g0 = g := ⟨_, rfl⟩
  rw [← hg0] at hE hF hT
  repeat' (first | refine wl_nil ?_ | refine then_n ?_ | refine c_ret ?_ | (refine c_regI 0 ?_; all_goals (refine wl hE rfl ?_; refine qbx hE hS ?_; clear hE hS; clear a; intro g a w hE hS); all_goals (refine wl hE rfl ?_; refine qa hE ?_; clear hE a; intro a hE); all_goals (refine wl hE rfl ?_; refine qa hE ?_; clear hE a; intro a hE)) | (refine c_regI 1 ?_; all_goals (refine wl hE rfl ?_; refine ql hE hS ?_; clear hE a; intro a hE); all_goals (refine wl hE rfl ?_; refine qn hE ?_; clear hE a; intro a hE); all_goals (refine wl hE rfl ?_; refine qf hE ?_; clear hE a; intro a hE); all_goals (refine wl hE rfl ?_; refine q0 hE hS hT ?_; clear hE a; intro a hE); all_goals (refine wl hE rfl ?_; refine qm hE ?_; clear hE a; intro a hE); all_goals (refine wl hE rfl ?_; refine qmf2 hE ?_; clear hE; clear a; intro a hE); all_goals (refine wl hE rfl ?_; refine qc hE (bs_s A c g g0 l key _ (hR.move hS) hl hs (blk_At hS) (hF.move hS)) ?_; clear hE; clear a; rintro _ a w ⟨⟨i, rfl, hi⟩, hS1⟩ hE; replace hS := hS.then hS1; clear hS1); all_goals (refine wl hE rfl ?_; refine qe hE ?_; clear hE a; intro a hE); all_goals (refine wl hE rfl ?_; refine qe hE ?_; clear hE a; intro a hE); all_goals (refine wl hE rfl ?_; refine qa hE ?_; clear hE a; intro a hE); all_goals (refine wl hE rfl ?_; refine qa hE ?_; clear hE a; intro a hE)) | refine c_seq ?_)
  trace_state
  exact p_rets hE rfl (rt hE (rt hE .nil)) rfl ⟨_, rfl, ⟨i, rfl, hi⟩, hS.clean⟩
end Go.Proofs.Ytdaciolahgfhiaa
/- DERIVED. Layer 10: slices.Clone, slices.Insert of one. No condition. -/
namespace Go.Proofs.Ytdaciolahgfhiaa
open Go.RowKit Go.Sx Go.Proofs.YtdaciolahgfhiaaTy
set_option linter.unusedVariables false
set_option linter.unusedSimpArgs false
set_option maxRecDepth 100000
attribute [local irreducible] Oper.wp Code.wp wpList wpAnyH Calls bodyPost Exit.then Exit.inBlock Code.rounds
set_option maxHeartbeats 1000000
theorem clone_s (A : Option Addr) (c : Nat) (l : List En) (w0 : World) (hR : Rd w0 A (l.flatMap En.cells)) (hl : l.length ≤ 1073741824) (hc : l.length ≤ c) : Calls Try.prog 61 #[.slice A l.length c] w0 fun e w' => ∃ r, e = .returned r ∧ ∃ A' c', r = .slice A' l.length c' ∧ Sep w0 w' [row 80 4 (.slice A' l.length c') l.length (l.flatMap En.cells)] := by
  have hone := en_one l
  refine enter (args := [.slice A l.length c]) 8 Try.func61 rfl rfl rfl ?_
  intro a hE hS
  cases A with
  | none =>
    have h0 : l = [] := by
      cases l with
      | nil => rfl
      | cons x l => exact absurd (hR.some (by simp [En.cells])) (by simp [adr])
    subst h0
    repeat' (first | refine wl_nil ?_ | refine then_n ?_ | refine c_ret ?_ | refine then_r ?_ | refine c_cond_t hE rfl ?_ | (refine c_regI 0 ?_; all_goals (refine wl hE rfl ?_; refine qa hE ?_; clear hE a; intro a hE)) | (refine c_regI 1 ?_; all_goals (refine wl hE rfl ?_; refine qm hE ?_; clear hE a; intro a hE); all_goals (refine wl hE rfl ?_; refine qnil hE ?_; clear hE a; intro a hE)) | (refine c_regI 2 ?_; all_goals (refine wl hE rfl ?_; refine qa hE ?_; clear hE a; intro a hE)) | refine c_seq ?_)
    exact p_ret hE rfl rfl ⟨_, rfl, none, 0, rfl, hS.nil_row⟩
  | some b =>
    repeat' (first | refine wl_nil ?_ | refine then_n ?_ | refine c_skip ?_ | refine c_ret ?_ | refine c_cond_f hE rfl ?_ | (refine c_regI 0 ?_; all_goals (refine wl hE rfl ?_; refine qa hE ?_; clear hE a; intro a hE)) | (refine c_regI 1 ?_; all_goals (refine wl hE rfl ?_; refine qm hE ?_; clear hE a; intro a hE); all_goals (refine wl hE rfl ?_; refine qnil hE ?_; clear hE a; intro a hE)) | (refine c_regI 3 ?_; all_goals (refine wl hE rfl ?_; refine qbs0 hE hS ?_; clear hE hS; clear a; intro g a w hE hS); all_goals (refine wl hE rfl ?_; refine qm hE ?_; clear hE a; intro a hE); all_goals (refine wl hE rfl ?_; refine qap (N := l.length) (ys := l.flatMap En.cells) hE hS (hR.move hS) hone ?_ (hl := by rw [flat_len elen]); clear hE hS; clear a; intro A2 c2 a w hE hS); all_goals (refine wl hE rfl ?_; refine qa hE ?_; clear hE a; intro a hE)) | refine c_seq ?_)
    exact p_ret hE rfl rfl ⟨_, rfl, A2, c2, rfl, hS.only⟩
def insAt (l : List En) (i : Nat) (x : En) : List En := l.take i ++ [x] ++ l.drop i
theorem insAt_end (l : List En) (x : En) : insAt l l.length x = l ++ [x] := by simp [insAt]
theorem put_shift (l : List En) (i : Nat) (ys : List Value) (hi : i < l.length) (hy : ys.length = 1 * 4) : putL (l.flatMap En.cells ++ ys) ((i + 1) * 4) ((l.drop i).flatMap En.cells) = (l.take (i + 1) ++ l.drop i).flatMap En.cells := by
  have h1 : (l.flatMap En.cells).length = l.length * 4 := flat_len elen l
  have h2 : ((l.drop i).flatMap En.cells).length = (l.length - i) * 4 := by rw [flat_len elen, List.length_drop]
  have h3 : List.drop ((i + 1) * 4 + ((l.drop i).flatMap En.cells).length) (l.flatMap En.cells ++ ys) = [] := List.drop_eq_nil_of_le (by rw [List.length_append, h1, h2, hy]; omega)
  unfold putL
  rw [h3, List.take_append_of_le_length (by rw [h1]; omega), flat_take elen l (i + 1) hi, List.append_nil, List.flatMap_append]
theorem shift_src (l : List En) (i : Nat) (ys : List Value) (hi : i < l.length) : ((l.flatMap En.cells ++ ys).drop (i * 4)).take ((l.length - i) * 4) = (l.drop i).flatMap En.cells := by
  have h1 : (l.flatMap En.cells).length = l.length * 4 := flat_len elen l
  have h2 : ((l.drop i).flatMap En.cells).length = (l.length - i) * 4 := by rw [flat_len elen, List.length_drop]
  rw [List.drop_append_of_le_length (by rw [h1]; omega), flat_drop elen l i (by omega), ← h2, List.take_left]
theorem put_one (l : List En) (i : Nat) (x : En) (hi : i < l.length) : putL ((l.take (i + 1) ++ l.drop i).flatMap En.cells) (i * 4) x.cells = (insAt l i x).flatMap En.cells := by
  have e : l.take (i + 1) = l.take i ++ [l[i]] := List.take_succ_eq_append_getElem hi
  have := flat_put elen (l.take i) [l[i]] [x] (l.drop i) i (by rw [List.length_take]; omega) rfl
  rw [e]
  simpa [insAt] using this
theorem zeros_cells (k : Nat) : (List.replicate k [Value.int .u64 0, .int .u64 0, .int .i64 0, .bool false]).flatten = (List.replicate k E0).flatMap En.cells := by
  rw [List.flatMap_replicate]
  rfl
theorem put_new (l : List En) (i : Nat) (x : En) (hi : i < l.length) : putL ((l.flatMap En.cells).take (i * 4) ++ (List.replicate (l.length + 1 - i) [Value.int .u64 0, .int .u64 0, .int .i64 0, .bool false]).flatten) (i * 4) (x.cells.take (1 * 4)) = (l.take i ++ [x] ++ List.replicate (l.length - i) E0).flatMap En.cells := by
  have := flat_put elen (l.take i) [E0] [x] (List.replicate (l.length - i) E0) i (by rw [List.length_take]; omega) rfl
  rw [show l.take i ++ [E0] ++ List.replicate (l.length - i) E0 = l.take i ++ (E0 :: List.replicate (l.length - i) E0) by simp, show [x].flatMap En.cells = x.cells by simp] at this
  rw [zeros_cells, flat_take elen l i (by omega), show l.length + 1 - i = (l.length - i) + 1 by omega, List.replicate_succ, ← List.flatMap_append]
  exact this
theorem put_rest (l : List En) (i : Nat) (x : En) (hi : i < l.length) : putL ((l.take i ++ [x] ++ List.replicate (l.length - i) E0).flatMap En.cells) ((i + 1) * 4) (((l.flatMap En.cells).drop (i * 4)).take ((l.length - i) * 4)) = (insAt l i x).flatMap En.cells := by
  have := flat_put elen (l.take i ++ [x]) (List.replicate (l.length - i) E0) (l.drop i) [] (i + 1) (by simp; omega) (by simp)
  rw [List.append_nil, List.append_nil] at this
  have e : List.take ((l.length - i) * 4) ((l.drop i).flatMap En.cells) = (l.drop i).flatMap En.cells := List.take_of_length_le (by rw [flat_len elen, List.length_drop]; exact Nat.le_refl _)
  rw [flat_drop elen l i (by omega), e]
  exact this
/-- One put in at its place, in an owned row. -/
theorem insert_s (A : Option Addr) (c : Nat) (l : List En) (i : Nat) (x : En) (g1 c1 : Nat) (u0 w0 : World) (L : List Asn) (hi : i ≤ l.length) (hl : l.length ≤ 1073741822)
    (hS0 : Sep u0 w0 (row 80 4 (.slice (some ⟨g1, 0, none⟩) 1 c1) 1 x.cells :: row 80 4 (.slice A l.length c) l.length (l.flatMap En.cells) :: L)) :
    Calls Try.prog 76 #[.slice A l.length c, .int .i64 i, .slice (some ⟨g1, 0, none⟩) 1 c1] w0 fun e w' => ∃ r, e = .returned r ∧ ∃ A' c', r = .slice A' (l.length + 1) c' ∧ Sep u0 w' (row 80 4 (.slice A' (l.length + 1) c') (l.length + 1) ((insAt l i x).flatMap En.cells) :: L) := by
  refine enter (args := [.slice A l.length c, .int .i64 i, .slice (some ⟨g1, 0, none⟩) 1 c1]) 95 Try.func76 rfl rfl rfl ?_
  intro a hE _
  have hS := hS0
  clear hS0
  obtain ⟨hc1, hc2, _⟩ := hS.drop.row_cap
  have hAne : 0 < l.length → A ≠ none := fun h e => by
    subst e
    exact absurd ((Rd.row (A := none) (n := l.length) (c := c) (xs := l.flatMap En.cells) hS).some (by rw [flat_len elen]; omega)) (by simp [adr])
  have hx1 : ∀ u ∈ x.cells, u.oneCell' = true := fun u hu => en_one [x] u (by simpa using hu)
  revert hE
  revert hS
  generalize w0 = w
  intro hS hE
  repeat' (first | refine wl_nil ?_ | refine then_n ?_ | refine c_skip ?_ | refine c_ret ?_ | refine then_r ?_ | refine c_cond_t hE rfl ?_ | refine c_cond_f hE rfl ?_ | (refine c_regI 0 ?_; all_goals (refine wl hE rfl ?_; refine qa hE ?_; clear hE a; intro a hE)) | (refine c_regI 1 ?_; all_goals (refine wl hE rfl ?_; refine qm hE ?_; clear hE a; intro a hE); all_goals (refine wl hE rfl ?_; refine qm hE ?_; clear hE a; intro a hE); all_goals (refine wl hE rfl ?_; refine qsL i hE ?_; clear hE a; intro a hE)) | (refine c_regI 2 ?_; all_goals (refine wl hE rfl ?_; refine qm hE ?_; clear hE a; intro a hE); all_goals (refine wl hE rfl ?_; refine qn1 hE ?_; clear hE a; intro a hE); all_goals (refine wl hE rfl ?_; refine qa hE ?_; clear hE a; intro a hE)) | (refine c_regI 3 ?_; all_goals (refine wl hE rfl ?_; refine qm hE ?_; clear hE a; intro a hE); all_goals (refine wl hE rfl ?_; refine qb hE ?_; clear hE a; intro a hE)) | (refine c_regI 5 ?_; all_goals (refine wl hE rfl ?_; refine qm hE ?_; clear hE a; intro a hE); all_goals (refine wl hE rfl ?_; refine qn1 hE ?_; clear hE a; intro a hE); all_goals (refine wl hE rfl ?_; refine qa hE ?_; clear hE a; intro a hE)) | (refine c_regI 6 ?_; all_goals (refine wl hE rfl ?_; refine qm hE ?_; clear hE a; intro a hE); all_goals (refine wl hE rfl ?_; refine qm hE ?_; clear hE a; intro a hE); all_goals (refine wl hE rfl ?_; refine qb hE ?_; clear hE a; intro a hE)) | (refine c_regI 7 ?_; all_goals (refine wl hE rfl ?_; refine qm hE ?_; clear hE a; intro a hE); all_goals (refine wl hE rfl ?_; refine qm hE ?_; clear hE a; intro a hE); all_goals (refine wl hE rfl ?_; refine qap (A := A) (c := c) (xs := l.flatMap En.cells) (N := l.length + 1) hE hS (Rd.row (A := some ⟨g1, 0, none⟩) (n := 1) (c := c1) (xs := x.cells) hS) hx1 ?_; clear hE hS; clear a; intro A2 c2 a w hE hS); all_goals (refine wl hE rfl ?_; refine qa hE ?_; clear hE a; intro a hE)) | (refine c_regI 8 ?_; all_goals (refine wl hE rfl ?_; refine qm hE ?_; clear hE a; intro a hE); all_goals (refine wl hE rfl ?_; refine qm hE ?_; clear hE a; intro a hE); all_goals (refine wl hE rfl ?_; refine qb hE ?_; clear hE a; intro a hE); all_goals (refine wl hE rfl ?_; refine qm hE ?_; clear hE a; intro a hE); all_goals (refine wl hE rfl ?_; refine qcap hE ?_; clear hE a; intro a hE); all_goals (refine wl hE rfl ?_; refine qb hE ?_; clear hE a; intro a hE)) | (refine c_regI 9 ?_; all_goals (refine wl hE rfl ?_; refine qm hE ?_; clear hE a; intro a hE); all_goals (refine wl hE rfl ?_; refine qm hE ?_; clear hE a; intro a hE); all_goals (refine wl hE rfl ?_; refine qsh i hE ?_; clear hE; clear a; intro a hE); all_goals (refine wl hE rfl ?_; refine qm hE ?_; clear hE a; intro a hE); all_goals (refine wl hE rfl ?_; refine qm hE ?_; clear hE a; intro a hE); all_goals (refine wl hE rfl ?_; refine qb hE ?_; clear hE a; intro a hE); all_goals (refine wl hE rfl ?_; refine qm hE ?_; clear hE a; intro a hE); all_goals (refine wl hE rfl ?_; refine qb hE ?_; clear hE a; intro a hE); all_goals (refine wl hE rfl ?_; refine qapm (sz := 4) (cap := c) (v := (l.length : Int) + ((1 : Nat) : Int) - (i : Int)) (k := i) (l := l.length + 1 - i) (N := l.length + 1) hE hS ((Rd.row (A := A) (n := l.length) (c := c) (xs := l.flatMap En.cells) hS).take (i * 4)) ?_ (by rw [List.length_take, flat_len elen]; omega) (by omega) (by omega) (by omega) (by omega) (by omega); clear hE hS; clear a; intro g c3 a w hE hS; obtain ⟨hc3, _, _⟩ := hS.row_cap (n := l.length + 1) (c := c3)); all_goals (refine wl hE rfl ?_; refine qa hE ?_; clear hE a; intro a hE)) | (refine c_regI 10 ?_; all_goals (refine wl hE rfl ?_; refine qm hE ?_; clear hE a; intro a hE); all_goals (refine wl hE rfl ?_; refine qm hE ?_; clear hE a; intro a hE); all_goals (refine wl hE rfl ?_; refine qsL i hE ?_; clear hE a; intro a hE); all_goals (refine wl hE rfl ?_; refine qm hE ?_; clear hE a; intro a hE); all_goals (refine wl hE rfl ?_; refine qcp (sz := 4) (m := 1) (dl := l.length + 1 - i) i 1 (A := some ⟨g, 0, none⟩) (c := c3) (N := l.length + 1) hE hS (Rd.row (A := some ⟨g1, 0, none⟩) (n := 1) (c := c1) (xs := x.cells) hS) (fun u hu => hx1 u (List.mem_of_mem_take hu)) ?_ rfl (by decide) (by decide) (by omega) (by omega) (by omega) (put_new l i x (by omega)); clear hE hS; clear a; intro a w hE hS)) | (refine c_regI 12 ?_; all_goals (refine wl hE rfl ?_; refine qm hE ?_; clear hE a; intro a hE); all_goals (refine wl hE rfl ?_; refine qa hE ?_; clear hE a; intro a hE)) | (refine c_regI 13 ?_; all_goals (refine wl hE rfl ?_; refine qm hE ?_; clear hE a; intro a hE); all_goals (refine wl hE rfl ?_; refine qm hE ?_; clear hE a; intro a hE); all_goals (refine wl hE rfl ?_; refine qm hE ?_; clear hE a; intro a hE); all_goals (refine wl hE rfl ?_; refine qb hE ?_; clear hE a; intro a hE); all_goals (refine wl hE rfl ?_; refine qsh (l.length + 1) hE ?_; clear hE; clear a; intro a hE; obtain ⟨ys, hy, hS2⟩ := hS.row_ext (A := A) (n := l.length) (c := c) 1 (by omega) (hAne (by omega)); replace hS := hS2; clear hS2); all_goals (refine wl hE rfl ?_; refine qa hE ?_; clear hE a; intro a hE)) | (refine c_regI 14 ?_; all_goals (refine wl hE rfl ?_; refine qm hE ?_; clear hE a; intro a hE); all_goals (refine wl hE rfl ?_; refine qm hE ?_; clear hE a; intro a hE); all_goals (refine wl hE rfl ?_; refine qm hE ?_; clear hE a; intro a hE); all_goals (refine wl hE rfl ?_; refine qm hE ?_; clear hE a; intro a hE); all_goals (refine wl hE rfl ?_; refine qb hE ?_; clear hE a; intro a hE); all_goals (refine wl hE rfl ?_; refine qsL (i + 1) hE ?_; clear hE a; intro a hE); all_goals (refine wl hE rfl ?_; obtain ⟨q, hq⟩ := subA_some (i + 1) c 4 (hAne (by omega)); refine qov (p := ⟨g1, 0, none⟩) (q := q) hE (Sep.rows_apart (A := some ⟨g1, 0, none⟩) (B := A) (m := 1) (c := c1) (m2 := l.length + 1) (c2 := c) (e := 80) (e' := 80) (sz := 4) (sz' := 4) (xs := x.cells) (ys := l.flatMap En.cells ++ ys) (L := L) hS.fit (by omega) (i + 1) _ _ rfl hq) ?_ (hy := by rw [← hq]; rfl); clear hE; clear a; intro a hE); all_goals (refine wl hE rfl ?_; refine qu hE ?_; clear hE a; intro a hE)) | (refine c_regI 16 ?_; all_goals (refine wl hE rfl ?_; refine qm hE ?_; clear hE a; intro a hE); all_goals (refine wl hE rfl ?_; refine qm hE ?_; clear hE a; intro a hE); all_goals (refine wl hE rfl ?_; refine qsL i hE ?_; clear hE a; intro a hE); all_goals (refine wl hE rfl ?_; refine qm hE ?_; clear hE a; intro a hE); all_goals (refine wl hE rfl ?_; refine qcp (sz := 4) (m := 1) (dl := l.length + 1 - i) i 1 (A := A) (c := c) (N := l.length + 1) (xs := (l.take (i + 1) ++ l.drop i).flatMap En.cells) hE hS (Rd.row (A := some ⟨g1, 0, none⟩) (n := 1) (c := c1) (xs := x.cells) hS) (fun u hu => hx1 u (List.mem_of_mem_take hu)) ?_ rfl (by decide) (by decide) (by omega) (by omega) (by omega) (put_one l i x (by omega)); clear hE hS; clear a; intro a w hE hS)) | (refine c_regI 17 ?_; all_goals (refine wl hE rfl ?_; refine qm hE ?_; clear hE a; intro a hE); all_goals (refine wl hE rfl ?_; refine qa hE ?_; clear hE a; intro a hE)) | refine c_seq ?_ | (refine rg_guard 11 ?_; refine rg_start [] hE hS ?_; clear hS; (try clear w); intro w hS hX; all_goals (refine rg_y 0 hE hX (by exact y_move) ?_ rfl rfl rfl rfl; clear hE a; intro a hE); all_goals (refine rg_y 1 hE hX (by exact y_move) ?_ rfl rfl rfl rfl; clear hE a; intro a hE); all_goals (refine rg_y 2 hE hX (by exact y_move) ?_ rfl rfl rfl rfl; clear hE a; intro a hE); all_goals (refine rg_y 3 hE hX (by exact y_bin) ?_ rfl rfl rfl rfl; clear hE a; intro a hE); all_goals (refine rg_y 5 hE hX (by exact y_move) ?_ rfl rfl rfl rfl; clear hE a; intro a hE); all_goals (refine rg_y 6 hE hX (by exact y_move) ?_ rfl rfl rfl rfl; clear hE a; intro a hE); all_goals ((refine rg_e2 4 7 (by kernel_rfl) ?_ ?_) <;> first | (intro K hK; refine rg_op (i := 4) hE rfl rfl ?_; (refine qsL (i + 1) hE ?_; clear hE a; intro a hE); refine rg_k hK hS ?_; clear hK hX; clear K; intro hX; all_goals (refine rg_e 7 hE rfl rfl (by kernel_rfl) ?_; intro K hK; (refine qsL i hE ?_; clear hE a; intro a hE); refine rg_k hK hS ?_; clear hK hX; clear K; intro hX); all_goals (refine rg_e 8 hE rfl rfl (by kernel_rfl) ?_; intro K hK; (refine qcp (sz := 4) (m := l.length - i) (dl := l.length + 1 - (i + 1)) (i + 1) (l.length - i) (A := some ⟨g, 0, none⟩) (c := c3) (N := l.length + 1) hE hS ((Rd.row (A := A) (n := l.length) (c := c) (xs := l.flatMap En.cells) hS).sub (flat_len elen l) i hi hc1) (fun u hu => en_one l u (List.mem_of_mem_drop (List.mem_of_mem_take hu))) ?_ (by rw [List.length_drop, flat_len elen, Nat.sub_mul]) (by decide) (by omega) (by omega) (by omega) (by omega) (put_rest l i x (by omega)); clear hE hS; clear a; intro a w hE hS); refine rg_k hK hS ?_; clear hK hX; clear K; intro hX); all_goals (refine rg_done ?_ (by kernel_rfl); (try clear hX))) | (intro K hK; refine rg_op (i := 7) hE rfl rfl ?_; (refine qsL i hE ?_; clear hE a; intro a hE); refine rg_k hK hS ?_; clear hK hX; clear K; intro hX; all_goals (refine rg_e 4 hE rfl rfl (by kernel_rfl) ?_; intro K hK; (refine qsL (i + 1) hE ?_; clear hE a; intro a hE); refine rg_k hK hS ?_; clear hK hX; clear K; intro hX); all_goals (refine rg_e 8 hE rfl rfl (by kernel_rfl) ?_; intro K hK; (refine qcp (sz := 4) (m := l.length - i) (dl := l.length + 1 - (i + 1)) (i + 1) (l.length - i) (A := some ⟨g, 0, none⟩) (c := c3) (N := l.length + 1) hE hS ((Rd.row (A := A) (n := l.length) (c := c) (xs := l.flatMap En.cells) hS).sub (flat_len elen l) i hi hc1) (fun u hu => en_one l u (List.mem_of_mem_drop (List.mem_of_mem_take hu))) ?_ (by rw [List.length_drop, flat_len elen, Nat.sub_mul]) (by decide) (by omega) (by omega) (by omega) (by omega) (put_rest l i x (by omega)); clear hE hS; clear a; intro a w hE hS); refine rg_k hK hS ?_; clear hK hX; clear K; intro hX); all_goals (refine rg_done ?_ (by kernel_rfl); (try clear hX))))) | (refine rg_guard 15 ?_; refine rg_start [] hE hS ?_; clear hS; (try clear w); intro w hS hX; all_goals (refine rg_y 0 hE hX (by exact y_move) ?_ rfl rfl rfl rfl; clear hE a; intro a hE); all_goals (refine rg_y 1 hE hX (by exact y_move) ?_ rfl rfl rfl rfl; clear hE a; intro a hE); all_goals (refine rg_y 2 hE hX (by exact y_move) ?_ rfl rfl rfl rfl; clear hE a; intro a hE); all_goals (refine rg_y 3 hE hX (by exact y_bin) ?_ rfl rfl rfl rfl; clear hE a; intro a hE); all_goals (refine rg_y 5 hE hX (by exact y_move) ?_ rfl rfl rfl rfl; clear hE a; intro a hE); all_goals (refine rg_y 6 hE hX (by exact y_move) ?_ rfl rfl rfl rfl; clear hE a; intro a hE); all_goals ((refine rg_e2 4 7 (by kernel_rfl) ?_ ?_) <;> first | (intro K hK; refine rg_op (i := 4) hE rfl rfl ?_; (refine qsL (i + 1) hE ?_; clear hE a; intro a hE); refine rg_k hK hS ?_; clear hK hX; clear K; intro hX; all_goals (refine rg_e 7 hE rfl rfl (by kernel_rfl) ?_; intro K hK; (refine qsL i hE ?_; clear hE a; intro a hE); refine rg_k hK hS ?_; clear hK hX; clear K; intro hX); all_goals (refine rg_e 8 hE rfl rfl (by kernel_rfl) ?_; intro K hK; (refine qcp (sz := 4) (m := l.length + 1 - i) (dl := l.length + 1 - (i + 1)) (i + 1) (l.length - i) (A := A) (c := c) (N := l.length + 1) (ys := (l.take (i + 1) ++ l.drop i).flatMap En.cells) hE hS ((Rd.row (A := A) (n := l.length + 1) (c := c) (xs := l.flatMap En.cells ++ ys) hS).sub (n := l.length + 1) (cap := c) (by rw [List.length_append, flat_len elen, hy, Nat.add_mul]) i (by omega) (by omega)) (fun u hu => en_one (l.drop i) u (by rw [shift_src l i ys (by omega)] at hu; exact hu)) ?_ (by rw [List.length_drop, List.length_append, flat_len elen, hy]; omega) (by decide) (by omega) (by omega) (by omega) (by omega) (by rw [shift_src l i ys (by omega)]; exact put_shift l i ys (by omega) hy); clear hE hS; clear a; intro a w hE hS); refine rg_k hK hS ?_; clear hK hX; clear K; intro hX); all_goals (refine rg_done ?_ (by kernel_rfl); (try clear hX))) | (intro K hK; refine rg_op (i := 7) hE rfl rfl ?_; (refine qsL i hE ?_; clear hE a; intro a hE); refine rg_k hK hS ?_; clear hK hX; clear K; intro hX; all_goals (refine rg_e 4 hE rfl rfl (by kernel_rfl) ?_; intro K hK; (refine qsL (i + 1) hE ?_; clear hE a; intro a hE); refine rg_k hK hS ?_; clear hK hX; clear K; intro hX); all_goals (refine rg_e 8 hE rfl rfl (by kernel_rfl) ?_; intro K hK; (refine qcp (sz := 4) (m := l.length + 1 - i) (dl := l.length + 1 - (i + 1)) (i + 1) (l.length - i) (A := A) (c := c) (N := l.length + 1) (ys := (l.take (i + 1) ++ l.drop i).flatMap En.cells) hE hS ((Rd.row (A := A) (n := l.length + 1) (c := c) (xs := l.flatMap En.cells ++ ys) hS).sub (n := l.length + 1) (cap := c) (by rw [List.length_append, flat_len elen, hy, Nat.add_mul]) i (by omega) (by omega)) (fun u hu => en_one (l.drop i) u (by rw [shift_src l i ys (by omega)] at hu; exact hu)) ?_ (by rw [List.length_drop, List.length_append, flat_len elen, hy]; omega) (by decide) (by omega) (by omega) (by omega) (by omega) (by rw [shift_src l i ys (by omega)]; exact put_shift l i ys (by omega) hy); clear hE hS; clear a; intro a w hE hS); refine rg_k hK hS ?_; clear hK hX; clear K; intro hX); all_goals (refine rg_done ?_ (by kernel_rfl); (try clear hX))))) | ((refine c_cond hE rfl ?_ ?_) <;> (intro hb; (first | replace hb := of_decide_eq_true hb | replace hb := of_decide_eq_false hb | (simp only [Bool.not_eq_true', Bool.not_eq_false', decide_eq_true_eq, decide_eq_false_iff_not] at hb) | skip); try (exfalso; first | omega | exact absurd trivial hb | exact absurd rfl hb | (simp only [beq_self_eq_true, bne_self_eq_false, reduceCtorEq] at hb; done)))))
  · have e : l.flatMap En.cells ++ x.cells = (insAt l i x).flatMap En.cells := by
      rw [show i = l.length by omega, insAt_end, List.flatMap_append]
      simp
    rw [e] at hS
    exact p_ret hE rfl rfl ⟨_, rfl, _, _, rfl, hS.fit⟩
  all_goals try exact p_ret hE rfl rfl ⟨_, rfl, _, _, rfl, hS.fit⟩
end Go.Proofs.Ytdaciolahgfhiaa
/- DERIVED. Layer 10: a table's heap; one put in. No condition. -/
namespace Go.Proofs.Ytdaciolahgfhiaa
open Go.RowKit Go.Sx Go.Proofs.YtdaciolahgfhiaaTy
set_option linter.unusedVariables false
set_option linter.unusedSimpArgs false
set_option maxRecDepth 100000
attribute [local irreducible] Oper.wp Code.wp wpList wpAnyH Calls bodyPost Exit.then Exit.inBlock Code.rounds
set_option maxHeartbeats 1000000
/-- What a table owns: its block, and its row. -/
def Ag (g : Nat) (l : List En) (room life : Int) : Asn := ex fun (p : Option Addr × Nat) => stars [blk g [.slice p.1 l.length p.2, .func (.func 45) #[] #[], .int .i64 room, .int .i64 life] 101, row 80 4 (.slice p.1 l.length p.2) l.length (l.flatMap En.cells)]
theorem Ag.out {g : Nat} {l : List En} {room life : Int} {w0 w : World} {L L' : List Asn} (hS : Sep w0 w L) (hp : Pull (Ag g l room life) L L' := by repeat (first | exact Pull.here | apply Pull.there)) : ∃ A c, Sep w0 w (blk g [.slice A l.length c, .func (.func 45) #[] #[], .int .i64 room, .int .i64 life] 101 :: row 80 4 (.slice A l.length c) l.length (l.flatMap En.cells) :: L') := by
  obtain ⟨⟨A, c⟩, h⟩ := hS.out_ex hp
  exact ⟨A, c, h.out_stars Pull.here⟩
theorem Ag.in_ {g : Nat} {l : List En} {room life : Int} {A : Option Addr} {c : Nat} {w0 w : World} {L : List Asn} (hS : Sep w0 w (blk g [.slice A l.length c, .func (.func 45) #[] #[], .int .i64 room, .int .i64 life] 101 :: row 80 4 (.slice A l.length c) l.length (l.flatMap En.cells) :: L)) : Sep w0 w (Ag g l room life :: L) :=
  Sep.in_ex (f := fun (p : Option Addr × Nat) => stars [blk g [.slice p.1 l.length p.2, .func (.func 45) #[] #[], .int .i64 room, .int .i64 life] 101, row 80 4 (.slice p.1 l.length p.2) l.length (l.flatMap En.cells)]) (A, c) (Sep.in_stars (M := [_, _]) hS)
theorem At.tail {w : World} {g o : Nat} {x : Value} {xs : List Value} (h : At w ⟨g, o, none⟩ (x :: xs)) : At w ⟨g, o + 1, none⟩ xs := fun j v hj => by
  have := h (j + 1) v (by simpa using hj)
  have e : (⟨g, o, none⟩ : Addr).add (j + 1) = (⟨g, o + 1, none⟩ : Addr).add j := by
    unfold Addr.add
    split <;> split <;> simp only [Addr.mk.injEq, and_true, true_and] <;> omega
  rwa [e] at this
theorem At.head {w : World} {ad : Addr} {x : Value} {xs : List Value} (h : At w ad (x :: xs)) : At w ad [x] := At.pre (xs := [x]) (ys := xs) h
theorem find_t (A : Option Addr) (c g : Nat) (l : List En) (key : Int) (rest : List Value) (w0 : World) (hT : At w0 ⟨g, 0, none⟩ (.slice A l.length c :: .func (.func 45) #[] #[] :: rest)) (hR : Rd w0 A (l.flatMap En.cells)) (hl : l.length ≤ 1073741824) (hs : Rising l) :
    Calls Try.prog 48 #[.pointer (some ⟨g, 0, none⟩), .int .u64 key] w0 fun e w' => ∃ r, e = .returned r ∧ (∃ i : Int, r = .tuple #[.int .i64 i, .bool (decide (i < l.length ∧ (l.getD i.toNat E0).k = key))] ∧ At1 l key i) ∧ Sep w0 w' [] :=
  find_s A c g l key w0 (At.head hT) (At.head (At.tail hT)) hR hl hs
theorem insert_j (A : Option Addr) (c : Nat) (l : List En) (j : Int) (x : En) (g1 c1 : Nat) (u0 w0 : World) (L : List Asn) (hj : 0 ≤ j) (hi : j ≤ l.length) (hl : l.length ≤ 1073741822)
    (hS0 : Sep u0 w0 (row 80 4 (.slice (some ⟨g1, 0, none⟩) 1 c1) 1 x.cells :: row 80 4 (.slice A l.length c) l.length (l.flatMap En.cells) :: L)) :
    Calls Try.prog 76 #[.slice A l.length c, .int .i64 j, .slice (some ⟨g1, 0, none⟩) 1 c1] w0 fun e w' => ∃ r, e = .returned r ∧ ∃ A' c', r = .slice A' (l.length + 1) c' ∧ Sep u0 w' (row 80 4 (.slice A' (l.length + 1) c') (l.length + 1) ((insAt l j.toNat x).flatMap En.cells) :: L) := by
  have := insert_s A c l j.toNat x g1 c1 u0 w0 L (by omega) hl hS0
  rw [Int.toNat_of_nonneg hj] at this
  exact this
theorem insAt_len (l : List En) (i : Nat) (x : En) (h : i ≤ l.length) : (insAt l i x).length = l.length + 1 := by
  simp only [insAt, List.length_append, List.length_take, List.length_singleton, List.length_drop]
  omega
/-- One put in its place, in a list by rising keys. -/
def putAt (l : List En) (i : Int) (x : En) : List En := if i < l.length ∧ (l.getD i.toNat E0).k = x.k then l.set i.toNat x else insAt l i.toNat x
theorem oput_s (g : Nat) (l : List En) (room life : Int) (x : En) (u0 w0 : World) (L : List Asn) (hS0 : Sep u0 w0 (Ag g l room life :: L)) (hl : l.length ≤ 1073741822) (hs : Rising l) : Calls Try.prog 55 #[.pointer (some ⟨g, 0, none⟩), .agg x.cells.toArray] w0 fun e w' => ∃ r, e = .returned r ∧ r = .tuple #[] ∧ ∃ i, At1 l x.k i ∧ Sep u0 w' (Ag g (putAt l i x) room life :: L) := by
  refine enter (args := [.pointer (some ⟨g, 0, none⟩), .agg x.cells.toArray]) 36 Try.func55 rfl rfl rfl ?_
  intro a hE _
  obtain ⟨A, c, hS⟩ := Ag.out hS0
  clear hS0
  obtain ⟨hc1, hc2, _⟩ := hS.drop.row_cap
  have hA : (0 : Int) < l.length → A = some (adr A) := fun h => (Rd.row (A := A) (n := l.length) (c := c) (xs := l.flatMap En.cells) hS).some (by rw [flat_len elen]; omega)
  obtain ⟨g0, hg0⟩ : ∃ g0, g0 = g := ⟨_, rfl⟩
  rw [← hg0] at hE hS
  revert hE
  revert hS
  generalize w0 = w
  intro hS hE
  repeat' (first | refine wl_nil ?_ | refine then_n ?_ | refine c_skip ?_ | refine c_ret ?_ | refine then_r ?_ | (refine c_midr (id := 1) (I := fun a w => ∃ i : Int, At1 l x.k i ∧ ∃ g, Env a 36 [(0, .pointer (some ⟨g0, 0, none⟩)), (3, .pointer (some ⟨g, 0, none⟩)), (4, .int .i64 i), (5, .bool (decide (i < l.length ∧ (l.getD i.toNat E0).k = x.k)))] ∧ Sep u0 w (blk g x.cells 80 :: blk g0 [.slice A l.length c, .func (.func 45) #[] #[], .int .i64 room, .int .i64 life] 101 :: row 80 4 (.slice A l.length c) l.length (l.flatMap En.cells) :: L)) ?_ ?_; rotate_left; clear hE hS; clear a w g; rintro a w ⟨i, hi, g, hE, hS⟩; have hi0 := hi.1; have hi1 := hi.2.1) | (refine c_regI 0 ?_; all_goals (refine wl hE rfl ?_; refine qbx hE hS ?_; clear hE hS; clear a; intro g a w hE hS)) | (refine c_regI 2 ?_; all_goals (refine wl hE rfl ?_; refine qm hE ?_; clear hE a; intro a hE)) | refine c_seq ?_ | (refine rg_guard 1 ?_; refine rg_start [0, 3] hE hS ?_; clear hS; (try clear w); intro w hS hX; all_goals (refine rg_y 0 hE hX (by exact y_move) ?_ rfl rfl rfl rfl; clear hE a; intro a hE); all_goals (refine rg_y 1 hE hX (by exact y_move) ?_ rfl rfl rfl rfl; clear hE a; intro a hE); all_goals (refine rg_y 2 hE hX (by exact y_nil) ?_ rfl rfl rfl rfl; clear hE a; intro a hE); all_goals (refine rg_y 3 hE hX (by exact y_field) ?_ rfl rfl rfl rfl; clear hE a; intro a hE); all_goals (refine rg_y 4 hE hX (by exact y_load) ?_ rfl rfl rfl rfl; clear hE a; intro a hE); all_goals (refine rg_y 5 hE hX (by exact y_loadA) ?_ rfl rfl rfl rfl; clear hE a; intro a hE); all_goals (refine rg_e 6 hE rfl rfl (by kernel_rfl) ?_; intro K hK; (refine qcF (vs := [.agg x.cells.toArray]) (cs := []) hE (key_s x _) ?_; clear hE; clear a; rintro _ a w ⟨rfl, hS1⟩ hE; replace hS := hS.then hS1; clear hS1); refine rg_k hK hS ?_; clear hK hX; clear K; intro hX); all_goals (refine rg_e 7 hE rfl rfl (by kernel_rfl) ?_; intro K hK; (refine is_call 48 rfl ?_; refine qc hE (find_t A c g0 l x.k _ _ (blk_At hS) (Rd.row (A := A) (n := l.length) (c := c) (xs := l.flatMap En.cells) hS) (by omega) hs) ?_; clear hE; clear a; rintro _ a w ⟨⟨i, rfl, hi⟩, hS1⟩ hE; replace hS := hS.then hS1; clear hS1); refine rg_k hK hS ?_; clear hK hX; clear K; intro hX); all_goals (refine rg_y 8 hE hX (by exact y_move) ?_ rfl rfl rfl rfl; clear hE a; intro a hE); all_goals (refine rg_y 9 hE hX (by exact y_extract) ?_ rfl rfl rfl rfl; clear hE a; intro a hE); all_goals (refine rg_y 10 hE hX (by exact y_extract) ?_ rfl rfl rfl rfl; clear hE a; intro a hE); all_goals (refine rg_y 11 hE hX (by exact y_assign) ?_ rfl rfl rfl rfl; clear hE a; intro a hE); all_goals (refine rg_y 12 hE hX (by exact y_assign) ?_ rfl rfl rfl rfl; clear hE a; intro a hE); all_goals (refine rg_done ?_ (by kernel_rfl); (try clear hX))) | (refine rg_guard 3 ?_; refine rl_start 7 [0, 3] hE hS ?_; clear hS; (try clear w); intro w hS hX; all_goals (refine rl_y 0 hE hX (by exact y_move) ?_ rfl rfl rfl rfl; clear hE a; intro a hE); all_goals (refine rl_y 1 hE hX (by exact y_nil) ?_ rfl rfl rfl rfl; clear hE a; intro a hE); all_goals (refine rl_y 2 hE hX (by exact y_field) ?_ rfl rfl rfl rfl; clear hE a; intro a hE); all_goals (refine rl_y 3 hE hX (by exact y_load) ?_ rfl rfl rfl rfl; clear hE a; intro a hE); all_goals (refine rl_y 4 hE hX (by exact y_move) ?_ rfl rfl rfl rfl; clear hE a; intro a hE); all_goals (refine rl_y 5 hE hX (by exact y_loadA) ?_ rfl rfl rfl rfl; clear hE a; intro a hE); all_goals (refine rl_y 6 hE hX (by exact y_index hA) ?_ rfl rfl rfl rfl; clear hE a; intro a hE); all_goals (refine rl_z (z := 7) hE rfl rfl (by kernel_rfl) ?_; intro K hK; (refine qsR (df := E0) (off := 0) (v := .agg x.cells.toArray) (l := l) (i := i) x hE hS elen rfl ?_; clear hS; intro w hS); refine hK _ _ ?_; clear hK; clear K); all_goals (refine rl_done ?_ (by kernel_rfl); (try clear hX))) | (refine rg_guard 4 ?_; refine rl_start 11 [0, 3] hE hS ?_; clear hS; (try clear w); intro w hS hX; all_goals (refine rl_y 0 hE hX (by exact y_move) ?_ rfl rfl rfl rfl; clear hE a; intro a hE); all_goals (refine rl_y 1 hE hX (by exact y_move) ?_ rfl rfl rfl rfl; clear hE a; intro a hE); all_goals (refine rl_y 2 hE hX (by exact y_nil) ?_ rfl rfl rfl rfl; clear hE a; intro a hE); all_goals (refine rl_y 3 hE hX (by exact y_field) ?_ rfl rfl rfl rfl; clear hE a; intro a hE); all_goals (refine rl_y 4 hE hX (by exact y_load) ?_ rfl rfl rfl rfl; clear hE a; intro a hE); all_goals (refine rl_y 5 hE hX (by exact y_move) ?_ rfl rfl rfl rfl; clear hE a; intro a hE); all_goals (refine rl_y 6 hE hX (by exact y_loadA) ?_ rfl rfl rfl rfl; clear hE a; intro a hE); all_goals (refine rl_e 7 hE rfl rfl (by kernel_rfl) ?_; intro K hK; (refine qbs1 hE hS ?_; clear hE hS; clear a; intro g a w hE hS); refine rl_k hK hS ?_; clear hK hX; clear K; intro hX); all_goals (refine rl_e 8 hE rfl rfl (by kernel_rfl) ?_; intro K hK; (refine is_call 76 rfl ?_; refine qc hE (insert_j A c l i x g 1 u0 _ _ hi0 hi1 hl hS.fit) ?_; clear hE hS; clear a; rintro _ a w ⟨A2, c2, rfl, hS⟩ hE); refine rl_k hK hS ?_; clear hK hX; clear K; intro hX); all_goals (refine rl_e 9 hE rfl rfl (by kernel_rfl) ?_; intro K hK; (refine qn hE ?_; clear hE a; intro a hE); refine rl_k hK hS ?_; clear hK hX; clear K; intro hX); all_goals (refine rl_y 10 hE hX (by exact y_field) ?_ rfl rfl rfl rfl; clear hE a; intro a hE); all_goals (refine rl_z (z := 11) hE rfl rfl (by kernel_rfl) ?_; intro K hK; (refine qst hE hS ?_; clear hS; intro w hS); refine hK _ _ ?_; clear hK; clear K); all_goals (refine rl_done ?_ (by kernel_rfl); (try clear hX))) | ((refine c_cond hE rfl ?_ ?_) <;> (intro hb; (first | replace hb := of_decide_eq_true hb | replace hb := of_decide_eq_false hb | (simp only [Bool.not_eq_true', Bool.not_eq_false', decide_eq_true_eq, decide_eq_false_iff_not] at hb) | skip); try (exfalso; first | omega | exact absurd trivial hb | exact absurd rfl hb | (simp only [beq_self_eq_true, bne_self_eq_false, reduceCtorEq] at hb; done)))))
  all_goals subst hg0
  · refine p_none hE rfl ⟨_, rfl, rfl, i, hi, ?_⟩
    have e : (putAt l i x) = l.set i.toNat x := by unfold putAt; rw [if_pos hb]
    rw [e]
    have h2 : l.length = (l.set i.toNat x).length := by simp
    refine Ag.in_ (A := A) (c := c) ?_
    rw [← h2]
    exact hS.fit
  · refine p_end hE rfl ⟨_, rfl, rfl, i, hi, ?_⟩
    have e : (putAt l i x) = insAt l i.toNat x := by unfold putAt; rw [if_neg hb]
    rw [e]
    have h2 : (insAt l i.toNat x).length = l.length + 1 := insAt_len l _ x (by omega)
    refine Ag.in_ (A := A2) (c := c2) ?_
    rw [h2]
    exact hS.fit
  · exact ⟨i, hi, _, hE.cut ⟨rfl, rfl, rfl, rfl, trivial⟩, hS⟩
end Go.Proofs.Ytdaciolahgfhiaa
/- DERIVED. Layer 10: the first that is so; without those that are so. No condition. -/
namespace Go.Proofs.Ytdaciolahgfhiaa
open Go.RowKit Go.Sx Go.Proofs.YtdaciolahgfhiaaTy
set_option linter.unusedVariables false
set_option linter.unusedSimpArgs false
set_option maxRecDepth 100000
attribute [local irreducible] Oper.wp Code.wp wpList wpAnyH Calls bodyPost Exit.then Exit.inBlock Code.rounds
set_option maxHeartbeats 1000000
/-- A function value that tells of each entry of some what p tells. -/
def Tells (f : FuncId) (cs : List Value) (l : List En) (p : En → Bool) (w0 : World) : Prop := ∀ x ∈ l, ∀ w L, Sep w0 w L → Calls Try.prog f (.agg x.cells.toArray :: cs).toArray w fun e w' => ∃ r, e = .returned r ∧ r = .bool (p x) ∧ Sep w w' []
theorem Tells.move {f : FuncId} {cs : List Value} {l : List En} {p : En → Bool} {w0 w : World} {L : List Asn} (h : Tells f cs l p w0) (hS : Sep w0 w L) : Tells f cs l p w := fun x hx w' L' h' => h x hx w' [] (hS.clean.same ⟨h'.below.os, h'.below.tape, h'.below.output, h'.below.size, h'.below.block⟩)
def FoundAt (l : List En) (p : En → Bool) (k : Int) : Prop := (∃ i : Nat, k = i ∧ i < l.length ∧ (∀ y ∈ l.take i, p y = false) ∧ p (l.getD i E0) = true) ∨ (k = -1 ∧ ∀ y ∈ l, p y = false)
theorem FoundAt.rng {l : List En} {p : En → Bool} {k : Int} (h : FoundAt l p k) : k = -1 ∨ (0 ≤ k ∧ k < l.length) := by
  rcases h with ⟨i, h1, h2, _⟩ | ⟨h, _⟩ <;> omega
theorem getD_memE {l : List En} {i : Nat} (h : i < l.length) : l.getD i E0 ∈ l := by simp [h]
theorem take_no {l : List En} {p : En → Bool} {i : Int} (h0 : 0 ≤ i) (h1 : i < (l.length : Int)) (hx : ∀ y ∈ l.take i.toNat, p y = false) (hne : p (l.getD i.toNat E0) = false) : ∀ y ∈ l.take (i + 1).toNat, p y = false := by
  intro y hy
  have hlt : i.toNat < l.length := by omega
  rw [show (i + 1).toNat = i.toNat + 1 by omega, List.take_succ_eq_append_getElem hlt] at hy
  rcases List.mem_append.1 hy with h | h
  · exact hx y h
  · simp at h; subst h; simpa [hlt] using hne
theorem indexF_s (A : Option Addr) (c : Nat) (l : List En) (f : FuncId) [FnTy Try.prog f] (cs : List Value) (p : En → Bool) (w0 : World) (hR : Rd w0 A (l.flatMap En.cells)) (hl : l.length ≤ 9223372036854775806) (hp : Tells f cs l p w0) :
    Calls Try.prog 93 #[.slice A l.length c, .func (.func f) #[] cs.toArray] w0 fun e w' => ∃ r, e = .returned r ∧ (∃ k : Int, r = .int .i64 k ∧ FoundAt l p k) ∧ Sep w0 w' [] := by
  have hA : (0 : Int) < l.length → A = some (adr A) := fun h => hR.some (by rw [flat_len elen]; omega)
  have hT := hR.at_
  refine enter (args := [.slice A l.length c, .func (.func f) #[] cs.toArray]) 19 Try.func93 rfl rfl rfl ?_
  intro a hE hS
  repeat' (first | refine wl_nil ?_ | refine then_n ?_ | refine c_block ?_ | (refine c_regI 0 ?_; all_goals (refine wl hE rfl ?_; refine qa hE ?_; clear hE a; intro a hE)) | (refine c_regI 1 ?_; all_goals (refine wl hE rfl ?_; refine qm hE ?_; clear hE a; intro a hE); all_goals (refine wl hE rfl ?_; refine qn1 hE ?_; clear hE a; intro a hE); all_goals (refine wl hE rfl ?_; refine qm hE ?_; clear hE a; intro a hE)) | refine c_seq ?_)
  refine c_loopN (fun m a w => ∃ i : Int, 0 ≤ i ∧ i ≤ l.length ∧ m = (l.length - i).toNat ∧ (∀ y ∈ l.take i.toNat, p y = false) ∧ Env a 19 [(0, .slice A l.length c), (1, .func (.func f) #[] cs.toArray), (7, .int .i64 l.length), (8, .int .i64 i)] ∧ Sep w0 w []) _ ⟨0, by omega, by omega, rfl, by simp, hE.cut ⟨rfl, rfl, rfl, rfl, trivial⟩, hS⟩ ?_
  clear hE hS a
  rintro m a w ⟨i, h0, h1, rfl, hx, hE, hS⟩
  obtain ⟨x, hxd⟩ : ∃ x, l.getD i.toNat E0 = x := ⟨_, rfl⟩
  have hxm : ∀ _ : Unit, i < l.length → x ∈ l := fun _ h => hxd ▸ getD_memE (by omega)
  repeat' (first | refine wl_nil ?_ | refine then_n ?_ | refine c_block ?_ | refine c_skip ?_ | refine c_exit ?_ | refine c_ret ?_ | refine then_r ?_ | refine then_e ?_ | refine inb_n ?_ | refine inb_r ?_ | refine inb_e ?_ | (refine c_regI 2 ?_; all_goals (refine wl hE rfl ?_; refine qb hE ?_; clear hE a; intro a hE)) | (refine c_regI 3 ?_; all_goals (refine wl hE rfl ?_; refine qm hE ?_; clear hE a; intro a hE); all_goals (refine wl hE rfl ?_; refine qa hE ?_; clear hE a; intro a hE)) | (refine c_regI 4 ?_; all_goals (refine wl hE rfl ?_; refine qm hE ?_; clear hE a; intro a hE); all_goals (refine wl hE rfl ?_; refine qm hE ?_; clear hE a; intro a hE); all_goals (refine wl hE rfl ?_; refine qm hE ?_; clear hE a; intro a hE); all_goals (refine wl hE rfl ?_; refine qi hE hA ?_; clear hE a; intro a hE); all_goals (refine wl hE rfl ?_; refine qLs (i := i) (us := x.cells) (df := E0) hE hS elen hT (by rw [hxd]) ?_; clear hE a; intro a hE); all_goals (refine wl hE rfl ?_; refine qcF (vs := [.agg x.cells.toArray]) hE (hp x (hxm () (by omega)) _ _ hS) ?_; clear hE; clear a; rintro _ a w ⟨rfl, hS1⟩ hE; replace hS := hS.then hS1; clear hS1)) | (refine c_regI 5 ?_; all_goals (refine wl hE rfl ?_; refine qm hE ?_; clear hE a; intro a hE); all_goals (refine wl hE rfl ?_; refine qa hE ?_; clear hE a; intro a hE)) | (refine c_regI 6 ?_; all_goals (refine wl hE rfl ?_; refine qb hE ?_; clear hE a; intro a hE); all_goals (refine wl hE rfl ?_; refine qm hE ?_; clear hE a; intro a hE)) | (refine c_regI 7 ?_; all_goals (refine wl hE rfl ?_; refine qa hE ?_; clear hE a; intro a hE)) | refine c_seq ?_ | ((refine c_cond hE rfl ?_ ?_) <;> (intro hb; (first | replace hb := of_decide_eq_true hb | replace hb := of_decide_eq_false hb | (simp only [Bool.not_eq_true', Bool.not_eq_false', decide_eq_true_eq, decide_eq_false_iff_not] at hb) | skip); try (exfalso; first | omega | exact absurd trivial hb | exact absurd rfl hb | (simp only [beq_self_eq_true, bne_self_eq_false, reduceCtorEq] at hb; done)))))
  · exact p_ret hE rfl rfl ⟨_, rfl, ⟨_, rfl, .inl ⟨i.toNat, by omega, by omega, hx, by rw [hxd]; exact hb⟩⟩, hS⟩
  · exact ⟨_, by omega, i + 1, by omega, by omega, rfl, take_no h0 (by assumption) hx (by rw [hxd]; exact hb), hE.cut ⟨rfl, rfl, rfl, rfl, trivial⟩, hS⟩
  · exact p_ret hE rfl rfl ⟨_, rfl, ⟨_, rfl, .inr ⟨rfl, by rwa [List.take_of_length_le (by omega)] at hx⟩⟩, hS⟩
/-- The walk's list: what is kept of those seen so far, ahead; those not yet seen, as they were. -/
structure Kept (l : List En) (p : En → Bool) (l2 : List En) (i j : Int) : Prop where
  h0 : 0 ≤ i
  h1 : i < j
  h2 : j ≤ l.length
  hl : l2.length = l.length
  ht : l2.take i.toNat = (l.take j.toNat).filter fun x => !p x
  hd : l2.drop j.toNat = l.drop j.toNat
theorem Kept.start {l : List En} {p : En → Bool} {i : Nat} (h : i < l.length) (hn : ∀ y ∈ l.take i, p y = false) (hp : p (l.getD i E0) = true) : Kept l p l i (i + 1) := by
  refine ⟨by omega, by omega, by omega, rfl, ?_, rfl⟩
  have e : l.getD i E0 = l[i] := by simp [h]
  rw [e] at hp
  rw [show ((i : Int) + 1).toNat = i + 1 by omega, List.take_succ_eq_append_getElem h, List.filter_append, show ((i : Int)).toNat = i by omega]
  have h1 : (l.take i).filter (fun x => !p x) = l.take i := List.filter_eq_self.2 fun y hy => by rw [hn y hy]; rfl
  rw [h1]
  simp [hp]
theorem Kept.get {l l2 : List En} {p : En → Bool} {i j : Int} (h : Kept l p l2 i j) (hj : j < l.length) : l2.getD j.toNat E0 = l.getD j.toNat E0 := by
  have e := congrArg (fun q => q[0]?) h.hd
  simp only [List.getElem?_drop, Nat.add_zero] at e
  simp [e]
theorem Kept.skip {l l2 : List En} {p : En → Bool} {i j : Int} (h : Kept l p l2 i j) (hj : j < l.length) (hp : p (l.getD j.toNat E0) = true) : Kept l p l2 i (j + 1) := by
  have h0 := h.h0
  have h1 := h.h1
  have hjl : j.toNat < l.length := by omega
  have hjl2 : j.toNat < l2.length := by rw [h.hl]; exact hjl
  refine ⟨h0, by omega, by omega, h.hl, ?_, ?_⟩
  · have e : l.getD j.toNat E0 = l[j.toNat] := by simp [hjl]
    rw [e] at hp
    rw [show (j + 1).toNat = j.toNat + 1 by omega, List.take_succ_eq_append_getElem hjl, List.filter_append, ← h.ht]
    simp [hp]
  · rw [show (j + 1).toNat = j.toNat + 1 by omega, ← List.drop_drop, ← List.drop_drop, h.hd]
theorem Kept.keep {l l2 : List En} {p : En → Bool} {i j : Int} (h : Kept l p l2 i j) (hj : j < l.length) (hp : p (l.getD j.toNat E0) = false) : Kept l p (l2.set i.toNat (l.getD j.toNat E0)) (i + 1) (j + 1) := by
  have h0 := h.h0
  have h1 := h.h1
  have hjl : j.toNat < l.length := by omega
  have hil2 : i.toNat < l2.length := by rw [h.hl]; omega
  have e : l.getD j.toNat E0 = l[j.toNat] := by simp [hjl]
  rw [e] at hp ⊢
  refine ⟨by omega, by omega, by omega, by simp [h.hl], ?_, ?_⟩
  · rw [show (j + 1).toNat = j.toNat + 1 by omega, show (i + 1).toNat = i.toNat + 1 by omega, List.take_succ_eq_append_getElem hjl, List.filter_append, ← h.ht, List.take_succ_eq_append_getElem (by simpa using hil2), List.take_set_of_le (Nat.le_refl _)]
    simp [hp]
  · rw [show (j + 1).toNat = j.toNat + 1 by omega, List.drop_set_of_lt (by omega), ← List.drop_drop, ← List.drop_drop, h.hd]
theorem kept_end (l2 : List En) (i : Nat) (h : i ≤ l2.length) : (putL (l2.flatMap En.cells) (i * 4) (List.replicate (l2.length - i) [Value.int .u64 0, .int .u64 0, .int .i64 0, .bool false]).flatten).take (i * 4) = (l2.take i).flatMap En.cells := by
  have h1 : (l2.flatMap En.cells).length = l2.length * 4 := flat_len elen l2
  unfold putL
  rw [List.append_assoc, List.take_append_of_le_length (by rw [List.length_take, h1]; omega), List.take_take, Nat.min_self, flat_take elen l2 i h]
theorem deleteF_s (A : Option Addr) (c : Nat) (l : List En) (f : FuncId) [FnTy Try.prog f] (cs : List Value) (p : En → Bool) (u0 w0 : World) (L : List Asn) (hS0 : Sep u0 w0 (row 80 4 (.slice A l.length c) l.length (l.flatMap En.cells) :: L)) (hl : l.length ≤ 1073741823)
    (hp : ∀ x ∈ l, ∀ w, Sep u0 w L → Calls Try.prog f (.agg x.cells.toArray :: cs).toArray w fun e w' => ∃ r, e = .returned r ∧ r = .bool (p x) ∧ Sep w w' []) :
    Calls Try.prog 87 #[.slice A l.length c, .func (.func f) #[] cs.toArray] w0 fun e w' => ∃ r, e = .returned r ∧ ∃ m, m = (l.filter fun x => !p x).length ∧ r = .slice A m c ∧ Sep u0 w' (row 80 4 (.slice A m c) m ((l.filter fun x => !p x).flatMap En.cells) :: L) := by
  obtain ⟨hc1, hc2, _⟩ := hS0.row_cap
  have hA : (0 : Int) < l.length → A = some (adr A) := fun h => (Rd.row (A := A) (n := l.length) (c := c) (xs := l.flatMap En.cells) hS0).some (by rw [flat_len elen]; omega)
  refine enter (args := [.slice A l.length c, .func (.func f) #[] cs.toArray]) 42 Try.func87 rfl rfl rfl ?_
  intro a hE _
  have hS := hS0
  clear hS0
  revert hE
  revert hS
  generalize w0 = w
  intro hS hE
  have hT : Tells f cs l p w := fun x hx w2 L2 h2 => hp x hx w2 (hS.drop.then h2.clean)
  repeat' (first | refine wl_nil ?_ | refine then_n ?_ | refine c_block ?_ | refine c_skip ?_ | refine c_ret ?_ | refine then_r ?_ | (refine c_regI 0 ?_; all_goals (refine wl hE rfl ?_; refine qa hE ?_; clear hE a; intro a hE)) | (refine c_regI 1 ?_; all_goals (refine wl hE rfl ?_; refine qm hE ?_; clear hE a; intro a hE); all_goals (refine wl hE rfl ?_; refine qm hE ?_; clear hE a; intro a hE); all_goals (refine wl hE rfl ?_; refine is_call 93 rfl ?_; refine qc hE (indexF_s A c l f cs p _ (Rd.row (A := A) (n := l.length) (c := c) (xs := l.flatMap En.cells) hS) (by omega) hT) ?_; clear hE; clear a; rintro _ a w ⟨⟨k, rfl, hk⟩, hS1⟩ hE; replace hS := hS.then hS1; clear hS1; have hk1 := hk.rng); all_goals (refine wl hE rfl ?_; refine qa hE ?_; clear hE a; intro a hE)) | (refine c_regI 2 ?_; all_goals (refine wl hE rfl ?_; refine qm hE ?_; clear hE a; intro a hE); all_goals (refine wl hE rfl ?_; refine qb hE ?_; clear hE a; intro a hE)) | (refine c_regI 3 ?_; all_goals (refine wl hE rfl ?_; refine qm hE ?_; clear hE a; intro a hE); all_goals (refine wl hE rfl ?_; refine qa hE ?_; clear hE a; intro a hE)) | (refine c_regI 4 ?_; all_goals (refine wl hE rfl ?_; refine qm hE ?_; clear hE a; intro a hE); all_goals (refine wl hE rfl ?_; refine qb hE ?_; clear hE a; intro a hE); all_goals (refine wl hE rfl ?_; refine qa hE ?_; clear hE a; intro a hE)) | refine c_seq ?_ | ((refine c_cond hE rfl ?_ ?_) <;> (intro hb; (first | replace hb := of_decide_eq_true hb | replace hb := of_decide_eq_false hb | (simp only [Bool.not_eq_true', Bool.not_eq_false', decide_eq_true_eq, decide_eq_false_iff_not] at hb) | skip); try (exfalso; first | omega | exact absurd trivial hb | exact absurd rfl hb | (simp only [beq_self_eq_true, bne_self_eq_false, reduceCtorEq] at hb; done)))))
  · have hno : ∀ y ∈ l, p y = false := by
      rcases hk with ⟨i, h1, _⟩ | ⟨_, h⟩
      · omega
      · exact h
    have e : (l.filter fun x => !p x) = l := List.filter_eq_self.2 fun y hy => by rw [hno y hy]; rfl
    refine p_ret hE rfl rfl ⟨_, rfl, l.length, by rw [e], rfl, ?_⟩
    rw [e]
    exact hS
  · have hK : Kept l p l k (k + 1) := by
      rcases hk with ⟨i, rfl, h1, h2, h3⟩ | ⟨h, _⟩
      · exact Kept.start h1 h2 h3
      · exact absurd h hb
    refine c_loopN (fun m a w => ∃ (l2 : List En) (i j : Int), Kept l p l2 i j ∧ m = (l.length - j).toNat ∧ Env a 42 [(0, .slice A l.length c), (1, .func (.func f) #[] cs.toArray), (5, .int .i64 i), (6, .int .i64 j)] ∧ Sep u0 w (row 80 4 (.slice A l.length c) l.length (l2.flatMap En.cells) :: L)) _ ⟨l, k, k + 1, hK, rfl, hE.cut ⟨rfl, rfl, rfl, rfl, trivial⟩, hS⟩ ?_
    clear hE hS hT a hK hb hk1 hk
    clear w
    rintro m a w ⟨l2, i, j, hK, rfl, hE, hS⟩
    have h0 := hK.h0
    have h1 := hK.h1
    have h2 := hK.h2
    have hl2 := hK.hl
    obtain ⟨x, hx⟩ : ∃ x, l2.getD j.toNat E0 = x := ⟨_, rfl⟩
    have hxm : ∀ _ : Unit, j < l.length → x ∈ l := fun _ h => by rw [← hx, hK.get h]; exact getD_memE (by omega)
    repeat' (first | refine wl_nil ?_ | refine then_n ?_ | refine c_block ?_ | refine c_skip ?_ | refine c_exit ?_ | refine c_ret ?_ | refine then_e ?_ | refine inb_n ?_ | refine inb_e ?_ | (refine c_regI 5 ?_; all_goals (refine wl hE rfl ?_; refine qm hE ?_; clear hE a; intro a hE); all_goals (refine wl hE rfl ?_; refine qm hE ?_; clear hE a; intro a hE); all_goals (refine wl hE rfl ?_; refine qn1 hE ?_; clear hE a; intro a hE); all_goals (refine wl hE rfl ?_; refine qb hE ?_; clear hE a; intro a hE)) | (refine c_regI 7 ?_; all_goals (refine wl hE rfl ?_; refine qm hE ?_; clear hE a; intro a hE); all_goals (refine wl hE rfl ?_; refine qm hE ?_; clear hE a; intro a hE); all_goals (refine wl hE rfl ?_; refine qi hE hA ?_; clear hE a; intro a hE); all_goals (refine wl hE rfl ?_; refine qlR (i := j) (us := x.cells) (df := E0) hE hS elen (by rw [hx]) ?_; clear hE a; intro a hE); all_goals (refine wl hE rfl ?_; refine qal hE hS ?_; clear hE hS; clear a; intro g a w hE hS); all_goals (refine wl hE rfl ?_; refine qst0 hE hS ?_; clear hS; intro w hS)) | (refine c_regI 8 ?_; all_goals (refine wl hE rfl ?_; refine qm hE ?_; clear hE a; intro a hE); all_goals (refine wl hE rfl ?_; refine qL hE hS ?_; clear hE a; intro a hE); all_goals (refine wl hE rfl ?_; refine qcF (vs := [.agg x.cells.toArray]) hE (hp x (hxm () (by omega)) _ hS.fit) ?_; clear hE; clear a; rintro _ a w ⟨rfl, hS1⟩ hE; replace hS := hS.then hS1; clear hS1); all_goals (refine wl hE rfl ?_; refine qu hE ?_; clear hE a; intro a hE)) | (refine c_regI 9 ?_; all_goals (refine wl hE rfl ?_; refine qm hE ?_; clear hE a; intro a hE); all_goals (refine wl hE rfl ?_; refine qm hE ?_; clear hE a; intro a hE); all_goals (refine wl hE rfl ?_; refine qL hE hS ?_; clear hE a; intro a hE); all_goals (refine wl hE rfl ?_; refine qi hE hA ?_; clear hE a; intro a hE); all_goals (refine wl hE rfl ?_; refine qsR (df := E0) (off := 0) (v := .agg x.cells.toArray) (l := l2) (i := i) (A := A) (p := (adr A).add (i.toNat * 4)) x hE hS elen rfl ?_; clear hS; intro w hS)) | (refine c_regI 10 ?_; all_goals (refine wl hE rfl ?_; refine qm hE ?_; clear hE a; intro a hE); all_goals (refine wl hE rfl ?_; refine qb hE ?_; clear hE a; intro a hE); all_goals (refine wl hE rfl ?_; refine qa hE ?_; clear hE a; intro a hE)) | (refine c_regI 6 ?_; all_goals (refine wl hE rfl ?_; refine qm hE ?_; clear hE a; intro a hE); all_goals (refine wl hE rfl ?_; refine qb hE ?_; clear hE a; intro a hE); all_goals (refine wl hE rfl ?_; refine qa hE ?_; clear hE a; intro a hE)) | (refine c_regI 11 ?_; all_goals (refine wl hE rfl ?_; refine qm hE ?_; clear hE a; intro a hE); all_goals (refine wl hE rfl ?_; refine qm hE ?_; clear hE a; intro a hE); all_goals (refine wl hE rfl ?_; refine qsL i.toNat hE ?_; clear hE; clear a; intro a hE); all_goals (refine wl hE rfl ?_; refine qclr (sz := 4) (c := c) (dc := c - i.toNat) (dl := l.length - i.toNat) (zs := [.int .u64 0, .int .u64 0, .int .i64 0, .bool false]) i.toNat (l2.length - i.toNat) (A := A) (N := l.length) (xs := l2.flatMap En.cells) hE hS ?_ (by decide) (by rw [hl2]) (by omega) (by omega) rfl; clear hS; intro w hS)) | (refine c_regI 12 ?_; all_goals (refine wl hE rfl ?_; refine qm hE ?_; clear hE a; intro a hE); all_goals (refine wl hE rfl ?_; refine qm hE ?_; clear hE a; intro a hE); all_goals (refine wl hE rfl ?_; refine qsh i.toNat hE ?_; clear hE; clear a; intro a hE); all_goals (refine wl hE rfl ?_; refine qa hE ?_; clear hE a; intro a hE)) | refine c_seq ?_ | ((refine c_cond hE rfl ?_ ?_) <;> (intro hb; (first | replace hb := of_decide_eq_true hb | replace hb := of_decide_eq_false hb | (simp only [Bool.not_eq_true', Bool.not_eq_false', decide_eq_true_eq, decide_eq_false_iff_not] at hb) | skip); try (exfalso; first | omega | exact absurd trivial hb | exact absurd rfl hb | (simp only [beq_self_eq_true, bne_self_eq_false, reduceCtorEq] at hb; done)))))
    · exact ⟨_, by omega, _, i + 1, j + 1, hK.keep (by omega) (by rw [← hK.get (by omega), hx]; simpa using hb), rfl, hE.cut ⟨rfl, rfl, rfl, rfl, trivial⟩, by rw [← hK.get (by omega), hx]; exact hS.fit⟩
    · exact ⟨_, by omega, l2, i, j + 1, hK.skip (by omega) (by rw [← hK.get (by omega), hx]; simpa using hb), rfl, hE.cut ⟨rfl, rfl, rfl, rfl, trivial⟩, hS.fit⟩
    · have e : j = l.length := by omega
      have ht := hK.ht
      rw [e, List.take_of_length_le (l := l) (by omega)] at ht
      have e1 : (l.filter fun x => !p x).length = i.toNat := by rw [← ht, List.length_take]; omega
      refine p_ret hE rfl rfl ⟨_, rfl, i.toNat, e1.symm, rfl, ?_⟩
      have h3 := hS.row_cut (A := A) (n := l.length) (c := c) i.toNat c (by omega) (by omega) (by omega)
      rw [kept_end l2 i.toNat (by omega), ht] at h3
      exact h3.fit
end Go.Proofs.Ytdaciolahgfhiaa
/- DERIVED. Layer 10: drop; time, old; Drop, Clear, Expire. No condition. -/
namespace Go.Proofs.Ytdaciolahgfhiaa
open Go.RowKit Go.Sx Go.Proofs.YtdaciolahgfhiaaTy
set_option linter.unusedVariables false
set_option linter.unusedSimpArgs false
set_option maxRecDepth 100000
attribute [local irreducible] Oper.wp Code.wp wpList wpAnyH Calls bodyPost Exit.then Exit.inBlock Code.rounds
set_option maxHeartbeats 1000000
def tabC (A : Option Addr) (n c : Nat) (room life : Int) : List Value := [.slice A n c, .func (.func 45) #[] #[], .int .i64 room, .int .i64 life]
theorem odrop_s (g : Nat) (l : List En) (room life : Int) (f : FuncId) [FnTy Try.prog f] (cs : List Value) (p : En → Bool) (u0 w0 : World) (L : List Asn) (hS0 : Sep u0 w0 (Ag g l room life :: L)) (hl : l.length ≤ 1073741823)
    (hp : ∀ x ∈ l, ∀ w A c, Sep u0 w (blk g (tabC A l.length c room life) 101 :: L) → Calls Try.prog f (.agg x.cells.toArray :: cs).toArray w fun e w' => ∃ r, e = .returned r ∧ r = .bool (p x) ∧ Sep w w' []) :
    Calls Try.prog 73 #[.pointer (some ⟨g, 0, none⟩), .func (.func f) #[] cs.toArray] w0 fun e w' => ∃ r, e = .returned r ∧ r = .int .i64 ((l.length : Int) - (l.filter fun x => !p x).length) ∧ Sep u0 w' (Ag g (l.filter fun x => !p x) room life :: L) := by
  refine enter (args := [.pointer (some ⟨g, 0, none⟩), .func (.func f) #[] cs.toArray]) 27 Try.func73 rfl rfl rfl ?_
  intro a hE _
  obtain ⟨A, c, hS⟩ := Ag.out hS0
  clear hS0
  obtain ⟨hc1, hc2, _⟩ := hS.drop.row_cap
  have hle : (l.filter fun x => !p x).length ≤ l.length := List.length_filter_le _ _
  obtain ⟨g0, hg0⟩ : ∃ g0, g0 = g := ⟨_, rfl⟩
  rw [← hg0] at hE hS hp
  revert hE
  revert hS
  generalize w0 = w
  intro hS hE
  repeat' (first | refine wl_nil ?_ | refine then_n ?_ | refine c_ret ?_ | (refine c_regI 0 ?_; all_goals (refine wl hE rfl ?_; refine qa hE ?_; clear hE a; intro a hE)) | (refine c_regI 1 ?_; all_goals (refine wl hE rfl ?_; refine qm hE ?_; clear hE a; intro a hE); all_goals (refine wl hE rfl ?_; refine qn hE ?_; clear hE a; intro a hE); all_goals (refine wl hE rfl ?_; refine qf hE ?_; clear hE a; intro a hE); all_goals (refine wl hE rfl ?_; refine ql hE hS ?_; clear hE a; intro a hE); all_goals (refine wl hE rfl ?_; refine qn1 hE ?_; clear hE a; intro a hE); all_goals (refine wl hE rfl ?_; refine qa hE ?_; clear hE a; intro a hE)) | (refine c_regI 2 ?_; all_goals (refine wl hE rfl ?_; refine qm hE ?_; clear hE a; intro a hE); all_goals (refine wl hE rfl ?_; refine qm hE ?_; clear hE a; intro a hE); all_goals (refine wl hE rfl ?_; refine qn hE ?_; clear hE a; intro a hE); all_goals (refine wl hE rfl ?_; refine qf hE ?_; clear hE a; intro a hE); all_goals (refine wl hE rfl ?_; refine ql hE hS ?_; clear hE a; intro a hE); all_goals (refine wl hE rfl ?_; refine qm hE ?_; clear hE a; intro a hE); all_goals (refine wl hE rfl ?_; refine qc hE (deleteF_s A c l f cs p u0 _ _ hS.fit hl (fun x hx w h => hp x hx w A c h)) ?_; clear hE hS; clear a; rintro _ a w ⟨m, hm, rfl, hS⟩ hE); all_goals (refine wl hE rfl ?_; refine qn hE ?_; clear hE a; intro a hE); all_goals (refine wl hE rfl ?_; refine qf hE ?_; clear hE a; intro a hE); all_goals (refine wl hE rfl ?_; refine qst hE hS ?_; clear hS; intro w hS)) | (refine c_regI 3 ?_; all_goals (refine wl hE rfl ?_; refine qm hE ?_; clear hE a; intro a hE); all_goals (refine wl hE rfl ?_; refine qm hE ?_; clear hE a; intro a hE); all_goals (refine wl hE rfl ?_; refine qn hE ?_; clear hE a; intro a hE); all_goals (refine wl hE rfl ?_; refine qf hE ?_; clear hE a; intro a hE); all_goals (refine wl hE rfl ?_; refine ql hE hS ?_; clear hE a; intro a hE); all_goals (refine wl hE rfl ?_; refine qn1 hE ?_; clear hE a; intro a hE); all_goals (refine wl hE rfl ?_; refine qb hE ?_; clear hE a; intro a hE); all_goals (refine wl hE rfl ?_; refine qa hE ?_; clear hE a; intro a hE)) | refine c_seq ?_)
  subst hg0
  refine p_ret hE rfl rfl ⟨_, rfl, by rw [hm], ?_⟩
  refine Ag.in_ (A := A) (c := c) ?_
  rw [← hm]
  exact hS.fit
end Go.Proofs.Ytdaciolahgfhiaa
/- DERIVED. Layer 10: what is dropped: by a key, by a value, what is old. No condition. -/
namespace Go.Proofs.Ytdaciolahgfhiaa
open Go.RowKit Go.Sx Go.Proofs.YtdaciolahgfhiaaTy
set_option linter.unusedVariables false
set_option linter.unusedSimpArgs false
set_option maxRecDepth 100000
attribute [local irreducible] Oper.wp Code.wp wpList wpAnyH Calls bodyPost Exit.then Exit.inBlock Code.rounds
set_option maxHeartbeats 1000000
def okT (now : Int) : Bool := decide (0 ≤ now ∧ now ≤ 1099511627776)
theorem time_s (now : Int) (w0 : World) : Calls Try.prog 49 #[.int .i64 now] w0 fun e w' => ∃ r, e = .returned r ∧ r = .bool (okT now) ∧ Sep w0 w' [] := by
  refine enter (args := [.int .i64 now]) 9 Try.func49 rfl rfl rfl ?_
  intro a hE hS
  repeat' (first | refine wl_nil ?_ | refine then_n ?_ | refine c_ret ?_ | (refine c_regI 0 ?_; all_goals (refine wl hE rfl ?_; refine qa hE ?_; clear hE a; intro a hE)) | (refine c_regI 1 ?_; all_goals (refine wl hE rfl ?_; refine qm hE ?_; clear hE a; intro a hE); all_goals (refine wl hE rfl ?_; refine qb hE ?_; clear hE a; intro a hE); all_goals (refine wl hE rfl ?_; refine qm hE ?_; clear hE a; intro a hE); all_goals ((refine wl_splitg hE rfl rfl ?_ ?_) <;> (clear hE; intro hb hE; (first | replace hb := of_decide_eq_true hb | replace hb := of_decide_eq_false hb | (simp only [Bool.not_eq_true', Bool.not_eq_false', decide_eq_true_eq, decide_eq_false_iff_not] at hb) | skip); try (exfalso; first | omega | exact absurd trivial hb | exact absurd rfl hb | (simp only [beq_self_eq_true, bne_self_eq_false, reduceCtorEq] at hb; done))) <;> (first | (refine wl hE rfl ?_; refine qm hE ?_; clear hE a; intro a hE) | (refine wl_skip hE rfl rfl rfl ?_; clear hE a; intro a hE))); all_goals (first | (refine wl hE rfl ?_; refine qb hE ?_; clear hE a; intro a hE) | (refine wl_skip hE rfl rfl rfl ?_; clear hE a; intro a hE)); all_goals (refine wl hE rfl ?_; first | (refine qpt hE ?_; clear hE a; intro a hE) | (refine qpf hE ?_; clear hE a; intro a hE)); all_goals (refine wl hE rfl ?_; refine qa hE ?_; clear hE a; intro a hE)) | refine c_seq ?_)
  all_goals exact p_ret hE rfl rfl ⟨_, rfl, by simp [okT, *], hS⟩
/-- Is an entry too old? -/
def oldE (life now : Int) (x : En) : Bool := !x.f && decide (life ≤ now - x.t)
theorem old_s (g : Nat) (life now : Int) (x : En) (w0 : World) (hF : At w0 ⟨g, 3, none⟩ [.int .i64 life]) (hn : 0 ≤ now ∧ now ≤ 1099511627776) (ht : 0 ≤ x.t ∧ x.t ≤ 1099511627776) : Calls Try.prog 50 #[.pointer (some ⟨g, 0, none⟩), .agg x.cells.toArray, .int .i64 now] w0 fun e w' => ∃ r, e = .returned r ∧ r = .bool (oldE life now x) ∧ Sep w0 w' [] := by
  refine enter (args := [.pointer (some ⟨g, 0, none⟩), .agg x.cells.toArray, .int .i64 now]) 21 Try.func50 rfl rfl rfl ?_
  intro a hE hS
  repeat' (first | refine wl_nil ?_ | refine then_n ?_ | refine c_ret ?_ | (refine c_regI 0 ?_; all_goals (refine wl hE rfl ?_; refine qbx hE hS ?_; clear hE hS; clear a; intro g a w hE hS); all_goals (refine wl hE rfl ?_; refine qa hE ?_; clear hE a; intro a hE)) | refine c_seq ?_ | (refine rg_guard 1 ?_; refine rg_start [4, 0] hE hS ?_; clear hS; (try clear w); intro w hS hX; all_goals (refine rg_y 0 hE hX (by exact y_field) ?_ rfl rfl rfl rfl; clear hE a; intro a hE); all_goals (refine rg_y 1 hE hX (by exact y_load) ?_ rfl rfl rfl rfl; clear hE a; intro a hE); all_goals (refine rg_y 2 hE hX (by exact y_not) ?_ rfl rfl rfl rfl; clear hE a; intro a hE); all_goals (refine rg_y 3 hE hX (by exact y_move) ?_ rfl rfl rfl rfl; clear hE a; intro a hE); all_goals ((refine rg_split hE 10 rfl ?_ ?_) <;> (clear hE; intro hb hE; (first | replace hb := of_decide_eq_true hb | replace hb := of_decide_eq_false hb | (simp only [Bool.not_eq_true', Bool.not_eq_false', decide_eq_true_eq, decide_eq_false_iff_not] at hb) | skip); try (exfalso; first | omega | exact absurd trivial hb | exact absurd rfl hb | (simp only [beq_self_eq_true, bne_self_eq_false, reduceCtorEq] at hb; done))) <;> (first | (refine rg_y 4 hE hX (by exact y_move) ?_ rfl rfl rfl rfl; clear hE a; intro a hE) | (refine rg_n 4 hE hX ?_ rfl rfl rfl rfl; clear hE a; intro a hE))); all_goals (first | (refine rg_y 5 hE hX (by exact y_field) ?_ rfl rfl rfl rfl; clear hE a; intro a hE) | (refine rg_n 5 hE hX ?_ rfl rfl rfl rfl; clear hE a; intro a hE)); all_goals (first | (refine rg_y 6 hE hX (by exact y_load) ?_ rfl rfl rfl rfl; clear hE a; intro a hE) | (refine rg_n 6 hE hX ?_ rfl rfl rfl rfl; clear hE a; intro a hE)); all_goals (first | (refine rg_y 7 hE hX (by exact y_bin) ?_ rfl rfl rfl rfl; clear hE a; intro a hE) | (refine rg_n 7 hE hX ?_ rfl rfl rfl rfl; clear hE a; intro a hE)); all_goals (first | (refine rg_y 8 hE hX (by exact y_move) ?_ rfl rfl rfl rfl; clear hE a; intro a hE) | (refine rg_n 8 hE hX ?_ rfl rfl rfl rfl; clear hE a; intro a hE)); all_goals (first | (refine rg_y 9 hE hX (by exact y_nil) ?_ rfl rfl rfl rfl; clear hE a; intro a hE) | (refine rg_n 9 hE hX ?_ rfl rfl rfl rfl; clear hE a; intro a hE)); all_goals (first | (refine rg_y 10 hE hX (by exact y_field) ?_ rfl rfl rfl rfl; clear hE a; intro a hE) | (refine rg_n 10 hE hX ?_ rfl rfl rfl rfl; clear hE a; intro a hE)); all_goals (first | (refine rg_y 11 hE hX (by exact y_load0 hF) ?_ rfl rfl rfl rfl; clear hE a; intro a hE) | (refine rg_n 11 hE hX ?_ rfl rfl rfl rfl; clear hE a; intro a hE)); all_goals (first | (refine rg_y 12 hE hX (by exact y_bin) ?_ rfl rfl rfl rfl; clear hE a; intro a hE) | (refine rg_n 12 hE hX ?_ rfl rfl rfl rfl; clear hE a; intro a hE)); all_goals (refine rg_y 13 hE hX (by first | exact y_pick_t | exact y_pick_f) ?_ rfl rfl rfl rfl; clear hE a; intro a hE); all_goals (refine rg_y 14 hE hX (by exact y_assign) ?_ rfl rfl rfl rfl; clear hE a; intro a hE); all_goals (refine rg_done ?_ (by kernel_rfl); (try clear hX))))
  all_goals exact p_ret hE rfl rfl ⟨_, rfl, by simp [oldE, *], hS.clean⟩
end Go.Proofs.Ytdaciolahgfhiaa
/- DERIVED. Layer 10: Drop, Clear, Expire. No condition. -/
namespace Go.Proofs.Ytdaciolahgfhiaa
open Go.RowKit Go.Sx Go.Proofs.YtdaciolahgfhiaaTy
set_option linter.unusedVariables false
set_option linter.unusedSimpArgs false
set_option maxRecDepth 100000
attribute [local irreducible] Oper.wp Code.wp wpList wpAnyH Calls bodyPost Exit.then Exit.inBlock Code.rounds
set_option maxHeartbeats 1000000
/-- The times of a table's entries are times. -/
def Times (l : List En) : Prop := ∀ x ∈ l, 0 ≤ x.t ∧ x.t ≤ 1099511627776
def noOld (life now : Int) (l : List En) : List En := l.filter fun x => !oldE life now x
theorem expire1_s (b1 b2 g0 : Nat) (life now : Int) (x : En) (w0 : World) (h1 : At w0 ⟨b1, 0, none⟩ [.pointer (some ⟨g0, 0, none⟩)]) (h2 : At w0 ⟨b2, 0, none⟩ [.int .i64 now]) (hF : At w0 ⟨g0, 3, none⟩ [.int .i64 life]) (hn : 0 ≤ now ∧ now ≤ 1099511627776) (ht : 0 ≤ x.t ∧ x.t ≤ 1099511627776) : Calls Try.prog 74 #[.agg x.cells.toArray, .pointer (some ⟨b1, 0, none⟩), .pointer (some ⟨b2, 0, none⟩)] w0 fun e w' => ∃ r, e = .returned r ∧ r = .bool (oldE life now x) ∧ Sep w0 w' [] := by
  refine enter (args := [.agg x.cells.toArray, .pointer (some ⟨b1, 0, none⟩), .pointer (some ⟨b2, 0, none⟩)]) 9 Try.func74 rfl rfl rfl ?_
  intro a hE hS
  repeat' (first | refine wl_nil ?_ | refine then_n ?_ | refine c_ret ?_ | (refine c_regI 0 ?_; all_goals (refine wl hE rfl ?_; refine qbx hE hS ?_; clear hE hS; clear a; intro g a w hE hS); all_goals (refine wl hE rfl ?_; refine qa hE ?_; clear hE a; intro a hE)) | (refine c_regI 1 ?_; all_goals (refine wl hE rfl ?_; refine q0 hE hS h1 ?_; clear hE a; intro a hE); all_goals (refine wl hE rfl ?_; refine qL hE hS ?_; clear hE a; intro a hE); all_goals (refine wl hE rfl ?_; refine q0 hE hS h2 ?_; clear hE a; intro a hE); all_goals (refine wl hE rfl ?_; refine is_call 50 rfl ?_; refine qc hE (old_s g0 life now x _ (hF.move hS) hn ht) ?_; clear hE; clear a; rintro _ a w ⟨rfl, hS1⟩ hE; replace hS := hS.then hS1; clear hS1); all_goals (refine wl hE rfl ?_; refine qa hE ?_; clear hE a; intro a hE)) | refine c_seq ?_)
  exact p_ret hE rfl rfl ⟨_, rfl, rfl, hS.clean⟩
theorem tab_life {A : Option Addr} {n c : Nat} {g : Nat} {room life : Int} {w0 w : World} {L : List Asn} (h : Sep w0 w (blk g (tabC A n c room life) 101 :: L)) : At w ⟨g, 3, none⟩ [.int .i64 life] := At.tail (At.tail (At.tail (blk_At h Pull.here)))
theorem expire_s (g0 : Nat) (l : List En) (room life now : Int) (u0 w0 : World) (L : List Asn) (hS0 : Sep u0 w0 (Ag g0 l room life :: L)) (hl : l.length ≤ 1073741823) (ht : Times l) : Calls Try.prog 53 #[.pointer (some ⟨g0, 0, none⟩), .int .i64 now] w0 fun e w' => ∃ r, e = .returned r ∧ r = .int .i64 (if okT now = true then (l.length : Int) - (noOld life now l).length else 0) ∧ Sep u0 w' (Ag g0 (if okT now = true then noOld life now l else l) room life :: L) := by
  refine enter (args := [.pointer (some ⟨g0, 0, none⟩), .int .i64 now]) 13 Try.func53 rfl rfl rfl ?_
  intro a hE _
  have hS := hS0
  clear hS0
  revert hE
  revert hS
  generalize w0 = w
  intro hS hE
  repeat' (first | refine wl_nil ?_ | refine then_n ?_ | refine c_skip ?_ | refine c_ret ?_ | refine then_r ?_ | (refine c_regI 0 ?_; all_goals (refine wl hE rfl ?_; refine qbx hE hS ?_; clear hE hS; clear a; intro g a w hE hS); all_goals (refine wl hE rfl ?_; refine qbx hE hS ?_; clear hE hS; clear a; intro g a w hE hS); all_goals (refine wl hE rfl ?_; refine qa hE ?_; clear hE a; intro a hE)) | (refine c_regI 1 ?_; all_goals (refine wl hE rfl ?_; refine ql hE hS ?_; clear hE a; intro a hE); all_goals (refine wl hE rfl ?_; refine is_call 49 rfl ?_; refine qc hE (time_s _ _) ?_; clear hE; clear a; rintro _ a w ⟨rfl, hS1⟩ hE; replace hS := hS.then hS1; clear hS1); all_goals (refine wl hE rfl ?_; refine qu hE ?_; clear hE a; intro a hE)) | (refine c_regI 2 ?_; all_goals (refine wl hE rfl ?_; refine qa hE ?_; clear hE a; intro a hE)) | refine c_seq ?_ | ((refine c_cond hE rfl ?_ ?_) <;> (intro hb; (first | replace hb := of_decide_eq_true hb | replace hb := of_decide_eq_false hb | (simp only [Bool.not_eq_true', Bool.not_eq_false', decide_eq_true_eq, decide_eq_false_iff_not] at hb) | skip); try (exfalso; first | omega | exact absurd trivial hb | exact absurd rfl hb | (simp only [beq_self_eq_true, bne_self_eq_false, reduceCtorEq] at hb; done)))))
  · exact p_ret hE rfl rfl ⟨_, rfl, by rw [hb]; rfl, by rw [hb]; exact hS.fit⟩
  · obtain ⟨b1, hS2, hE2⟩ : ∃ b1, Sep u0 w (blk g [.int .i64 now] 3 :: blk b1 [.pointer (some ⟨g0, 0, none⟩)] 66 :: Ag g0 l room life :: L) ∧ Env a 13 [(2, .pointer (some ⟨b1, 0, none⟩)), (3, .pointer (some ⟨g, 0, none⟩))] := ⟨_, hS, hE.cut ⟨rfl, rfl, trivial⟩⟩
    replace hS := hS2
    replace hE := hE2
    clear hS2 hE2
    have hn : 0 ≤ now ∧ now ≤ 1099511627776 := of_decide_eq_true hb
    repeat' (first | refine wl_nil ?_ | refine then_n ?_ | refine c_ret ?_ | (refine c_regI 3 ?_; all_goals (refine wl hE rfl ?_; refine ql hE hS ?_; clear hE a; intro a hE); all_goals (refine wl hE rfl ?_; refine qn hE ?_; clear hE a; intro a hE); all_goals (refine wl hE rfl ?_; refine qf hE ?_; clear hE a; intro a hE); all_goals (refine wl hE rfl ?_; refine qmf2 hE ?_; clear hE; clear a; intro a hE); all_goals (refine wl hE rfl ?_; refine is_call 73 rfl ?_; refine qc hE (odrop_s g0 l room life 74 [.pointer (some ⟨b1, 0, none⟩), .pointer (some ⟨g, 0, none⟩)] (oldE life now) u0 _ (blk g [.int .i64 now] 3 :: blk b1 [.pointer (some ⟨g0, 0, none⟩)] 66 :: L) hS.fit hl (fun x hx w A c h => expire1_s b1 g g0 life now x w (blk_At h) (blk_At h) (tab_life h) hn (ht x hx))) ?_; clear hE hS; clear a; rintro _ a w ⟨rfl, hS⟩ hE); all_goals (refine wl hE rfl ?_; refine qa hE ?_; clear hE a; intro a hE)))
    exact p_ret hE rfl rfl ⟨_, rfl, by rw [if_pos hb]; rfl, by rw [if_pos hb]; exact hS.fit⟩
end Go.Proofs.Ytdaciolahgfhiaa
/- DERIVED. Layer 10: slices.Delete of one. No condition. -/
namespace Go.Proofs.Ytdaciolahgfhiaa
open Go.RowKit Go.Sx Go.Proofs.YtdaciolahgfhiaaTy
set_option linter.unusedVariables false
set_option linter.unusedSimpArgs false
set_option maxRecDepth 100000
attribute [local irreducible] Oper.wp Code.wp wpList wpAnyH Calls bodyPost Exit.then Exit.inBlock Code.rounds
set_option maxHeartbeats 1000000
theorem del_ys (l : List En) (i : Nat) (hi : i < l.length) : (l.take i).flatMap En.cells ++ (l.drop (i + 1)).flatMap En.cells = (l.eraseIdx i).flatMap En.cells := by
  rw [← List.flatMap_append, List.eraseIdx_eq_take_drop_succ]
theorem del_len (l : List En) (i : Nat) (hi : i < l.length) : (l.eraseIdx i).length = l.length - 1 := List.length_eraseIdx_of_lt hi
theorem delete_s (A : Option Addr) (c : Nat) (l : List En) (i : Nat) (u0 w0 : World) (L : List Asn) (hi : i < l.length) (hl : l.length ≤ 1073741822)
    (hS0 : Sep u0 w0 (row 80 4 (.slice A l.length c) l.length (l.flatMap En.cells) :: L)) :
    Calls Try.prog 75 #[.slice A l.length c, .int .i64 i, .int .i64 (i + 1)] w0 fun e w' => ∃ r, e = .returned r ∧ r = .slice A (l.length - 1) c ∧ Sep u0 w' (row 80 4 (.slice A (l.length - 1) c) (l.length - 1) ((l.eraseIdx i).flatMap En.cells) :: L) := by
  refine enter (args := [.slice A l.length c, .int .i64 i, .int .i64 (i + 1)]) 33 Try.func75 rfl rfl rfl ?_
  intro a hE _
  have hS := hS0
  clear hS0
  obtain ⟨hc1, hc2, _⟩ := hS.row_cap
  have hAne : A ≠ none := fun e => by
    subst e
    exact absurd ((Rd.row (A := none) (n := l.length) (c := c) (xs := l.flatMap En.cells) hS).some (by rw [flat_len elen]; omega)) (by simp [adr])
  revert hE
  revert hS
  generalize w0 = w
  intro hS hE
  repeat' (first | refine wl_nil ?_ | refine then_n ?_ | refine c_skip ?_ | (refine c_regI 0 ?_; all_goals (refine wl hE rfl ?_; refine qa hE ?_; clear hE a; intro a hE)) | (refine c_regI 1 ?_; all_goals (refine wl hE rfl ?_; refine qm hE ?_; clear hE a; intro a hE); all_goals (refine wl hE rfl ?_; refine qm hE ?_; clear hE a; intro a hE); all_goals (refine wl hE rfl ?_; refine qm hE ?_; clear hE a; intro a hE); all_goals (refine wl hE rfl ?_; refine qm hE ?_; clear hE a; intro a hE); all_goals (refine wl hE rfl ?_; refine qn1 hE ?_; clear hE a; intro a hE); all_goals (refine wl hE rfl ?_; refine qsLHM i (i + 1) l.length hE ?_; clear hE; clear a; intro a hE)) | (refine c_regI 2 ?_; all_goals (refine wl hE rfl ?_; refine qm hE ?_; clear hE a; intro a hE); all_goals (refine wl hE rfl ?_; refine qm hE ?_; clear hE a; intro a hE); all_goals (refine wl hE rfl ?_; refine qb hE ?_; clear hE a; intro a hE)) | (refine c_regI 4 ?_; all_goals (refine wl hE rfl ?_; refine qm hE ?_; clear hE a; intro a hE); all_goals (refine wl hE rfl ?_; refine qn1 hE ?_; clear hE a; intro a hE); all_goals (refine wl hE rfl ?_; refine qa hE ?_; clear hE a; intro a hE)) | refine c_seq ?_ | (refine rg_guard 5 ?_; refine rg_start [] hE hS ?_; clear hS; (try clear w); intro w hS hX; all_goals (refine rg_y 0 hE hX (by exact y_move) ?_ rfl rfl rfl rfl; clear hE a; intro a hE); all_goals (refine rg_y 1 hE hX (by exact y_move) ?_ rfl rfl rfl rfl; clear hE a; intro a hE); all_goals (refine rg_y 3 hE hX (by exact y_move) ?_ rfl rfl rfl rfl; clear hE a; intro a hE); all_goals (refine rg_y 4 hE hX (by exact y_move) ?_ rfl rfl rfl rfl; clear hE a; intro a hE); all_goals ((refine rg_e2 2 5 (by kernel_rfl) ?_ ?_) <;> first | (intro K hK; refine rg_op (i := 2) hE rfl rfl ?_; (refine qsh i hE ?_; clear hE a; intro a hE); refine rg_k hK hS ?_; clear hK hX; clear K; intro hX; all_goals (refine rg_e 5 hE rfl rfl (by kernel_rfl) ?_; intro K hK; (refine qsL (i + 1) hE ?_; clear hE a; intro a hE); refine rg_k hK hS ?_; clear hK hX; clear K; intro hX); all_goals (refine rg_e 6 hE rfl rfl (by kernel_rfl) ?_; intro K hK; (refine qapR (A := A) (c := c) (N := l.length - 1) (k := i) (m := l.length - (i + 1)) (xs := (l.flatMap En.cells).take (i * 4)) (news := (l.drop (i + 1)).flatMap En.cells) (ys := (l.eraseIdx i).flatMap En.cells) hE (hS.row_cut (A := A) (n := l.length) (c := c) i c (by omega) (by omega) (by omega)) (by have := (Rd.row (A := A) (n := l.length) (c := c) (xs := l.flatMap En.cells) hS).sub (flat_len elen l) (i + 1) (by omega) hc1; rwa [flat_drop elen l (i + 1) (by omega)] at this) (en_one _) ?_ (hl := by rw [flat_len elen, List.length_drop]) (hY := by rw [flat_take elen l i (by omega)]; exact del_ys l i hi); clear hE hS; clear a; intro a w hE hS); refine rg_k hK hS ?_; clear hK hX; clear K; intro hX); all_goals (refine rg_y 7 hE hX (by exact y_assign) ?_ rfl rfl rfl rfl; clear hE a; intro a hE); all_goals (refine rg_done ?_ (by kernel_rfl); (try clear hX))) | (intro K hK; refine rg_op (i := 5) hE rfl rfl ?_; (refine qsL (i + 1) hE ?_; clear hE a; intro a hE); refine rg_k hK hS ?_; clear hK hX; clear K; intro hX; all_goals (refine rg_e 2 hE rfl rfl (by kernel_rfl) ?_; intro K hK; (refine qsh i hE ?_; clear hE a; intro a hE); refine rg_k hK hS ?_; clear hK hX; clear K; intro hX); all_goals (refine rg_e 6 hE rfl rfl (by kernel_rfl) ?_; intro K hK; (refine qapR (A := A) (c := c) (N := l.length - 1) (k := i) (m := l.length - (i + 1)) (xs := (l.flatMap En.cells).take (i * 4)) (news := (l.drop (i + 1)).flatMap En.cells) (ys := (l.eraseIdx i).flatMap En.cells) hE (hS.row_cut (A := A) (n := l.length) (c := c) i c (by omega) (by omega) (by omega)) (by have := (Rd.row (A := A) (n := l.length) (c := c) (xs := l.flatMap En.cells) hS).sub (flat_len elen l) (i + 1) (by omega) hc1; rwa [flat_drop elen l (i + 1) (by omega)] at this) (en_one _) ?_ (hl := by rw [flat_len elen, List.length_drop]) (hY := by rw [flat_take elen l i (by omega)]; exact del_ys l i hi); clear hE hS; clear a; intro a w hE hS); refine rg_k hK hS ?_; clear hK hX; clear K; intro hX); all_goals (refine rg_y 7 hE hX (by exact y_assign) ?_ rfl rfl rfl rfl; clear hE a; intro a hE); all_goals (refine rg_done ?_ (by kernel_rfl); (try clear hX))))) | ((refine c_cond hE rfl ?_ ?_) <;> (intro hb; (first | replace hb := of_decide_eq_true hb | replace hb := of_decide_eq_false hb | (simp only [Bool.not_eq_true', Bool.not_eq_false', decide_eq_true_eq, decide_eq_false_iff_not] at hb) | skip); try (exfalso; first | omega | exact absurd trivial hb | exact absurd rfl hb | (simp only [beq_self_eq_true, bne_self_eq_false, reduceCtorEq] at hb; done)))))
  all_goals (obtain ⟨ys, hy, hS2⟩ := hS.row_ext (A := A) (n := l.length - 1) (c := c) 1 (by omega) hAne
             have hz := del_len l i hi
             obtain ⟨hS, hE2⟩ : Sep u0 w (row 80 4 (.slice A (l.length - 1 + 1) c) (l.length - 1 + 1) ((l.eraseIdx i).flatMap En.cells ++ ys) :: L) ∧ Env a 33 [(0, .slice A (l.length - 1) c), (7, .int .i64 l.length)] := ⟨hS2, hE.cut ⟨rfl, rfl, trivial⟩⟩
             replace hE := hE2
             clear hS2 hE2)
  all_goals repeat' (first | refine wl_nil ?_ | refine then_n ?_ | refine c_ret ?_ | (refine c_regI 6 ?_; all_goals (refine wl hE rfl ?_; refine qm hE ?_; clear hE a; intro a hE); all_goals (refine wl hE rfl ?_; refine qm hE ?_; clear hE a; intro a hE); all_goals (refine wl hE rfl ?_; refine qn1 hE ?_; clear hE a; intro a hE); all_goals (refine wl hE rfl ?_; refine qm hE ?_; clear hE a; intro a hE); all_goals (refine wl hE rfl ?_; refine qsLH (l.length - 1) l.length hE ?_; clear hE a; intro a hE); all_goals (refine wl hE rfl ?_; refine qclr (sz := 4) (c := c) (dc := c - (l.length - 1)) (dl := l.length - (l.length - 1)) (zs := [.int .u64 0, .int .u64 0, .int .i64 0, .bool false]) (l.length - 1) 1 (A := A) (N := l.length - 1 + 1) (xs := (l.eraseIdx i).flatMap En.cells ++ ys) hE hS ?_ (by decide) (by omega) (by omega) (by omega) rfl; clear hS; intro w hS)) | (refine c_regI 7 ?_; all_goals (refine wl hE rfl ?_; refine qm hE ?_; clear hE a; intro a hE); all_goals (refine wl hE rfl ?_; refine qa hE ?_; clear hE a; intro a hE)) | refine c_seq ?_)
  all_goals (have h3 := hS.row_cut (A := A) (n := l.length - 1 + 1) (c := c) (l.length - 1) c (by omega) (by omega) (by omega)
             refine p_ret hE rfl rfl ⟨_, rfl, rfl, ?_⟩
             have e : (putL ((l.eraseIdx i).flatMap En.cells ++ ys) ((l.length - 1) * 4) (List.replicate 1 [Value.int .u64 0, .int .u64 0, .int .i64 0, .bool false]).flatten).take ((l.length - 1) * 4) = (l.eraseIdx i).flatMap En.cells := by
               have h1 : ((l.eraseIdx i).flatMap En.cells).length = (l.length - 1) * 4 := by rw [flat_len elen, hz]
               unfold putL
               rw [List.append_assoc, List.take_append_of_le_length (by rw [List.length_take, List.length_append, h1]; omega), List.take_take, Nat.min_self, List.take_append_of_le_length (by omega), ← h1, List.take_length]
             rw [e] at h3
             exact h3.fit)
end Go.Proofs.Ytdaciolahgfhiaa
/- DERIVED. Layer 10: room for one more. No condition. -/
namespace Go.Proofs.Ytdaciolahgfhiaa
open Go.RowKit Go.Sx Go.Proofs.YtdaciolahgfhiaaTy
set_option linter.unusedVariables false
set_option linter.unusedSimpArgs false
set_option maxRecDepth 100000
attribute [local irreducible] Oper.wp Code.wp wpList wpAnyH Calls bodyPost Exit.then Exit.inBlock Code.rounds
set_option maxHeartbeats 1000000
/-- Which of the first i entries, that are not fixed, is the oldest one (-1: there is none). -/
def oldestTo (l : List En) : Nat → Int
  | 0 => -1
  | i + 1 => if (!(l.getD i E0).f && (decide (oldestTo l i < 0) || decide ((l.getD i E0).t < (l.getD (oldestTo l i).toNat E0).t))) = true then (i : Int) else oldestTo l i
theorem oldestTo_rng (l : List En) : ∀ i : Nat, -1 ≤ oldestTo l i ∧ oldestTo l i < i
  | 0 => by simp [oldestTo]
  | i + 1 => by
    have := oldestTo_rng l i
    simp only [oldestTo]
    split <;> omega
/-- What is left when there is to be room for one more; none: all are fixed. -/
def spareE (room : Int) (l : List En) : Option (List En) := if (l.length : Int) < room then some l else if oldestTo l l.length < 0 then none else some (l.eraseIdx (oldestTo l l.length).toNat)
theorem delete_j (A : Option Addr) (c : Nat) (l : List En) (i : Int) (u0 w0 : World) (L : List Asn) (h0 : 0 ≤ i) (hi : i < l.length) (hl : l.length ≤ 1073741822)
    (hS0 : Sep u0 w0 (row 80 4 (.slice A l.length c) l.length (l.flatMap En.cells) :: L)) :
    Calls Try.prog 75 #[.slice A l.length c, .int .i64 i, .int .i64 (i + 1)] w0 fun e w' => ∃ r, e = .returned r ∧ r = .slice A (l.length - 1) c ∧ Sep u0 w' (row 80 4 (.slice A (l.length - 1) c) (l.length - 1) ((l.eraseIdx i.toNat).flatMap En.cells) :: L) := by
  have := delete_s A c l i.toNat u0 w0 L (by omega) hl hS0
  rw [Int.toNat_of_nonneg h0] at this
  exact this
theorem makeRoom_s (g : Nat) (l : List En) (room life : Int) (u0 w0 : World) (L : List Asn) (hS0 : Sep u0 w0 (Ag g l room life :: L)) (hl : l.length ≤ 1073741822) : Calls Try.prog 54 #[.pointer (some ⟨g, 0, none⟩)] w0 fun e w' => ∃ r, e = .returned r ∧ r = .bool (spareE room l).isSome ∧ Sep u0 w' (Ag g ((spareE room l).getD l) room life :: L) := by
  refine enter (args := [.pointer (some ⟨g, 0, none⟩)]) 66 Try.func54 rfl rfl rfl ?_
  intro a hE _
  obtain ⟨A, c, hS⟩ := Ag.out hS0
  clear hS0
  obtain ⟨hc1, hc2, _⟩ := hS.drop.row_cap
  have hA : (0 : Int) < l.length → A = some (adr A) := fun h => (Rd.row (A := A) (n := l.length) (c := c) (xs := l.flatMap En.cells) hS).some (by rw [flat_len elen]; omega)
  obtain ⟨g0, hg0⟩ : ∃ g0, g0 = g := ⟨_, rfl⟩
  rw [← hg0] at hE hS
  revert hE
  revert hS
  generalize w0 = w
  intro hS hE
  repeat' (first | refine wl_nil ?_ | refine then_n ?_ | refine c_block ?_ | refine c_skip ?_ | refine c_ret ?_ | refine then_r ?_ | (refine c_regI 0 ?_; all_goals (refine wl hE rfl ?_; refine qa hE ?_; clear hE a; intro a hE)) | (refine c_regI 2 ?_; all_goals (refine wl hE rfl ?_; refine qa hE ?_; clear hE a; intro a hE)) | (refine c_regI 3 ?_; all_goals (refine wl hE rfl ?_; refine qa hE ?_; clear hE a; intro a hE)) | (refine c_regI 4 ?_; all_goals (refine wl hE rfl ?_; refine qm hE ?_; clear hE a; intro a hE); all_goals (refine wl hE rfl ?_; refine qn hE ?_; clear hE a; intro a hE); all_goals (refine wl hE rfl ?_; refine qf hE ?_; clear hE a; intro a hE); all_goals (refine wl hE rfl ?_; refine qf hE ?_; clear hE a; intro a hE); all_goals (refine wl hE rfl ?_; refine ql hE hS ?_; clear hE a; intro a hE); all_goals (refine wl hE rfl ?_; refine qn1 hE ?_; clear hE a; intro a hE); all_goals (refine wl hE rfl ?_; refine qm hE ?_; clear hE a; intro a hE)) | refine c_seq ?_ | (refine rg_guard 1 ?_; refine rg_start [0] hE hS ?_; clear hS; (try clear w); intro w hS hX; all_goals (refine rg_y 0 hE hX (by exact y_move) ?_ rfl rfl rfl rfl; clear hE a; intro a hE); all_goals (refine rg_y 1 hE hX (by exact y_nil) ?_ rfl rfl rfl rfl; clear hE a; intro a hE); all_goals (refine rg_y 2 hE hX (by exact y_field) ?_ rfl rfl rfl rfl; clear hE a; intro a hE); all_goals (refine rg_y 3 hE hX (by exact y_field) ?_ rfl rfl rfl rfl; clear hE a; intro a hE); all_goals (refine rg_y 4 hE hX (by exact y_load) ?_ rfl rfl rfl rfl; clear hE a; intro a hE); all_goals (refine rg_y 5 hE hX (by exact y_len) ?_ rfl rfl rfl rfl; clear hE a; intro a hE); all_goals (refine rg_y 6 hE hX (by exact y_move) ?_ rfl rfl rfl rfl; clear hE a; intro a hE); all_goals (refine rg_y 7 hE hX (by exact y_nil) ?_ rfl rfl rfl rfl; clear hE a; intro a hE); all_goals (refine rg_y 8 hE hX (by exact y_field) ?_ rfl rfl rfl rfl; clear hE a; intro a hE); all_goals (refine rg_y 9 hE hX (by exact y_load) ?_ rfl rfl rfl rfl; clear hE a; intro a hE); all_goals (refine rg_y 10 hE hX (by exact y_bin) ?_ rfl rfl rfl rfl; clear hE a; intro a hE); all_goals (refine rg_done ?_ (by kernel_rfl); (try clear hX))) | ((refine c_cond hE rfl ?_ ?_) <;> (intro hb; (first | replace hb := of_decide_eq_true hb | replace hb := of_decide_eq_false hb | (simp only [Bool.not_eq_true', Bool.not_eq_false', decide_eq_true_eq, decide_eq_false_iff_not] at hb) | skip); try (exfalso; first | omega | exact absurd trivial hb | exact absurd rfl hb | (simp only [beq_self_eq_true, bne_self_eq_false, reduceCtorEq] at hb; done)))))
  · subst hg0
    have e : spareE room l = some l := by unfold spareE; rw [if_pos hb]
    rw [e]
    exact p_ret hE rfl rfl ⟨_, rfl, rfl, Ag.in_ hS.fit⟩
  refine c_loopN (fun m a w => ∃ i : Int, 0 ≤ i ∧ i ≤ l.length ∧ m = (l.length - i).toNat ∧ Env a 66 [(0, .pointer (some ⟨g0, 0, none⟩)), (3, .int .i64 (oldestTo l i.toNat)), (21, .slice A l.length c), (22, .int .i64 l.length), (23, .int .i64 i)] ∧ Sep u0 w (blk g0 [.slice A l.length c, .func (.func 45) #[] #[], .int .i64 room, .int .i64 life] 101 :: row 80 4 (.slice A l.length c) l.length (l.flatMap En.cells) :: L)) _ ⟨0, by omega, by omega, rfl, hE.cut ⟨rfl, rfl, rfl, rfl, rfl, trivial⟩, hS⟩ ?_
  clear hE hS a
  clear w
  rintro m a w ⟨i, h0, h1, rfl, hE, hS⟩
  obtain ⟨fi, hfi⟩ : ∃ fi, fi = oldestTo l i.toNat := ⟨_, rfl⟩
  have hrg := oldestTo_rng l i.toNat
  rw [← hfi] at hrg hE
  obtain ⟨x, hx⟩ : ∃ x, l.getD i.toNat E0 = x := ⟨_, rfl⟩
  obtain ⟨y, hy⟩ : ∃ y, l.getD fi.toNat E0 = y := ⟨_, rfl⟩
  repeat' (first | refine wl_nil ?_ | refine then_n ?_ | refine c_block ?_ | refine c_skip ?_ | refine c_exit ?_ | refine c_ret ?_ | refine then_r ?_ | refine then_e ?_ | refine inb_n ?_ | refine inb_e ?_ | (refine c_midr (id := 7) (I := fun a w => Env a 66 [(0, .pointer (some ⟨g0, 0, none⟩)), (3, .int .i64 fi), (4, .int .i64 i), (21, .slice A l.length c), (22, .int .i64 l.length), (23, .int .i64 i), (48, .bool (!x.f && (or (decide (fi < 0)) (decide (x.t < y.t)))))] ∧ Sep u0 w (blk g0 [.slice A l.length c, .func (.func 45) #[] #[], .int .i64 room, .int .i64 life] 101 :: row 80 4 (.slice A l.length c) l.length (l.flatMap En.cells) :: L)) ?_ ?_; rotate_left; clear hE hS; clear a w; rintro a w ⟨hE, hS⟩; skip) | (refine c_regI 5 ?_; all_goals (refine wl hE rfl ?_; refine qb hE ?_; clear hE a; intro a hE)) | (refine c_regI 6 ?_; all_goals (refine wl hE rfl ?_; refine qm hE ?_; clear hE a; intro a hE); all_goals (refine wl hE rfl ?_; refine qi hE hA ?_; clear hE a; intro a hE); all_goals (refine wl hE rfl ?_; refine qlR (i := i) (us := x.cells) (df := E0) hE hS elen (by rw [hx]) ?_; clear hE a; intro a hE); all_goals (refine wl hE rfl ?_; refine qal hE hS ?_; clear hE hS; clear a; intro g a w hE hS); all_goals (refine wl hE rfl ?_; refine qa hE ?_; clear hE a; intro a hE); all_goals (refine wl hE rfl ?_; refine qst0 hE hS ?_; clear hS; intro w hS)) | (refine c_regI 8 ?_; all_goals (refine wl hE rfl ?_; refine qm hE ?_; clear hE a; intro a hE); all_goals (refine wl hE rfl ?_; refine qa hE ?_; clear hE a; intro a hE)) | (refine c_regI 9 ?_; all_goals (refine wl hE rfl ?_; refine qb hE ?_; clear hE a; intro a hE); all_goals (refine wl hE rfl ?_; refine qm hE ?_; clear hE a; intro a hE)) | (refine c_regI 10 ?_; all_goals (refine wl hE rfl ?_; refine qm hE ?_; clear hE a; intro a hE); all_goals (refine wl hE rfl ?_; refine qb hE ?_; clear hE a; intro a hE)) | (refine c_regI 11 ?_; all_goals (refine wl hE rfl ?_; refine qa hE ?_; clear hE a; intro a hE)) | refine c_seq ?_ | ((refine c_cond hE rfl ?_ ?_) <;> (intro hb; (first | replace hb := of_decide_eq_true hb | replace hb := of_decide_eq_false hb | (simp only [Bool.not_eq_true', Bool.not_eq_false', decide_eq_true_eq, decide_eq_false_iff_not] at hb) | skip); try (exfalso; first | omega | exact absurd trivial hb | exact absurd rfl hb | (simp only [beq_self_eq_true, bne_self_eq_false, reduceCtorEq] at hb; done)))))
  rotate_left
  rotate_left
  · skip
    repeat' (first | refine then_n ?_ | (refine rg_guard 7 ?_; refine rg_start [5, 0] hE hS ?_; clear hS; (try clear w); intro w hS hX; all_goals (refine rg_y 0 hE hX (by exact y_field) ?_ rfl rfl rfl rfl; clear hE a; intro a hE); all_goals (refine rg_y 1 hE hX (by exact y_load) ?_ rfl rfl rfl rfl; clear hE a; intro a hE); all_goals (refine rg_y 2 hE hX (by exact y_not) ?_ rfl rfl rfl rfl; clear hE a; intro a hE); all_goals (refine rg_y 3 hE hX (by exact y_move) ?_ rfl rfl rfl rfl; clear hE a; intro a hE); all_goals ((refine rg_split hE 31 rfl ?_ ?_) <;> (clear hE; intro hb hE; (first | replace hb := of_decide_eq_true hb | replace hb := of_decide_eq_false hb | (simp only [Bool.not_eq_true', Bool.not_eq_false', decide_eq_true_eq, decide_eq_false_iff_not] at hb) | skip); try (exfalso; first | omega | exact absurd trivial hb | exact absurd rfl hb | (simp only [beq_self_eq_true, bne_self_eq_false, reduceCtorEq] at hb; done))) <;> (first | (refine rg_y 4 hE hX (by exact y_move) ?_ rfl rfl rfl rfl; clear hE a; intro a hE) | (refine rg_n 4 hE hX ?_ rfl rfl rfl rfl; clear hE a; intro a hE))); all_goals (first | (refine rg_y 5 hE hX (by exact y_bin) ?_ rfl rfl rfl rfl; clear hE a; intro a hE) | (refine rg_n 5 hE hX ?_ rfl rfl rfl rfl; clear hE a; intro a hE)); all_goals (first | (refine rg_y 6 hE hX (by exact y_move) ?_ rfl rfl rfl rfl; clear hE a; intro a hE) | (refine rg_n 6 hE hX ?_ rfl rfl rfl rfl; clear hE a; intro a hE)); all_goals (first | (refine rg_n 7 hE hX ?_ rfl rfl rfl rfl; clear hE a; intro a hE) | ((refine rg_split hE 34 rfl ?_ ?_) <;> (clear hE; intro hb hE; (first | replace hb := of_decide_eq_true hb | replace hb := of_decide_eq_false hb | (simp only [Bool.not_eq_true', Bool.not_eq_false', decide_eq_true_eq, decide_eq_false_iff_not] at hb) | skip); try (exfalso; first | omega | exact absurd trivial hb | exact absurd rfl hb | (simp only [beq_self_eq_true, bne_self_eq_false, reduceCtorEq] at hb; done))) <;> (first | (refine rg_y 7 hE hX (by exact y_field) ?_ rfl rfl rfl rfl; clear hE a; intro a hE) | (refine rg_n 7 hE hX ?_ rfl rfl rfl rfl; clear hE a; intro a hE)))); all_goals (first | (refine rg_y 8 hE hX (by exact y_load) ?_ rfl rfl rfl rfl; clear hE a; intro a hE) | (refine rg_n 8 hE hX ?_ rfl rfl rfl rfl; clear hE a; intro a hE)); all_goals (first | (refine rg_y 9 hE hX (by exact y_move) ?_ rfl rfl rfl rfl; clear hE a; intro a hE) | (refine rg_n 9 hE hX ?_ rfl rfl rfl rfl; clear hE a; intro a hE)); all_goals (first | (refine rg_y 10 hE hX (by exact y_nil) ?_ rfl rfl rfl rfl; clear hE a; intro a hE) | (refine rg_n 10 hE hX ?_ rfl rfl rfl rfl; clear hE a; intro a hE)); all_goals (first | (refine rg_y 11 hE hX (by exact y_field) ?_ rfl rfl rfl rfl; clear hE a; intro a hE) | (refine rg_n 11 hE hX ?_ rfl rfl rfl rfl; clear hE a; intro a hE)); all_goals (first | (refine rg_y 12 hE hX (by exact y_field) ?_ rfl rfl rfl rfl; clear hE a; intro a hE) | (refine rg_n 12 hE hX ?_ rfl rfl rfl rfl; clear hE a; intro a hE)); all_goals (first | (refine rg_y 13 hE hX (by exact y_load) ?_ rfl rfl rfl rfl; clear hE a; intro a hE) | (refine rg_n 13 hE hX ?_ rfl rfl rfl rfl; clear hE a; intro a hE)); all_goals (first | (refine rg_y 14 hE hX (by exact y_move) ?_ rfl rfl rfl rfl; clear hE a; intro a hE) | (refine rg_n 14 hE hX ?_ rfl rfl rfl rfl; clear hE a; intro a hE)); all_goals (first | (refine rg_y 15 hE hX (by exact y_index hA) ?_ rfl rfl rfl rfl; clear hE a; intro a hE) | (refine rg_n 15 hE hX ?_ rfl rfl rfl rfl; clear hE a; intro a hE)); all_goals (first | (refine rg_y 16 hE hX (by exact y_fieldFF) ?_ rfl rfl rfl rfl; clear hE a; intro a hE) | (refine rg_n 16 hE hX ?_ rfl rfl rfl rfl; clear hE a; intro a hE)); all_goals (first | (refine rg_e 17 hE rfl rfl (by kernel_rfl) ?_; intro K hK; (refine qlP (i := fi) (df := E0) 2 hE hS elen (by rw [hy]; rfl) ?_; clear hE a; intro a hE); refine rg_k hK hS ?_; clear hK hX; clear K; intro hX) | (refine rg_es 17 hE hX rfl rfl rfl rfl (by kernel_rfl) ?_; clear hE a; intro a hE)); all_goals (first | (refine rg_y 18 hE hX (by exact y_bin) ?_ rfl rfl rfl rfl; clear hE a; intro a hE) | (refine rg_n 18 hE hX ?_ rfl rfl rfl rfl; clear hE a; intro a hE)); all_goals (first | (refine rg_y 19 hE hX (by first | exact y_pick_t | exact y_pick_f) ?_ rfl rfl rfl rfl; clear hE a; intro a hE) | (refine rg_n 19 hE hX ?_ rfl rfl rfl rfl; clear hE a; intro a hE)); all_goals (refine rg_y 20 hE hX (by first | exact y_pick_t | exact y_pick_f) ?_ rfl rfl rfl rfl; clear hE a; intro a hE); all_goals (refine rg_done ?_ (by kernel_rfl); (try clear hX))))
    all_goals refine ⟨hE.cut ⟨rfl, rfl, rfl, rfl, rfl, rfl, (Eq.trans (b := some (Value.bool _)) rfl (congrArg (fun b => some (Value.bool b)) ?_)), trivial⟩, hS.fit⟩
    all_goals clear hE hS hfi hx hy hrg
    all_goals simp [*]
  · subst hg0
    have ei : i.toNat = l.length := by omega
    have e : spareE room l = none := by
      unfold spareE
      rw [if_neg (by omega), ← ei, ← hfi, if_pos hb]
    rw [e]
    exact p_ret hE rfl rfl ⟨_, rfl, rfl, Ag.in_ hS.fit⟩
  · have ei : i.toNat = l.length := by omega
    have hfi2 : fi.toNat < l.length := by omega
    have hz := del_len l fi.toNat hfi2
    repeat' (first | refine wl_nil ?_ | refine then_n ?_ | refine c_ret ?_ | (refine c_regI 12 ?_; all_goals (refine wl hE rfl ?_; refine qm hE ?_; clear hE a; intro a hE); all_goals (refine wl hE rfl ?_; refine qm hE ?_; clear hE a; intro a hE); all_goals (refine wl hE rfl ?_; refine qn hE ?_; clear hE a; intro a hE); all_goals (refine wl hE rfl ?_; refine qf hE ?_; clear hE a; intro a hE); all_goals (refine wl hE rfl ?_; refine qf hE ?_; clear hE a; intro a hE); all_goals (refine wl hE rfl ?_; refine ql hE hS ?_; clear hE a; intro a hE); all_goals (refine wl hE rfl ?_; refine qm hE ?_; clear hE a; intro a hE); all_goals (refine wl hE rfl ?_; refine qm hE ?_; clear hE a; intro a hE); all_goals (refine wl hE rfl ?_; refine qb hE ?_; clear hE a; intro a hE); all_goals (refine wl hE rfl ?_; refine is_call 75 rfl ?_; refine qc hE (delete_j A c l fi u0 _ _ (by omega) (by omega) hl hS.fit) ?_; clear hE hS; clear a; rintro _ a w ⟨rfl, hS⟩ hE); all_goals (refine wl hE rfl ?_; refine qn hE ?_; clear hE a; intro a hE); all_goals (refine wl hE rfl ?_; refine qf hE ?_; clear hE a; intro a hE); all_goals (refine wl hE rfl ?_; refine qf hE ?_; clear hE a; intro a hE); all_goals (refine wl hE rfl ?_; refine qst hE hS ?_; clear hS; intro w hS)) | (refine c_regI 13 ?_; all_goals (refine wl hE rfl ?_; refine qa hE ?_; clear hE a; intro a hE)) | refine c_seq ?_)
    all_goals subst hg0
    have e : spareE room l = some (l.eraseIdx fi.toNat) := by
      unfold spareE
      rw [if_neg (by omega), ← ei, ← hfi, if_neg hb]
    rw [e]
    refine p_ret hE rfl rfl ⟨_, rfl, rfl, Ag.in_ (A := A) (c := c) ?_⟩
    simp only [Option.getD_some]
    rw [hz]
    exact hS.fit
  · refine ⟨_, ?_, i + 1, by omega, by omega, rfl, ?_, hS.fit⟩
    · omega
    have e : oldestTo l (i + 1).toNat = i := by
      have e1 : (i + 1).toNat = i.toNat + 1 := by omega
      rw [e1, oldestTo, ← hfi, hx, hy, if_pos hb]
      omega
    rw [e]
    exact hE.cut ⟨rfl, rfl, rfl, rfl, rfl, trivial⟩
  · refine ⟨_, ?_, i + 1, by omega, by omega, rfl, ?_, hS.fit⟩
    · omega
    have e : oldestTo l (i + 1).toNat = fi := by
      have e1 : (i + 1).toNat = i.toNat + 1 := by omega
      rw [e1, oldestTo, ← hfi, hx, hy, if_neg (by rw [hb]; decide)]
    rw [e]
    exact hE.cut ⟨rfl, rfl, rfl, rfl, rfl, trivial⟩
end Go.Proofs.Ytdaciolahgfhiaa
/- DERIVED. Layer 10: a table as a list by rising keys. No condition. -/
namespace Go.Proofs.Ytdaciolahgfhiaa
open Go.RowKit Go.Sx Go.Proofs.YtdaciolahgfhiaaTy
set_option linter.unusedVariables false
set_option linter.unusedSimpArgs false
def getE (l : List En) (k : Int) : Option En := l.find? fun x => decide (x.k = k)
def putE (l : List En) (x : En) : List En := (l.filter fun y => decide (y.k < x.k)) ++ x :: l.filter fun y => decide (x.k < y.k)
theorem getE_mem {l : List En} (h : Rising l) {x : En} (hx : x ∈ l) : getE l x.k = some x := by
  induction l with
  | nil => simp at hx
  | cons a l ih =>
    rw [Rising, List.pairwise_cons] at h
    rcases List.mem_cons.1 hx with rfl | hx
    · simp [getE]
    · have := h.1 x hx
      have hne : ¬ a.k = x.k := by omega
      simp only [getE, List.find?_cons, hne, decide_false]
      exact ih h.2 hx
theorem getE_some {l : List En} {k : Int} {x : En} (h : getE l k = some x) : x ∈ l ∧ x.k = k := ⟨List.mem_of_find?_eq_some h, by simpa using List.find?_some h⟩
theorem getE_none {l : List En} {k : Int} (h : getE l k = none) : ∀ x ∈ l, x.k ≠ k := by
  intro x hx
  have := List.find?_eq_none.1 h x hx
  simpa using this
theorem find_getE {l : List En} (h : Rising l) {k i : Int} (hi : At1 l k i) : (getE l k = none ∧ ¬ (i < l.length ∧ (l.getD i.toNat E0).k = k)) ∨ (getE l k = some (l.getD i.toNat E0) ∧ i < l.length ∧ (l.getD i.toNat E0).k = k) := by
  obtain ⟨h0, h1, h2, h3⟩ := hi
  by_cases hc : i < l.length ∧ (l.getD i.toNat E0).k = k
  · right
    refine ⟨?_, hc⟩
    have := getE_mem h (x := l.getD i.toNat E0) (getD_memE (by omega))
    rwa [hc.2] at this
  · left
    refine ⟨?_, hc⟩
    cases hg : getE l k with
    | none => rfl
    | some x =>
      exfalso
      obtain ⟨hm, hk⟩ := getE_some hg
      obtain ⟨j, hj, rfl⟩ := List.getElem_of_mem hm
      have e : l.getD j E0 = l[j] := by simp [hj]
      by_cases hji : (j : Int) < i
      · have := h2 j hji
        rw [e] at this
        omega
      · have hi' : i < l.length := by omega
        have h4 := h3 i.toNat (by omega) (by omega)
        by_cases hji2 : (j : Int) = i
        · apply hc
          refine ⟨hi', ?_⟩
          have : i.toNat = j := by omega
          rw [this, e, hk]
        · have h5 := h.lt (i := i.toNat) (j := j) (by omega) hj
          rw [e] at h5
          omega
theorem take_lt {l : List En} {k i : Int} (hi : At1 l k i) : ∀ y ∈ l.take i.toNat, y.k < k := by
  intro y hy
  obtain ⟨j, hj, rfl⟩ := List.getElem_of_mem hy
  rw [List.length_take] at hj
  have := hi.2.2.1 j (by have := hi.1; omega)
  rw [List.getElem_take]
  have e : l.getD j E0 = l[j] := by simp [show j < l.length by omega]
  rwa [e] at this
theorem drop_ge {l : List En} {k i : Int} (hi : At1 l k i) : ∀ y ∈ l.drop i.toNat, k ≤ y.k := by
  intro y hy
  obtain ⟨j, hj, rfl⟩ := List.getElem_of_mem hy
  rw [List.length_drop] at hj
  have := hi.2.2.2 (i.toNat + j) (by have := hi.1; omega) (by omega)
  rw [List.getElem_drop]
  have e : l.getD (i.toNat + j) E0 = l[i.toNat + j] := by simp [show i.toNat + j < l.length by omega]
  rwa [e] at this
theorem putAt_putE {l : List En} (h : Rising l) {x : En} {i : Int} (hi : At1 l x.k i) : putAt l i x = putE l x := by
  have ht := take_lt hi
  have hd := drop_ge hi
  have hsplit : l = l.take i.toNat ++ l.drop i.toNat := (List.take_append_drop _ _).symm
  have f1 : (l.take i.toNat).filter (fun y => decide (y.k < x.k)) = l.take i.toNat := List.filter_eq_self.2 (fun y hy => decide_eq_true (ht y hy))
  have f2 : (l.take i.toNat).filter (fun y => decide (x.k < y.k)) = [] := List.filter_eq_nil_iff.2 (fun y hy => by have := ht y hy; simp; omega)
  have f3 : (l.drop i.toNat).filter (fun y => decide (y.k < x.k)) = [] := List.filter_eq_nil_iff.2 (fun y hy => by have := hd y hy; simp; omega)
  have e1 : l.filter (fun y => decide (y.k < x.k)) = l.take i.toNat := by
    conv => lhs; rw [hsplit]
    rw [List.filter_append, f1, f3, List.append_nil]
  have e2 : l.filter (fun y => decide (x.k < y.k)) = (l.drop i.toNat).filter (fun y => decide (x.k < y.k)) := by
    conv => lhs; rw [hsplit]
    rw [List.filter_append, f2, List.nil_append]
  unfold putE
  rw [e1, e2]
  unfold putAt
  split
  case isTrue hc =>
    have hlt : i.toNat < l.length := by have := hi.1; omega
    rw [List.drop_eq_getElem_cons hlt]
    have e : l.getD i.toNat E0 = l[i.toNat] := by simp [hlt]
    rw [e] at hc
    rw [List.filter_cons_of_neg (by rw [hc.2]; simp)]
    have f5 : (l.drop (i.toNat + 1)).filter (fun y => decide (x.k < y.k)) = l.drop (i.toNat + 1) := List.filter_eq_self.2 (fun y hy => by
      obtain ⟨j, hj, rfl⟩ := List.getElem_of_mem hy
      rw [List.length_drop] at hj
      rw [List.getElem_drop]
      have := h.lt (i := i.toNat) (j := i.toNat + 1 + j) (by omega) (by omega)
      have e3 : l.getD (i.toNat + 1 + j) E0 = l[i.toNat + 1 + j] := by simp [show i.toNat + 1 + j < l.length by omega]
      rw [e, e3] at this
      exact decide_eq_true (by omega))
    rw [f5, List.set_eq_take_append_cons_drop, if_pos hlt]
  case isFalse hc =>
    have f5 : (l.drop i.toNat).filter (fun y => decide (x.k < y.k)) = l.drop i.toNat := List.filter_eq_self.2 (fun y hy => by
      have h1 := hd y hy
      apply decide_eq_true
      rcases Int.lt_or_eq_of_le h1 with h1 | h1
      · exact h1
      · exfalso
        obtain ⟨j, hj, rfl⟩ := List.getElem_of_mem hy
        rw [List.length_drop] at hj
        rw [List.getElem_drop] at h1
        have hlt : i.toNat < l.length := by omega
        have h6 := hd (l[i.toNat]) (by rw [List.drop_eq_getElem_cons hlt]; exact List.mem_cons_self)
        have e : l.getD i.toNat E0 = l[i.toNat] := by simp [hlt]
        rw [e] at hc
        by_cases hj0 : j = 0
        · subst hj0
          exact hc ⟨by have := hi.1; omega, by simpa using h1.symm⟩
        · have := h.lt (i := i.toNat) (j := i.toNat + j) (by omega) (by omega)
          have e3 : l.getD (i.toNat + j) E0 = l[i.toNat + j] := by simp [show i.toNat + j < l.length by omega]
          rw [e, e3] at this
          omega)
    rw [f5]
    simp [insAt]
/-- What stays true of a table's list. -/
structure Inv (room : Int) (l : List En) : Prop where
  up : Rising l
  times : Times l
  len : l.length ≤ room
theorem filter_inv {room : Int} {l : List En} (h : Inv room l) (p : En → Bool) : Inv room (l.filter p) :=
  ⟨h.up.filter p, fun x hx => h.times x (List.mem_filter.1 hx).1, by have := List.length_filter_le p l; have := h.len; omega⟩
theorem erase_inv {room : Int} {l : List En} (h : Inv room l) (i : Nat) : Inv room (l.eraseIdx i) :=
  ⟨List.Pairwise.sublist (List.eraseIdx_sublist l i) h.up, fun x hx => h.times x (List.mem_of_mem_eraseIdx hx), by have := (List.eraseIdx_sublist l i).length_le; have := h.len; omega⟩
theorem spare_inv {room : Int} {l l2 : List En} (hr : 1 ≤ room) (h : Inv room l) (hs : spareE room l = some l2) : Inv room l2 ∧ (l2.length : Int) < room ∧ ∀ x ∈ l2, x ∈ l := by
  unfold spareE at hs
  split at hs
  · cases hs; exact ⟨h, by assumption, fun x hx => hx⟩
  · split at hs
    · cases hs
    · have hs := Option.some.inj hs
      subst hs
      rename_i h1 h2
      have h3 := (oldestTo_rng l l.length).2
      have h4 := List.length_eraseIdx_of_lt (l := l) (i := (oldestTo l l.length).toNat) (by omega)
      have h5 := h.len
      exact ⟨erase_inv h _, by omega, fun x hx => List.mem_of_mem_eraseIdx hx⟩
theorem put_len {l : List En} (h : Rising l) (x : En) : (putE l x).length + (getE l x.k).toList.length = l.length + 1 := by
  induction l with
  | nil => simp [putE, getE]
  | cons a l ih =>
    rw [Rising, List.pairwise_cons] at h
    have ih := ih h.2
    simp only [putE, List.length_append, List.length_cons] at ih ⊢
    by_cases h1 : a.k < x.k
    · have h2 : ¬ x.k < a.k := by omega
      have h3 : ¬ a.k = x.k := by omega
      have g : getE (a :: l) x.k = getE l x.k := by simp [getE, h3]
      rw [List.filter_cons_of_pos (by simpa using h1), List.filter_cons_of_neg (by simpa using h2), g, List.length_cons]
      omega
    · by_cases h3 : a.k = x.k
      · have h2 : ¬ x.k < a.k := by omega
        have h4 : getE l x.k = none := List.find?_eq_none.2 (fun y hy => by have := h.1 y hy; simp; omega)
        have g : getE (a :: l) x.k = some a := by simp [getE, h3]
        rw [h4] at ih
        rw [List.filter_cons_of_neg (by simpa using h1), List.filter_cons_of_neg (by simpa using h2), g]
        simp only [Option.toList_none, Option.toList_some, List.length_nil, List.length_singleton] at ih ⊢
        omega
      · have h2 : x.k < a.k := by omega
        have g : getE (a :: l) x.k = getE l x.k := by simp [getE, h3]
        rw [List.filter_cons_of_neg (by simpa using h1), List.filter_cons_of_pos (by simpa using h2), g, List.length_cons]
        omega
theorem put_rising {l : List En} (h : Rising l) (x : En) : Rising (putE l x) := by
  unfold putE
  rw [Rising, List.pairwise_append, List.pairwise_cons]
  refine ⟨h.filter _, ⟨?_, h.filter _⟩, ?_⟩
  · intro y hy
    exact of_decide_eq_true (List.mem_filter.1 hy).2
  · intro y hy z hz
    have h1 := of_decide_eq_true (List.mem_filter.1 hy).2
    rcases List.mem_cons.1 hz with rfl | hz
    · exact h1
    · have h2 := of_decide_eq_true (List.mem_filter.1 hz).2
      omega
theorem mem_put {l : List En} {x y : En} : y ∈ putE l x ↔ y = x ∨ (y ∈ l ∧ y.k ≠ x.k) := by
  simp only [putE, List.mem_append, List.mem_cons, List.mem_filter, decide_eq_true_eq]
  constructor
  · rintro (⟨h1, h2⟩ | rfl | ⟨h1, h2⟩)
    · exact .inr ⟨h1, by omega⟩
    · exact .inl rfl
    · exact .inr ⟨h1, by omega⟩
  · rintro (rfl | ⟨h1, h2⟩)
    · exact .inr (.inl rfl)
    · by_cases h3 : y.k < x.k
      · exact .inl ⟨h1, h3⟩
      · exact .inr (.inr ⟨h1, by omega⟩)
theorem put_inv {room : Int} {l : List En} (h : Inv room l) {x : En} (ht : 0 ≤ x.t ∧ x.t ≤ 1099511627776) (hr : (getE l x.k).isSome ∨ (l.length : Int) < room) : Inv room (putE l x) := by
  refine ⟨put_rising h.up x, ?_, ?_⟩
  · intro y hy
    rcases mem_put.1 hy with rfl | ⟨h1, _⟩
    · exact ht
    · exact h.times y h1
  · have h1 := put_len h.up x
    have h2 := h.len
    rcases hr with hr | hr
    · obtain ⟨z, hz⟩ := Option.isSome_iff_exists.1 hr
      rw [hz] at h1
      simp at h1
      omega
    · omega
/-- Put; Fix; Get; on the list. -/
def putT (room life : Int) (l : List En) (k v now : Int) : Int × List En :=
  if okT now = true then
    match getE l k with
    | some x => if x.f = true then (100, l) else (0, putE l ⟨k, v, now, false⟩)
    | none => match spareE room (noOld life now l) with
      | some l2 => (0, putE l2 ⟨k, v, now, false⟩)
      | none => (101, noOld life now l)
  else (1, l)
def getT (life : Int) (l : List En) (k now : Int) : En × Bool :=
  match getE l k with
  | some x => if okT now = true ∧ oldE life now x = false then (x, true) else (E0, false)
  | none => (E0, false)
theorem okT_of {now : Int} (h : okT now = true) : 0 ≤ now ∧ now ≤ 1099511627776 := of_decide_eq_true h
theorem putT_inv {room life : Int} {l : List En} (hr : 1 ≤ room) (h : Inv room l) (k v now : Int) : Inv room (putT room life l k v now).2 := by
  unfold putT
  split
  · rename_i hok
    split
    · rename_i x hx
      split
      · exact h
      · exact put_inv h (okT_of hok) (.inl (by rw [hx]; rfl))
    · split
      · rename_i l2 h2
        obtain ⟨h3, h4, _⟩ := spare_inv hr (filter_inv h _) h2
        exact put_inv h3 (okT_of hok) (.inr h4)
      · exact filter_inv h _
  · exact h
end Go.Proofs.Ytdaciolahgfhiaa
/- DERIVED. Layer 10: Put, Fix, Get. No condition. -/
namespace Go.Proofs.Ytdaciolahgfhiaa
open Go.RowKit Go.Sx Go.Proofs.YtdaciolahgfhiaaTy
set_option linter.unusedVariables false
set_option linter.unusedSimpArgs false
set_option maxRecDepth 100000
attribute [local irreducible] Oper.wp Code.wp wpList wpAnyH Calls bodyPost Exit.then Exit.inBlock Code.rounds
set_option maxHeartbeats 1000000
theorem spareD_inv {room : Int} {l : List En} (hr : 1 ≤ room) (h : Inv room l) : Inv room ((spareE room l).getD l) := by
  cases hs : spareE room l with
  | none => exact h
  | some l2 => exact (spare_inv hr h hs).1
theorem find_g (g : Nat) (l : List En) (room life key : Int) (u0 w0 : World) (L : List Asn) (hS0 : Sep u0 w0 (Ag g l room life :: L)) (hl : l.length ≤ 1073741822) (hs : Rising l) :
    Calls Try.prog 48 #[.pointer (some ⟨g, 0, none⟩), .int .u64 key] w0 fun e w' => ∃ r, e = .returned r ∧ (∃ i : Int, r = .tuple #[.int .i64 i, .bool (decide (i < l.length ∧ (l.getD i.toNat E0).k = key))] ∧ At1 l key i) ∧ Sep u0 w' (Ag g l room life :: L) := by
  obtain ⟨A, c, hS⟩ := Ag.out hS0
  refine (find_t A c g l key _ w0 (blk_At hS) (Rd.row (A := A) (n := l.length) (c := c) (xs := l.flatMap En.cells) hS) (by omega) hs).mono ?_
  rintro e w' ⟨r, rfl, h, h1⟩
  exact ⟨r, rfl, h, Ag.in_ ((hS.then h1).fit)⟩
theorem oput_g (g : Nat) (l : List En) (room life : Int) (x : En) (u0 w0 : World) (L : List Asn) (hS0 : Sep u0 w0 (Ag g l room life :: L)) (hl : l.length ≤ 1073741822) (hs : Rising l) : Calls Try.prog 55 #[.pointer (some ⟨g, 0, none⟩), .agg x.cells.toArray] w0 fun e w' => ∃ r, e = .returned r ∧ r = .tuple #[] ∧ Sep u0 w' (Ag g (putE l x) room life :: L) := by
  refine (oput_s g l room life x u0 w0 L hS0 hl hs).mono ?_
  rintro e w' ⟨r, rfl, h, i, hi, h1⟩
  rw [putAt_putE hs hi] at h1
  exact ⟨r, rfl, h, h1⟩
theorem put_s (g : Nat) (l : List En) (room life k v now : Int) (u0 w0 : World) (L : List Asn) (hS0 : Sep u0 w0 (Ag g l room life :: L)) (hr : 1 ≤ room ∧ room ≤ 4096) (hI : Inv room l) : Calls Try.prog 35 #[.pointer (some ⟨g, 0, none⟩), .int .u64 k, .int .u64 v, .int .i64 now] w0 fun e w' => ∃ r, e = .returned r ∧ r = .int .i64 (putT room life l k v now).1 ∧ Sep u0 w' (Ag g (putT room life l k v now).2 room life :: L) := by
  refine enter (args := [.pointer (some ⟨g, 0, none⟩), .int .u64 k, .int .u64 v, .int .i64 now]) 52 Try.func35 rfl rfl rfl ?_
  intro a hE _
  have hl := hI.len
  have hS := hS0
  clear hS0
  obtain ⟨g0, hg0⟩ : ∃ g0, g0 = g := ⟨_, rfl⟩
  rw [← hg0] at hE hS ⊢
  clear hg0
  revert hE
  revert hS
  generalize w0 = w
  intro hS hE
  have hI2 : Inv room (noOld life now l) := filter_inv hI _
  have hJ : Inv room ((spareE room (noOld life now l)).getD (noOld life now l)) := spareD_inv hr.1 hI2
  repeat' (first | refine wl_nil ?_ | refine then_n ?_ | refine c_block ?_ | refine c_skip ?_ | refine c_ret ?_ | refine then_r ?_ | (refine c_regI 0 ?_; all_goals (refine wl hE rfl ?_; refine qa hE ?_; clear hE a; intro a hE)) | (refine c_regI 1 ?_; all_goals (refine wl hE rfl ?_; refine qm hE ?_; clear hE a; intro a hE); all_goals (refine wl hE rfl ?_; refine is_call 49 rfl ?_; refine qc hE (time_s _ _) ?_; clear hE; clear a; rintro _ a w ⟨rfl, hS1⟩ hE; replace hS := hS.then hS1; clear hS1); all_goals (refine wl hE rfl ?_; refine qu hE ?_; clear hE a; intro a hE)) | (refine c_regI 2 ?_; all_goals (refine wl hE rfl ?_; refine qa hE ?_; clear hE a; intro a hE)) | (refine c_regI 3 ?_; all_goals (refine wl hE rfl ?_; refine qm hE ?_; clear hE a; intro a hE); all_goals (refine wl hE rfl ?_; refine qn hE ?_; clear hE a; intro a hE); all_goals (refine wl hE rfl ?_; refine qf hE ?_; clear hE a; intro a hE); all_goals (refine wl hE rfl ?_; refine qm hE ?_; clear hE a; intro a hE); all_goals (refine wl hE rfl ?_; refine is_call 48 rfl ?_; refine qc hE (find_g g0 l room life k u0 _ _ hS.fit (by omega) hI.up) ?_; clear hE hS; clear a; rintro _ a w ⟨⟨i, rfl, hi⟩, hS⟩ hE); all_goals (refine wl hE rfl ?_; refine qm hE ?_; clear hE a; intro a hE); all_goals (refine wl hE rfl ?_; refine qe hE ?_; clear hE a; intro a hE); all_goals (refine wl hE rfl ?_; refine qe hE ?_; clear hE a; intro a hE); all_goals (refine wl hE rfl ?_; refine qa hE ?_; clear hE a; intro a hE); all_goals (refine wl hE rfl ?_; refine qa hE ?_; clear hE a; intro a hE)) | refine c_seq ?_ | ((refine c_cond hE rfl ?_ ?_) <;> (intro hb; (first | replace hb := of_decide_eq_true hb | replace hb := of_decide_eq_false hb | (simp only [Bool.not_eq_true', Bool.not_eq_false', decide_eq_true_eq, decide_eq_false_iff_not] at hb) | skip); try (exfalso; first | omega | exact absurd trivial hb | exact absurd rfl hb | (simp only [beq_self_eq_true, bne_self_eq_false, reduceCtorEq] at hb; done)))))
  · have e : putT room life l k v now = (1, l) := by simp only [putT, hb, if_neg Bool.false_ne_true]
    rw [e]
    exact p_ret hE rfl rfl ⟨_, rfl, rfl, hS.fit⟩
  have hok := hb
  clear hb
  obtain ⟨A, c, hS⟩ := Ag.out hS
  have hA : (0 : Int) < l.length → A = some (adr A) := fun h => (Rd.row (A := A) (n := l.length) (c := c) (xs := l.flatMap En.cells) hS).some (by rw [flat_len elen]; omega)
  obtain ⟨x, hx⟩ : ∃ x, l.getD i.toNat E0 = x := ⟨_, rfl⟩
  obtain ⟨hc1, hc2, _⟩ := hS.drop.row_cap
  have hi0 := hi.1
  repeat' (first | refine wl_nil ?_ | refine then_n ?_ | refine c_skip ?_ | refine c_ret ?_ | refine then_r ?_ | refine inb_n ?_ | refine inb_r ?_ | refine c_cond_f hE rfl ?_ | (refine c_regI 4 ?_; all_goals (refine wl hE rfl ?_; refine qm hE ?_; clear hE a; intro a hE); all_goals (refine wl hE rfl ?_; refine qm hE ?_; clear hE a; intro a hE); all_goals ((refine wl_splitg hE rfl rfl ?_ ?_) <;> (clear hE; intro hb hE; (first | replace hb := of_decide_eq_true hb | replace hb := of_decide_eq_false hb | (simp only [Bool.not_eq_true', Bool.not_eq_false', decide_eq_true_eq, decide_eq_false_iff_not] at hb) | skip); try (exfalso; first | omega | exact absurd trivial hb | exact absurd rfl hb | (simp only [beq_self_eq_true, bne_self_eq_false, reduceCtorEq] at hb; done))) <;> (first | (refine wl hE rfl ?_; refine qm hE ?_; clear hE a; intro a hE) | (refine wl_skip hE rfl rfl rfl ?_; clear hE a; intro a hE))); all_goals (first | (refine wl hE rfl ?_; refine qn hE ?_; clear hE a; intro a hE) | (refine wl_skip hE rfl rfl rfl ?_; clear hE a; intro a hE)); all_goals (first | (refine wl hE rfl ?_; refine qf hE ?_; clear hE a; intro a hE) | (refine wl_skip hE rfl rfl rfl ?_; clear hE a; intro a hE)); all_goals (first | (refine wl hE rfl ?_; refine qf hE ?_; clear hE a; intro a hE) | (refine wl_skip hE rfl rfl rfl ?_; clear hE a; intro a hE)); all_goals (first | (refine wl hE rfl ?_; refine ql hE hS ?_; clear hE a; intro a hE) | (refine wl_skip hE rfl rfl rfl ?_; clear hE a; intro a hE)); all_goals (first | (refine wl hE rfl ?_; refine qm hE ?_; clear hE a; intro a hE) | (refine wl_skip hE rfl rfl rfl ?_; clear hE a; intro a hE)); all_goals (first | (refine wl hE rfl ?_; refine qi hE hA ?_; clear hE a; intro a hE) | (refine wl_skip hE rfl rfl rfl ?_; clear hE a; intro a hE)); all_goals (first | (refine wl hE rfl ?_; refine qFF hE ?_; clear hE a; intro a hE) | (refine wl_skip hE rfl rfl rfl ?_; clear hE a; intro a hE)); all_goals (first | (refine wl hE rfl ?_; refine qlP (i := i) (df := E0) 3 hE hS elen (by rw [hx]; rfl) ?_; clear hE a; intro a hE) | (refine wl_skip hE rfl rfl rfl ?_; clear hE a; intro a hE)); all_goals (refine wl hE rfl ?_; first | (refine qpt hE ?_; clear hE a; intro a hE) | (refine qpf hE ?_; clear hE a; intro a hE)); all_goals (refine wl hE rfl ?_; refine qa hE ?_; clear hE a; intro a hE)) | (refine c_regI 5 ?_; all_goals (refine wl hE rfl ?_; refine qa hE ?_; clear hE a; intro a hE)) | (refine c_regI 6 ?_; all_goals (refine wl hE rfl ?_; refine qm hE ?_; clear hE a; intro a hE); all_goals (refine wl hE rfl ?_; refine qu hE ?_; clear hE a; intro a hE); all_goals (refine wl hE rfl ?_; refine qa hE ?_; clear hE a; intro a hE)) | (refine c_regI 7 ?_; all_goals (refine wl hE rfl ?_; refine qm hE ?_; clear hE a; intro a hE); all_goals (refine wl hE rfl ?_; refine qm hE ?_; clear hE a; intro a hE); all_goals (refine wl hE rfl ?_; refine is_call 53 rfl ?_; refine qc hE (expire_s g0 l room life now u0 _ _ (Ag.in_ (A := A) (c := c) hS.fit) (by omega) hI.times) ?_; clear hE hS; clear a; rintro _ a w ⟨rfl, hS⟩ hE; rw [if_pos hok] at hS)) | (refine c_regI 8 ?_; all_goals (refine wl hE rfl ?_; refine qm hE ?_; clear hE a; intro a hE); all_goals (refine wl hE rfl ?_; refine is_call 54 rfl ?_; refine qc hE (makeRoom_s g0 (noOld life now l) room life u0 _ _ hS.fit (by have := (hI2).len; omega)) ?_; clear hE hS; clear a; rintro _ a w ⟨rfl, hS⟩ hE); all_goals (refine wl hE rfl ?_; refine qu hE ?_; clear hE a; intro a hE)) | (refine c_regI 9 ?_; all_goals (refine wl hE rfl ?_; refine qa hE ?_; clear hE a; intro a hE)) | (refine c_regI 10 ?_; all_goals (refine wl hE rfl ?_; refine qm hE ?_; clear hE a; intro a hE); all_goals (refine wl hE rfl ?_; refine qn hE ?_; clear hE a; intro a hE); all_goals (refine wl hE rfl ?_; refine qf hE ?_; clear hE a; intro a hE); all_goals (refine wl hE rfl ?_; refine qm hE ?_; clear hE a; intro a hE); all_goals (refine wl hE rfl ?_; refine qm hE ?_; clear hE a; intro a hE); all_goals (refine wl hE rfl ?_; refine qm hE ?_; clear hE a; intro a hE); all_goals (refine wl hE rfl ?_; refine qbu hE ?_; clear hE a; intro a hE); all_goals (refine wl hE rfl ?_; first | (refine is_call 55 rfl ?_; refine qc hE (oput_g g0 l room life ⟨k, v, now, false⟩ u0 _ _ (Ag.in_ (A := A) (c := c) hS.fit) (by have := (hI).len; omega) (hI).up) ?_; clear hE hS; clear a; rintro _ a w ⟨rfl, hS⟩ hE) | (refine is_call 55 rfl ?_; refine qc hE (oput_g g0 ((spareE room (noOld life now l)).getD (noOld life now l)) room life ⟨k, v, now, false⟩ u0 _ _ hS.fit (by have := (hJ).len; omega) (hJ).up) ?_; clear hE hS; clear a; rintro _ a w ⟨rfl, hS⟩ hE))) | (refine c_regI 11 ?_; all_goals (refine wl hE rfl ?_; refine qa hE ?_; clear hE a; intro a hE)) | refine c_seq ?_ | ((refine c_cond hE rfl ?_ ?_) <;> (intro hb; (first | replace hb := of_decide_eq_true hb | replace hb := of_decide_eq_false hb | (simp only [Bool.not_eq_true', Bool.not_eq_false', decide_eq_true_eq, decide_eq_false_iff_not] at hb) | skip); try (exfalso; first | omega | exact absurd trivial hb | exact absurd rfl hb | (simp only [beq_self_eq_true, bne_self_eq_false, reduceCtorEq] at hb; done)))))
  all_goals rcases find_getE hI.up hi with ⟨hg, hn⟩ | ⟨hg, hp⟩
  all_goals first | (exfalso; clear hE; omega) | skip
  all_goals try rw [hx] at hg
  · have e : putT room life l k v now = (100, l) := by simp only [putT, hok, if_true, hg, hb]
    rw [e]
    exact p_ret hE rfl rfl ⟨_, rfl, rfl, Ag.in_ (A := A) (c := c) hS.fit⟩
  · have hxf : x.f = false := by assumption
    have e : putT room life l k v now = (0, putE l ⟨k, v, now, false⟩) := by simp only [putT, hok, if_true, hg, hxf, if_neg Bool.false_ne_true]
    rw [e]
    exact p_ret hE rfl rfl ⟨_, rfl, rfl, hS.fit⟩
  · have e1 : spareE room (noOld life now l) = none := by simpa using hb
    have e : putT room life l k v now = (101, noOld life now l) := by simp only [putT, hok, if_true, hg, e1]
    rw [e1] at hS
    rw [e]
    exact p_ret hE rfl rfl ⟨_, rfl, rfl, hS.fit⟩
  · obtain ⟨l2, e1⟩ := Option.isSome_iff_exists.1 hb
    have e : putT room life l k v now = (0, putE l2 ⟨k, v, now, false⟩) := by simp only [putT, hok, if_true, hg, e1]
    rw [e1] at hS
    rw [e]
    exact p_ret hE rfl rfl ⟨_, rfl, rfl, hS.fit⟩
end Go.Proofs.Ytdaciolahgfhiaa
/- DERIVED. Layer 10: Get, Entries, Copy, New. No condition. -/
namespace Go.Proofs.Ytdaciolahgfhiaa
open Go.RowKit Go.Sx Go.Proofs.YtdaciolahgfhiaaTy
set_option linter.unusedVariables false
set_option linter.unusedSimpArgs false
set_option maxRecDepth 100000
attribute [local irreducible] Oper.wp Code.wp wpList wpAnyH Calls bodyPost Exit.then Exit.inBlock Code.rounds
set_option maxHeartbeats 1000000
theorem get_s (g : Nat) (l : List En) (room life k now : Int) (u0 w0 : World) (L : List Asn) (hS0 : Sep u0 w0 (Ag g l room life :: L)) (hr : 1 ≤ room ∧ room ≤ 4096) (hI : Inv room l) : Calls Try.prog 31 #[.pointer (some ⟨g, 0, none⟩), .int .u64 k, .int .i64 now] w0 fun e w' => ∃ r, e = .returned r ∧ r = .tuple #[.agg (getT life l k now).1.cells.toArray, .bool (getT life l k now).2] ∧ Sep u0 w' (Ag g l room life :: L) := by
  refine enter (args := [.pointer (some ⟨g, 0, none⟩), .int .u64 k, .int .i64 now]) 47 Try.func31 rfl rfl rfl ?_
  intro a hE _
  have hl := hI.len
  have hS := hS0
  clear hS0
  obtain ⟨g0, hg0⟩ : ∃ g0, g0 = g := ⟨_, rfl⟩
  rw [← hg0] at hE hS ⊢
  clear hg0
  revert hE
  revert hS
  generalize w0 = w
  intro hS hE
  repeat' (first | refine wl_nil ?_ | refine then_n ?_ | (refine c_regI 0 ?_; all_goals (refine wl hE rfl ?_; refine qal hE hS ?_; clear hE hS; clear a; intro g a w hE hS); all_goals (refine wl hE rfl ?_; refine qa hE ?_; clear hE a; intro a hE)) | (refine c_regI 1 ?_; all_goals (refine wl hE rfl ?_; refine qm hE ?_; clear hE a; intro a hE); all_goals (refine wl hE rfl ?_; refine qn hE ?_; clear hE a; intro a hE); all_goals (refine wl hE rfl ?_; refine qf hE ?_; clear hE a; intro a hE); all_goals (refine wl hE rfl ?_; refine qm hE ?_; clear hE a; intro a hE); all_goals (refine wl hE rfl ?_; refine is_call 48 rfl ?_; refine qc hE (find_g g0 l room life k u0 _ _ hS.fit (by omega) hI.up) ?_; clear hE hS; clear a; rintro _ a w ⟨⟨i, rfl, hi⟩, hS⟩ hE); all_goals (refine wl hE rfl ?_; refine qm hE ?_; clear hE a; intro a hE); all_goals (refine wl hE rfl ?_; refine qe hE ?_; clear hE a; intro a hE); all_goals (refine wl hE rfl ?_; refine qe hE ?_; clear hE a; intro a hE); all_goals (refine wl hE rfl ?_; refine qa hE ?_; clear hE a; intro a hE); all_goals (refine wl hE rfl ?_; refine qa hE ?_; clear hE a; intro a hE)) | refine c_seq ?_)
  obtain ⟨A, c, hS⟩ := Ag.out hS
  have hA : (0 : Int) < l.length → A = some (adr A) := fun h => (Rd.row (A := A) (n := l.length) (c := c) (xs := l.flatMap En.cells) hS).some (by rw [flat_len elen]; omega)
  obtain ⟨x, hx⟩ : ∃ x, l.getD i.toNat E0 = x := ⟨_, rfl⟩
  obtain ⟨hc1, hc2, _⟩ := hS.drop.row_cap
  have hi0 := hi.1
  repeat' (first | refine wl_nil ?_ | refine then_n ?_ | refine c_skip ?_ | refine c_ret ?_ | refine then_r ?_ | refine c_cond_t hE rfl ?_ | (refine c_regI 2 ?_; all_goals (refine wl hE rfl ?_; refine qm hE ?_; clear hE a; intro a hE); all_goals (refine wl hE rfl ?_; refine qu hE ?_; clear hE a; intro a hE); all_goals (refine wl hE rfl ?_; refine qm hE ?_; clear hE a; intro a hE); all_goals ((refine wl_splitg hE rfl rfl ?_ ?_) <;> (clear hE; intro hb hE; (first | replace hb := of_decide_eq_true hb | replace hb := of_decide_eq_false hb | (simp only [Bool.not_eq_true', Bool.not_eq_false', decide_eq_true_eq, decide_eq_false_iff_not] at hb) | skip); try (exfalso; first | omega | exact absurd trivial hb | exact absurd rfl hb | (simp only [beq_self_eq_true, bne_self_eq_false, reduceCtorEq] at hb; done))) <;> (first | (refine wl hE rfl ?_; refine qm hE ?_; clear hE a; intro a hE) | (refine wl_skip hE rfl rfl rfl ?_; clear hE a; intro a hE))); all_goals (first | (refine wl hE rfl ?_; refine is_call 49 rfl ?_; refine qc hE (time_s _ _) ?_; clear hE; clear a; rintro _ a w ⟨rfl, hS1⟩ hE; replace hS := hS.then hS1; clear hS1) | (refine wl_skip hE rfl rfl rfl ?_; clear hE a; intro a hE)); all_goals (first | (refine wl hE rfl ?_; refine qu hE ?_; clear hE a; intro a hE) | (refine wl_skip hE rfl rfl rfl ?_; clear hE a; intro a hE)); all_goals (refine wl hE rfl ?_; first | (refine qpt hE ?_; clear hE a; intro a hE) | (refine qpf hE ?_; clear hE a; intro a hE)); all_goals (refine wl hE rfl ?_; refine qm hE ?_; clear hE a; intro a hE); all_goals (first | (refine wl_skip hE rfl rfl rfl ?_; clear hE a; intro a hE) | ((refine wl_splitg hE rfl rfl ?_ ?_) <;> (clear hE; intro hb hE; (first | replace hb := of_decide_eq_true hb | replace hb := of_decide_eq_false hb | (simp only [Bool.not_eq_true', Bool.not_eq_false', decide_eq_true_eq, decide_eq_false_iff_not] at hb) | skip); try (exfalso; first | omega | exact absurd trivial hb | exact absurd rfl hb | (simp only [beq_self_eq_true, bne_self_eq_false, reduceCtorEq] at hb; done))) <;> (first | (refine wl hE rfl ?_; refine qm hE ?_; clear hE a; intro a hE) | (refine wl_skip hE rfl rfl rfl ?_; clear hE a; intro a hE)))); all_goals (first | (refine wl hE rfl ?_; refine qm hE ?_; clear hE a; intro a hE) | (refine wl_skip hE rfl rfl rfl ?_; clear hE a; intro a hE)); all_goals (first | (refine wl hE rfl ?_; refine qn hE ?_; clear hE a; intro a hE) | (refine wl_skip hE rfl rfl rfl ?_; clear hE a; intro a hE)); all_goals (first | (refine wl hE rfl ?_; refine qf hE ?_; clear hE a; intro a hE) | (refine wl_skip hE rfl rfl rfl ?_; clear hE a; intro a hE)); all_goals (first | (refine wl hE rfl ?_; refine qf hE ?_; clear hE a; intro a hE) | (refine wl_skip hE rfl rfl rfl ?_; clear hE a; intro a hE)); all_goals (first | (refine wl hE rfl ?_; refine ql hE hS ?_; clear hE a; intro a hE) | (refine wl_skip hE rfl rfl rfl ?_; clear hE a; intro a hE)); all_goals (first | (refine wl hE rfl ?_; refine qm hE ?_; clear hE a; intro a hE) | (refine wl_skip hE rfl rfl rfl ?_; clear hE a; intro a hE)); all_goals (first | (refine wl hE rfl ?_; refine qi hE hA ?_; clear hE a; intro a hE) | (refine wl_skip hE rfl rfl rfl ?_; clear hE a; intro a hE)); all_goals (first | (refine wl hE rfl ?_; refine qlR (i := i) (us := x.cells) (df := E0) hE hS elen (by rw [hx]) ?_; clear hE a; intro a hE) | (refine wl_skip hE rfl rfl rfl ?_; clear hE a; intro a hE)); all_goals (first | (refine wl hE rfl ?_; refine qm hE ?_; clear hE a; intro a hE) | (refine wl_skip hE rfl rfl rfl ?_; clear hE a; intro a hE)); all_goals (first | (refine wl hE rfl ?_; refine is_call 50 rfl ?_; refine qc hE (old_s g0 life now x _ (At.tail (At.tail (At.tail (blk_At hS)))) (okT_of (by assumption)) (by rw [← hx]; exact hI.times _ (getD_memE (by omega)))) ?_; clear hE; clear a; rintro _ a w ⟨rfl, hS1⟩ hE; replace hS := hS.then hS1; clear hS1) | (refine wl_skip hE rfl rfl rfl ?_; clear hE a; intro a hE)); all_goals (refine wl hE rfl ?_; first | (refine qpt hE ?_; clear hE a; intro a hE) | (refine qpf hE ?_; clear hE a; intro a hE))) | (refine c_regI 3 ?_; all_goals (refine wl hE rfl ?_; refine qbu hE ?_; clear hE a; intro a hE); all_goals (refine wl hE rfl ?_; refine qst0 hE hS ?_; clear hS; intro w hS); all_goals (refine wl hE rfl ?_; refine qa hE ?_; clear hE a; intro a hE)) | (refine c_regI 4 ?_; all_goals (refine wl hE rfl ?_; refine qm hE ?_; clear hE a; intro a hE); all_goals (refine wl hE rfl ?_; refine qn hE ?_; clear hE a; intro a hE); all_goals (refine wl hE rfl ?_; refine qf hE ?_; clear hE a; intro a hE); all_goals (refine wl hE rfl ?_; refine qf hE ?_; clear hE a; intro a hE); all_goals (refine wl hE rfl ?_; refine ql hE hS ?_; clear hE a; intro a hE); all_goals (refine wl hE rfl ?_; refine qm hE ?_; clear hE a; intro a hE); all_goals (refine wl hE rfl ?_; refine qi hE hA ?_; clear hE a; intro a hE); all_goals (refine wl hE rfl ?_; refine qlR (i := i) (us := x.cells) (df := E0) hE hS elen (by rw [hx]) ?_; clear hE a; intro a hE); all_goals (refine wl hE rfl ?_; refine qst0 hE hS ?_; clear hS; intro w hS); all_goals (refine wl hE rfl ?_; refine qa hE ?_; clear hE a; intro a hE)) | refine c_seq ?_ | ((refine c_cond hE rfl ?_ ?_) <;> (intro hb; (first | replace hb := of_decide_eq_true hb | replace hb := of_decide_eq_false hb | (simp only [Bool.not_eq_true', Bool.not_eq_false', decide_eq_true_eq, decide_eq_false_iff_not] at hb) | skip); try (exfalso; first | omega | exact absurd trivial hb | exact absurd rfl hb | (simp only [beq_self_eq_true, bne_self_eq_false, reduceCtorEq] at hb; done)))))
  all_goals rcases find_getE hI.up hi with ⟨hg, hn⟩ | ⟨hg, hp⟩
  all_goals first | (exfalso; clear hE; omega) | skip
  all_goals try rw [hx] at hg
  · have e : getT life l k now = (E0, false) := by simp only [getT, hg]
    rw [e]
    exact p_rets hE rfl (rc hE hS (rt hE .nil)) rfl ⟨_, rfl, rfl, (Ag.in_ (A := A) (c := c) hS.drop).fit⟩
  · have e : getT life l k now = (E0, false) := by simp [getT, hg, hb]
    rw [e]
    exact p_rets hE rfl (rc hE hS (rt hE .nil)) rfl ⟨_, rfl, rfl, (Ag.in_ (A := A) (c := c) hS.drop).fit⟩
  · have e : getT life l k now = (E0, false) := by simp [getT, hg, hb]
    rw [e]
    exact p_rets hE rfl (rc hE hS (rt hE .nil)) rfl ⟨_, rfl, rfl, (Ag.in_ (A := A) (c := c) hS.drop).fit⟩
  · have hok : okT now = true := by assumption
    have e : getT life l k now = (x, true) := by simp only [getT, hg, hb, hok, and_self, if_true]
    rw [e]
    exact p_rets hE rfl (rc hE hS (rt hE .nil)) rfl ⟨_, rfl, rfl, (Ag.in_ (A := A) (c := c) hS.drop).fit⟩
theorem new_s (room life : Int) (w0 : World) : Calls Try.prog 23 #[.int .i64 room, .int .i64 life] w0 fun e w' => ∃ r, e = .returned r ∧ ((¬ (1 ≤ room ∧ room ≤ 4096 ∧ 1 ≤ life ∧ life ≤ 1099511627776) ∧ r = .tuple #[.pointer none, .int .i64 1] ∧ Sep w0 w' []) ∨ ((1 ≤ room ∧ room ≤ 4096 ∧ 1 ≤ life ∧ life ≤ 1099511627776) ∧ ∃ g, r = .tuple #[.pointer (some ⟨g, 0, none⟩), .int .i64 0] ∧ Sep w0 w' [Ag g [] room life])) := by
  refine enter (args := [.int .i64 room, .int .i64 life]) 25 Try.func23 rfl rfl rfl ?_
  intro a hE hS
  repeat' (first | refine wl_nil ?_ | refine then_n ?_ | refine c_skip ?_ | refine c_ret ?_ | refine then_r ?_ | refine c_cond_t hE rfl ?_ | (refine c_regI 0 ?_; all_goals (refine wl hE rfl ?_; refine qa hE ?_; clear hE a; intro a hE); all_goals (refine wl hE rfl ?_; refine qa hE ?_; clear hE a; intro a hE)) | (refine c_regI 1 ?_; all_goals (refine wl hE rfl ?_; refine qm hE ?_; clear hE a; intro a hE); all_goals (refine wl hE rfl ?_; refine qb hE ?_; clear hE a; intro a hE); all_goals (refine wl hE rfl ?_; refine qm hE ?_; clear hE a; intro a hE); all_goals ((refine wl_splitg hE rfl rfl ?_ ?_) <;> (clear hE; intro hb hE; (first | replace hb := of_decide_eq_true hb | replace hb := of_decide_eq_false hb | (simp only [Bool.not_eq_true', Bool.not_eq_false', decide_eq_true_eq, decide_eq_false_iff_not] at hb) | skip); try (exfalso; first | omega | exact absurd trivial hb | exact absurd rfl hb | (simp only [beq_self_eq_true, bne_self_eq_false, reduceCtorEq] at hb; done))) <;> (first | (refine wl hE rfl ?_; refine qm hE ?_; clear hE a; intro a hE) | (refine wl_skip hE rfl rfl rfl ?_; clear hE a; intro a hE))); all_goals (first | (refine wl hE rfl ?_; refine qb hE ?_; clear hE a; intro a hE) | (refine wl_skip hE rfl rfl rfl ?_; clear hE a; intro a hE)); all_goals (refine wl hE rfl ?_; first | (refine qpt hE ?_; clear hE a; intro a hE) | (refine qpf hE ?_; clear hE a; intro a hE)); all_goals (refine wl hE rfl ?_; refine qm hE ?_; clear hE a; intro a hE); all_goals (first | (refine wl_skip hE rfl rfl rfl ?_; clear hE a; intro a hE) | ((refine wl_splitg hE rfl rfl ?_ ?_) <;> (clear hE; intro hb hE; (first | replace hb := of_decide_eq_true hb | replace hb := of_decide_eq_false hb | (simp only [Bool.not_eq_true', Bool.not_eq_false', decide_eq_true_eq, decide_eq_false_iff_not] at hb) | skip); try (exfalso; first | omega | exact absurd trivial hb | exact absurd rfl hb | (simp only [beq_self_eq_true, bne_self_eq_false, reduceCtorEq] at hb; done))) <;> (first | (refine wl hE rfl ?_; refine qm hE ?_; clear hE a; intro a hE) | (refine wl_skip hE rfl rfl rfl ?_; clear hE a; intro a hE)))); all_goals (first | (refine wl hE rfl ?_; refine qb hE ?_; clear hE a; intro a hE) | (refine wl_skip hE rfl rfl rfl ?_; clear hE a; intro a hE)); all_goals (refine wl hE rfl ?_; first | (refine qpt hE ?_; clear hE a; intro a hE) | (refine qpf hE ?_; clear hE a; intro a hE)); all_goals (refine wl hE rfl ?_; refine qm hE ?_; clear hE a; intro a hE); all_goals (first | (refine wl_skip hE rfl rfl rfl ?_; clear hE a; intro a hE) | ((refine wl_splitg hE rfl rfl ?_ ?_) <;> (clear hE; intro hb hE; (first | replace hb := of_decide_eq_true hb | replace hb := of_decide_eq_false hb | (simp only [Bool.not_eq_true', Bool.not_eq_false', decide_eq_true_eq, decide_eq_false_iff_not] at hb) | skip); try (exfalso; first | omega | exact absurd trivial hb | exact absurd rfl hb | (simp only [beq_self_eq_true, bne_self_eq_false, reduceCtorEq] at hb; done))) <;> (first | (refine wl hE rfl ?_; refine qm hE ?_; clear hE a; intro a hE) | (refine wl_skip hE rfl rfl rfl ?_; clear hE a; intro a hE)))); all_goals (first | (refine wl hE rfl ?_; refine qb hE ?_; clear hE a; intro a hE) | (refine wl_skip hE rfl rfl rfl ?_; clear hE a; intro a hE)); all_goals (refine wl hE rfl ?_; first | (refine qpt hE ?_; clear hE a; intro a hE) | (refine qpf hE ?_; clear hE a; intro a hE))) | (refine c_regI 2 ?_; all_goals (refine wl hE rfl ?_; refine qa hE ?_; clear hE a; intro a hE); all_goals (refine wl hE rfl ?_; refine qa hE ?_; clear hE a; intro a hE)) | (refine c_regI 3 ?_; all_goals (refine wl hE rfl ?_; refine qbu hE ?_; clear hE a; intro a hE); all_goals (refine wl hE rfl ?_; refine qm hE ?_; clear hE a; intro a hE); all_goals (refine wl hE rfl ?_; refine qm hE ?_; clear hE a; intro a hE); all_goals (refine wl hE rfl ?_; refine qbu hE ?_; clear hE a; intro a hE); all_goals (refine wl hE rfl ?_; refine qbx hE hS ?_; clear hE hS; clear a; intro g a w hE hS); all_goals (refine wl hE rfl ?_; refine qa hE ?_; clear hE a; intro a hE); all_goals (refine wl hE rfl ?_; refine qa hE ?_; clear hE a; intro a hE)) | refine c_seq ?_ | ((refine c_cond hE rfl ?_ ?_) <;> (intro hb; (first | replace hb := of_decide_eq_true hb | replace hb := of_decide_eq_false hb | (simp only [Bool.not_eq_true', Bool.not_eq_false', decide_eq_true_eq, decide_eq_false_iff_not] at hb) | skip); try (exfalso; first | omega | exact absurd trivial hb | exact absurd rfl hb | (simp only [beq_self_eq_true, bne_self_eq_false, reduceCtorEq] at hb; done)))))
  all_goals first
    | exact p_rets hE rfl (rt hE (rt hE .nil)) rfl ⟨_, rfl, .inl ⟨by clear hE; omega, rfl, hS⟩⟩
    | exact p_rets hE rfl (rt hE (rt hE .nil)) rfl ⟨_, rfl, .inr ⟨by clear hE; omega, g, rfl, Ag.in_ (l := []) (A := none) (c := 0) (hS.nil_row.fit)⟩⟩
end Go.Proofs.Ytdaciolahgfhiaa
/- DERIVED. Layer 10: forms of the contracts with values. No condition. -/
namespace Go.Proofs.Ytdaciolahgfhiaa
open Go.RowKit Go.Sx Go.Proofs.YtdaciolahgfhiaaTy
set_option linter.unusedVariables false
set_option linter.unusedSimpArgs false
set_option maxRecDepth 100000
attribute [local irreducible] Oper.wp Code.wp wpList wpAnyH Calls bodyPost Exit.then Exit.inBlock Code.rounds
set_option maxHeartbeats 1000000
deriving instance DecidableEq for En
theorem new_k (room life : Int) (h : 1 ≤ room ∧ room ≤ 4096 ∧ 1 ≤ life ∧ life ≤ 1099511627776) (w0 : World) : Calls Try.prog 23 #[.int .i64 room, .int .i64 life] w0 fun e w' => ∃ r, e = .returned r ∧ ∃ g, r = .tuple #[.pointer (some ⟨g, 0, none⟩), .int .i64 0] ∧ Sep w0 w' [Ag g [] room life] :=
  (new_s room life w0).mono fun e w' ⟨r, hr, hh⟩ => by
    rcases hh with ⟨hn, _⟩ | ⟨_, g, h1, h2⟩
    · exact absurd h hn
    · exact ⟨r, hr, g, h1, h2⟩
theorem new_n (room life : Int) (h : ¬ (1 ≤ room ∧ room ≤ 4096 ∧ 1 ≤ life ∧ life ≤ 1099511627776)) (w0 : World) : Calls Try.prog 23 #[.int .i64 room, .int .i64 life] w0 fun e w' => ∃ r, e = .returned r ∧ r = .tuple #[.pointer none, .int .i64 1] ∧ Sep w0 w' [] :=
  (new_s room life w0).mono fun e w' ⟨r, hr, hh⟩ => by
    rcases hh with ⟨_, h1, h2⟩ | ⟨hk, _⟩
    · exact ⟨r, hr, h1, h2⟩
    · exact absurd hk h
end Go.Proofs.Ytdaciolahgfhiaa
/- DERIVED. Layer 11: slices of ints: Clone, IndexFunc, DeleteFunc. No condition. -/
namespace Go.Proofs.Ytdaciolahgfhiaa
open Go.RowKit Go.Sx Go.Proofs.YtdaciolahgfhiaaTy
set_option linter.unusedVariables false
set_option linter.unusedSimpArgs false
set_option maxRecDepth 100000
attribute [local irreducible] Oper.wp Code.wp wpList wpAnyH Calls bodyPost Exit.then Exit.inBlock Code.rounds
set_option maxHeartbeats 1000000
/-- A function value that tells of each entry of some what p tells. -/
def TellsI (f : FuncId) (cs : List Value) (l : List Int) (p : Int → Bool) (w0 : World) : Prop := ∀ x ∈ l, ∀ w L, Sep w0 w L → Calls Try.prog f (.int .i64 x :: cs).toArray w fun e w' => ∃ r, e = .returned r ∧ r = .bool (p x) ∧ Sep w w' []
theorem TellsI.move {f : FuncId} {cs : List Value} {l : List Int} {p : Int → Bool} {w0 w : World} {L : List Asn} (h : TellsI f cs l p w0) (hS : Sep w0 w L) : TellsI f cs l p w := fun x hx w' L' h' => h x hx w' [] (hS.clean.same ⟨h'.below.os, h'.below.tape, h'.below.output, h'.below.size, h'.below.block⟩)
def FoundAtI (l : List Int) (p : Int → Bool) (k : Int) : Prop := (∃ i : Nat, k = i ∧ i < l.length ∧ (∀ y ∈ l.take i, p y = false) ∧ p (l.getD i 0) = true) ∨ (k = -1 ∧ ∀ y ∈ l, p y = false)
theorem FoundAtI.rng {l : List Int} {p : Int → Bool} {k : Int} (h : FoundAtI l p k) : k = -1 ∨ (0 ≤ k ∧ k < l.length) := by
  rcases h with ⟨i, h1, h2, _⟩ | ⟨h, _⟩ <;> omega
/-- The walk's list: what is kept of those seen so far, ahead; those not yet seen, as they were. -/
structure KeptI (l : List Int) (p : Int → Bool) (l2 : List Int) (i j : Int) : Prop where
  h0 : 0 ≤ i
  h1 : i < j
  h2 : j ≤ l.length
  hl : l2.length = l.length
  ht : l2.take i.toNat = (l.take j.toNat).filter fun x => !p x
  hd : l2.drop j.toNat = l.drop j.toNat
theorem KeptI.start {l : List Int} {p : Int → Bool} {i : Nat} (h : i < l.length) (hn : ∀ y ∈ l.take i, p y = false) (hp : p (l.getD i 0) = true) : KeptI l p l i (i + 1) := by
  refine ⟨by omega, by omega, by omega, rfl, ?_, rfl⟩
  have e : l.getD i 0 = l[i] := by simp [h]
  rw [e] at hp
  rw [show ((i : Int) + 1).toNat = i + 1 by omega, List.take_succ_eq_append_getElem h, List.filter_append, show ((i : Int)).toNat = i by omega]
  have h1 : (l.take i).filter (fun x => !p x) = l.take i := List.filter_eq_self.2 fun y hy => by rw [hn y hy]; rfl
  rw [h1]
  simp [hp]
theorem KeptI.get {l l2 : List Int} {p : Int → Bool} {i j : Int} (h : KeptI l p l2 i j) (hj : j < l.length) : l2.getD j.toNat 0 = l.getD j.toNat 0 := by
  have e := congrArg (fun q => q[0]?) h.hd
  simp only [List.getElem?_drop, Nat.add_zero] at e
  simp [e]
theorem KeptI.skip {l l2 : List Int} {p : Int → Bool} {i j : Int} (h : KeptI l p l2 i j) (hj : j < l.length) (hp : p (l.getD j.toNat 0) = true) : KeptI l p l2 i (j + 1) := by
  have h0 := h.h0
  have h1 := h.h1
  have hjl : j.toNat < l.length := by omega
  have hjl2 : j.toNat < l2.length := by rw [h.hl]; exact hjl
  refine ⟨h0, by omega, by omega, h.hl, ?_, ?_⟩
  · have e : l.getD j.toNat 0 = l[j.toNat] := by simp [hjl]
    rw [e] at hp
    rw [show (j + 1).toNat = j.toNat + 1 by omega, List.take_succ_eq_append_getElem hjl, List.filter_append, ← h.ht]
    simp [hp]
  · rw [show (j + 1).toNat = j.toNat + 1 by omega, ← List.drop_drop, ← List.drop_drop, h.hd]
theorem KeptI.keep {l l2 : List Int} {p : Int → Bool} {i j : Int} (h : KeptI l p l2 i j) (hj : j < l.length) (hp : p (l.getD j.toNat 0) = false) : KeptI l p (l2.set i.toNat (l.getD j.toNat 0)) (i + 1) (j + 1) := by
  have h0 := h.h0
  have h1 := h.h1
  have hjl : j.toNat < l.length := by omega
  have hil2 : i.toNat < l2.length := by rw [h.hl]; omega
  have e : l.getD j.toNat 0 = l[j.toNat] := by simp [hjl]
  rw [e] at hp ⊢
  refine ⟨by omega, by omega, by omega, by simp [h.hl], ?_, ?_⟩
  · rw [show (j + 1).toNat = j.toNat + 1 by omega, show (i + 1).toNat = i.toNat + 1 by omega, List.take_succ_eq_append_getElem hjl, List.filter_append, ← h.ht, List.take_succ_eq_append_getElem (by simpa using hil2), List.take_set_of_le (Nat.le_refl _)]
    simp [hp]
  · rw [show (j + 1).toNat = j.toNat + 1 by omega, List.drop_set_of_lt (by omega), ← List.drop_drop, ← List.drop_drop, h.hd]
end Go.Proofs.Ytdaciolahgfhiaa
/- DERIVED. Layer 11: what may be; numbers of addresses and targets. No condition. -/
namespace Go.Proofs.Ytdaciolahgfhiaa
open Go.RowKit Go.Sx Go.Proofs.YtdaciolahgfhiaaTy
set_option linter.unusedVariables false
set_option linter.unusedSimpArgs false
set_option maxRecDepth 100000
attribute [local irreducible] Oper.wp Code.wp wpList wpAnyH Calls bodyPost Exit.then Exit.inBlock Code.rounds
set_option maxHeartbeats 1000000
def groupB (m : Int) : Bool := !decide (bAnd .u64 m 1099511627776 = 0)
theorem group_s (m : Int) (w0 : World) : Calls Try.prog 46 #[.int .u64 m] w0 fun e w' => ∃ r, e = .returned r ∧ r = .bool (groupB m) ∧ Sep w0 w' [] := by
  refine enter (args := [.int .u64 m]) 6 Try.func46 rfl rfl rfl ?_
  intro a hE hS
  repeat' (first | refine wl_nil ?_ | refine then_n ?_ | refine c_ret ?_ | (refine c_regI 0 ?_; all_goals (refine wl hE rfl ?_; refine qa hE ?_; clear hE a; intro a hE)) | (refine c_regI 1 ?_; all_goals (refine wl hE rfl ?_; refine qm hE ?_; clear hE a; intro a hE); all_goals (refine wl hE rfl ?_; refine qb2 hE ?_; clear hE a; intro a hE); all_goals (refine wl hE rfl ?_; refine qb hE ?_; clear hE a; intro a hE); all_goals (refine wl hE rfl ?_; refine qa hE ?_; clear hE a; intro a hE)) | refine c_seq ?_)
  exact p_ret hE rfl rfl ⟨_, rfl, rfl, hS⟩
def ownB (m : Int) : Bool := decide (m ≠ 0) && decide (m < 281474976710656) && !groupB m
theorem own_s (m : Int) (w0 : World) : Calls Try.prog 25 #[.int .u64 m] w0 fun e w' => ∃ r, e = .returned r ∧ r = .bool (ownB m) ∧ Sep w0 w' [] := by
  refine enter (args := [.int .u64 m]) 14 Try.func25 rfl rfl rfl ?_
  intro a hE hS
  repeat' (first | refine wl_nil ?_ | refine then_n ?_ | refine c_ret ?_ | (refine c_regI 0 ?_; all_goals (refine wl hE rfl ?_; refine qa hE ?_; clear hE a; intro a hE)) | (refine c_regI 1 ?_; all_goals (refine wl hE rfl ?_; refine qm hE ?_; clear hE a; intro a hE); all_goals (refine wl hE rfl ?_; refine qb hE ?_; clear hE a; intro a hE); all_goals (refine wl hE rfl ?_; refine qm hE ?_; clear hE a; intro a hE); all_goals ((refine wl_splitg hE rfl rfl ?_ ?_) <;> (clear hE; intro hb hE; (first | replace hb := of_decide_eq_true hb | replace hb := of_decide_eq_false hb | (simp only [Bool.not_eq_true', Bool.not_eq_false', decide_eq_true_eq, decide_eq_false_iff_not] at hb) | skip); try (exfalso; first | omega | exact absurd trivial hb | exact absurd rfl hb | (simp only [beq_self_eq_true, bne_self_eq_false, reduceCtorEq] at hb; done))) <;> (first | (refine wl hE rfl ?_; refine qm hE ?_; clear hE a; intro a hE) | (refine wl_skip hE rfl rfl rfl ?_; clear hE a; intro a hE))); all_goals (first | (refine wl hE rfl ?_; refine qb hE ?_; clear hE a; intro a hE) | (refine wl_skip hE rfl rfl rfl ?_; clear hE a; intro a hE)); all_goals (refine wl hE rfl ?_; first | (refine qpt hE ?_; clear hE a; intro a hE) | (refine qpf hE ?_; clear hE a; intro a hE)); all_goals (refine wl hE rfl ?_; refine qm hE ?_; clear hE a; intro a hE); all_goals (first | (refine wl_skip hE rfl rfl rfl ?_; clear hE a; intro a hE) | ((refine wl_splitg hE rfl rfl ?_ ?_) <;> (clear hE; intro hb hE; (first | replace hb := of_decide_eq_true hb | replace hb := of_decide_eq_false hb | (simp only [Bool.not_eq_true', Bool.not_eq_false', decide_eq_true_eq, decide_eq_false_iff_not] at hb) | skip); try (exfalso; first | omega | exact absurd trivial hb | exact absurd rfl hb | (simp only [beq_self_eq_true, bne_self_eq_false, reduceCtorEq] at hb; done))) <;> (first | (refine wl hE rfl ?_; refine qm hE ?_; clear hE a; intro a hE) | (refine wl_skip hE rfl rfl rfl ?_; clear hE a; intro a hE)))); all_goals (first | (refine wl hE rfl ?_; refine is_call 46 rfl ?_; refine qc hE (group_s m _) ?_; clear hE; clear a; rintro _ a w ⟨rfl, hS1⟩ hE; replace hS := hS.then hS1; clear hS1) | (refine wl_skip hE rfl rfl rfl ?_; clear hE a; intro a hE)); all_goals (first | (refine wl hE rfl ?_; refine qu hE ?_; clear hE a; intro a hE) | (refine wl_skip hE rfl rfl rfl ?_; clear hE a; intro a hE)); all_goals (refine wl hE rfl ?_; first | (refine qpt hE ?_; clear hE a; intro a hE) | (refine qpf hE ?_; clear hE a; intro a hE)); all_goals (refine wl hE rfl ?_; refine qa hE ?_; clear hE a; intro a hE)) | refine c_seq ?_)
  all_goals refine p_ret hE rfl rfl ⟨_, rfl, ?_, hS.clean⟩
  all_goals clear hE hS
  all_goals simp [ownB, *]
/-- The number of an address in a VLAN; of a target. -/
def keyM (vid m : Int) : Int := vid * 281474976710656 + m
end Go.Proofs.Ytdaciolahgfhiaa
/- DERIVED. Cuts behind a region that stands at the end of a sequence. No condition. -/
namespace Go.Sx
open Go.RowKit
set_option linter.unusedVariables false
section
variable {P : Program} {a : Act} {w : World} {Q : Exit → Act → World → Prop} {id : Nat} {K I : Act → World → Prop}
/-- A cut behind a drawn region (no arm of a walk: it would be taken for ever). -/
theorem c_cutr {ops : Array Oper} (h1 : (Code.region id ops true).wp P (Exit.then I Q) a w) (h2 : ∀ a w, I a w → K a w) : (Code.region id ops true).wp P (Exit.then K Q) a w :=
  Code.wp_mono (fun e a w h => by cases e <;> first | exact h2 _ _ h | exact h) h1
end
section
variable {P : Program} {a : Act} {w w0 : World} {Q : Exit → Act → World → Prop} {G : List (Nat × List Value × TypeId)} {z : Nat} {ops : Array Oper} {listed : Array Bool} {fuel : Nat}
end
section
variable {P : Program} {o : Oper} {a : Act} {w w0 : World} {Q : Exit → Act → World → Prop} {n : Nat} {env : List (Nat × Value)} {L : List Asn} {K : Act → World → Prop}
theorem made_one (z : Value) (m : Nat) : (madeCells #[z] m).toList = List.replicate m z := by
  unfold madeCells
  apply List.ext_getElem
  · simp
  · intro i h1 h2
    simp [Nat.mod_one]
/-- make([]T, m), of one cell an element. -/
theorem qmk1 {t e : TypeId} {z : Value} {x y : Operand} {kd kc : IntKind} {m : Nat} {d : Tmp} (hE : Env a n env) (hS : Sep w0 w L) (k : ∀ g a' w', Env a' n ((d, .slice (some ⟨g, 0, none⟩) m m) :: env) → Sep w0 w' (row e 1 (.slice (some ⟨g, 0, none⟩) m m) m (List.replicate m z) :: L) → K a' w')
    (ho : o.op = .makeSlice t x y := by exact rfl) (T : AppTy P t e 1 := by infer_instance) (Z : ZeroTy P e [z] := by infer_instance) (hx : opv env x = some (.int kd m) := by exact rfl) (hy : opv env y = some (.int kc m) := by exact rfl) (hm : m ≤ 1073741824 := by omega) (hd : o.dst = some d := by exact rfl) (hlt : Nat.blt d n = true := by exact rfl) : o.wp P a w K Q := by
  have ht := T.h1
  have h2 := T.h2
  have hz0 := Z.h
  cases hi : P.info? e with
  | none => rw [hi] at h2; simp at h2
  | some i =>
  rw [hi] at h2 hz0
  simp only [Option.map_some, Option.some.injEq, Prod.mk.injEq] at h2
  obtain ⟨hz', hsz, hby⟩ := h2
  have hby : i.bytes ≤ 4096 := Nat.le_of_ble_eq_true hby
  cases hz : i.zero with
  | none => rw [hz] at hz'; simp at hz'
  | some zv =>
  simp only [Option.map_some, Option.some.injEq, hz] at hz0
  have hc : zv.cells = #[z] := by
    apply Array.ext'
    simpa using hz0
  have hb : ((i.bytes : Int) * (m : Int)) ≤ 281474976710656 := by
    have h1 : i.bytes * m ≤ 4096 * 1073741824 := Nat.mul_le_mul hby hm
    have h3 : ((i.bytes * m : Nat) : Int) ≤ 281474976710656 := by omega
    rwa [Int.natCast_mul] at h3
  have hr := run_make (P := P) w t e i zv ht hi hz kd kc (m : Int) (m : Int) (by omega) (Int.le_refl _) hb (by omega)
  have e1 : (madeCells zv.cells ((m : Int).toNat * i.size)) = (List.replicate m z).toArray := by
    apply Array.ext'
    rw [hc, hsz, Nat.mul_one, Int.toNat_natCast, made_one]
  rw [e1] at hr
  simp only [Int.toNat_natCast] at hr
  have hS2 : Sep w0 (w.alloc (.cells (List.replicate m z).toArray e)) (blk w.heap.size (List.replicate m z) e :: L) := hS.alloc
  unfold Oper.wp execOp
  simp only [ho, hE.eval hx, hE.eval hy]
  rw [Sem.run_bind, hr]
  exact k _ _ _ (hE.putS _ hd hlt) (hS2.to_row (by simp only [maxLen]; omega) (by simp))
end
/-- What many ways come to is shown once. -/
def sub2 (env : List (Nat × Value)) : List Nat → List (Nat × Value) → Prop
  | _, [] => True
  | seen, (k, v) :: r => (bif seen.any (Nat.beq k) then True else find env k = some v) ∧ sub2 env (k :: seen) r
theorem Env.cut2 {a : Act} {n : Nat} {env env' : List (Nat × Value)} (h : Env a n env) (hs : sub2 env [] env') : Env a n env' := by
  refine ⟨h.size, h.defers, fun t v hv => ?_⟩
  have go : ∀ (l : List (Nat × Value)) (seen : List Nat), sub2 env seen l → seen.any (Nat.beq t) = false → find l t = some v → find env t = some v := by
    intro l
    induction l with
    | nil => intro _ _ _ h; simp [find] at h
    | cons p l ih =>
      intro seen h1 h2 h3
      obtain ⟨k, u⟩ := p
      obtain ⟨h4, h5⟩ := h1
      simp only [find] at h3
      by_cases e : Nat.beq k t = true
      · rw [e] at h3
        have e' := Nat.eq_of_beq_eq_true e
        subst e'
        rw [h2] at h4
        simp at h3
        subst h3
        exact h4
      · rw [Bool.not_eq_true] at e
        rw [e] at h3
        refine ih (k :: seen) h5 ?_ h3
        have : Nat.beq t k = false := by
          cases hb : Nat.beq t k with
          | false => rfl
          | true =>
            have := Nat.eq_of_beq_eq_true hb
            subst this
            rw [hb] at e
            cases e
        simp [List.any_cons, this, h2]
  exact h.at_ t v (go env' [] hs rfl hv)
structure Hid (T : Prop) : Prop where
  out : T
theorem cutT {T G : Prop} (h : Hid T → G) (t : T) : G := h ⟨t⟩
end Go.Sx
/- DERIVED. Strings: put together, cut, their bytes; what strings.Builder does. No condition. -/
namespace Go.Sx
open Go.RowKit
set_option linter.unusedVariables false
set_option linter.unusedSimpArgs false
/-- Bytes as cells. -/
def u8s (l : List UInt8) : List Value := l.map fun b => Value.int .u8 b.toNat
theorem u8s_len (l : List UInt8) : (u8s l).length = l.length := by simp [u8s]
theorem u8s_app (l m : List UInt8) : u8s l ++ u8s m = u8s (l ++ m) := by simp [u8s]
theorem strCells_mk (l : List UInt8) : Lib.strCells ⟨l.toArray⟩ = u8s l := by simp [Lib.strCells, u8s]
theorem str_len (l : List UInt8) : (⟨l.toArray⟩ : ByteArray).size = l.length := by simp [ByteArray.size]
section
variable {P : Program} {o : Oper} {a : Act} {w w0 : World} {Q : Exit → Act → World → Prop} {n : Nat} {env : List (Nat × Value)} {L L' : List Asn} {K : Act → World → Prop}
theorem bin_cat {t : TypeId} {x y : Operand} {s1 s2 : ByteArray} (h : s1.size + s2.size ≤ 9223372036854775807) : Bin P .add t x y (.string s1) (.string s2) (.string (s1 ++ s2)) := fun w => by
  simp [eqGuard, binOp, run_string_add_sum w s1 s2 h]
/-- Two strings, one behind the other. -/
theorem qcat {t t' : TypeId} {x y : Operand} {l m : List UInt8} {d : Tmp} (hE : Env a n env) (k : ∀ a', Env a' n ((d, .string ⟨(l ++ m).toArray⟩) :: env) → K a' w) (hl : l.length + m.length ≤ 1073741824) (ho : o.op = .binOp .add t x y t' := by exact rfl) (hx : opv env x = some (.string ⟨l.toArray⟩) := by exact rfl) (hy : opv env y = some (.string ⟨m.toArray⟩) := by exact rfl) (hd : o.dst = some d := by exact rfl) (hlt : Nat.blt d n = true := by exact rfl) : o.wp P a w K Q := by
  refine o_bin hE ho hx hy (bin_cat ?_) hd hlt ?_
  · rw [str_len, str_len]; omega
  · rw [ByteArray.mk_append_mk]; exact k
theorem y_cat {S : World → Prop} {t t' : TypeId} {x y : Operand} {l m : List UInt8} (ho : o.op = .binOp .add t x y t' := by exact rfl) (hx : opv env x = some (.string ⟨l.toArray⟩) := by exact rfl) (hy : opv env y = some (.string ⟨m.toArray⟩) := by exact rfl) (hl : l.length + m.length ≤ 1073741824 := by omega) : Y P env S o (.string ⟨(l ++ m).toArray⟩) := by
  rw [← ByteArray.mk_append_mk]
  exact y_bin2 ho hx hy (bin_cat (by rw [str_len, str_len]; omega))
/-- A row of bytes as a string. -/
theorem run_bytes_row {ts td e : TypeId} {A : Option Addr} {N c : Nat} {l : List UInt8} (h1 : P.underlying ts = some (.slice e)) (h2 : P.underlying e = some (.int .u8)) (h3 : P.underlying td = some .string) (hown : oRow w 0 e 1 (.slice A N c) N (u8s l)) : (convert ts td (.slice A N c)).run P w = .ok (.string ⟨l.toArray⟩) w := by
  have hN : l.length = N := by
    have := hown.1
    rw [u8s_len] at this
    omega
  rcases hown.2 with ⟨hv, h0⟩ | ⟨g, cap, cur, hv, _, hg, _, _, _, htake⟩
  · cases hv
    have : l = [] := List.eq_nil_of_length_eq_zero hN
    subst this
    exact run_convert_bytes_nil w ts e h1 h2 0 0 td h3
  · cases hv
    have hr := run_convert_bytes_arg (P := P) w ts e h1 h2 g 0 N c (l.map fun b => (b.toNat : Int)) (by simp [hN]) (fun i hi => ?_) td h3
    · rw [hr]
      congr 3
      unfold strOfNums
      congr 1
      have e : (List.map (fun n : Int => UInt8.ofNat n.toNat) (List.map (fun b : UInt8 => (b.toNat : Int)) l)) = l := by
        rw [List.map_map]
        refine (List.map_congr_left fun b _ => ?_).trans (List.map_id l)
        simp
      rw [e]
    · have hli : i < l.length := by omega
      have hc := hown.cells (g := g) rfl i (.int .u8 (l[i]).toNat) (by simp [u8s, hli])
      rw [Addr.add_lit] at hc
      rw [hc]
      simp [hli]
theorem qb2s {ts td e : TypeId} {x : Operand} {A : Option Addr} {N c : Nat} {l : List UInt8} {d : Tmp} (hE : Env a n env) (hS : Sep w0 w L) (k : ∀ a', Env a' n ((d, .string ⟨l.toArray⟩) :: env) → K a' w) (ho : o.op = .convert ts td x := by exact rfl) (T1 : SliceTy P ts e 1 := by infer_instance) (I : IntTy P e .u8 := by infer_instance) (S : StrTy P td := by infer_instance) (hx : opv env x = some (.slice A N c) := by exact rfl)
    (hp : Pull (row e 1 (.slice A N c) N (u8s l)) L L' := by repeat (first | exact Pull.here | apply Pull.there)) (hd : o.dst = some d := by exact rfl) (hlt : Nat.blt d n = true := by exact rfl) : o.wp P a w K Q :=
  o_val hE (by
    have h := run_bytes_row (P := P) T1.h1 I.h S.h (hS.row_at hp)
    simp only [execOp, ho, hE.eval hx]
    rw [Sem.run_bind, h]; rfl) hd hlt k
/-- A byte of a string. -/
theorem qsti {t : TypeId} {x y : Operand} {s : ByteArray} {i : Int} {kd : IntKind} {b : UInt8} {d : Tmp} (hE : Env a n env) (k : ∀ a', Env a' n ((d, .int .u8 b.toNat) :: env) → K a' w) (hb : s.data.toList[i.toNat]? = some b) (h0 : 0 ≤ i := by omega) (ho : o.op = .index t x y := by exact rfl) (S : StrTy P t := by infer_instance) (hx : opv env x = some (.string s) := by exact rfl) (hy : opv env y = some (.int kd i) := by exact rfl) (hd : o.dst = some d := by exact rfl) (hlt : Nat.blt d n = true := by exact rfl) : o.wp P a w K Q :=
  o_val hE (by
    have hi : i.toNat < s.size := by
      exact (List.getElem?_eq_some_iff.1 hb).1
    have hv : s[i.toNat] = b := by
      have := (List.getElem?_eq_some_iff.1 hb).2
      rw [← this]
      rfl
    have hii : 0 ≤ i ∧ i < (s.size : Int) := ⟨h0, by omega⟩
    have hr := run_index_string (P := P) w t s kd i S.h
    rw [dif_pos hii, hv] at hr
    simp only [execOp, ho, hE.eval hx, hE.eval hy]
    rw [Sem.run_bind, hr]; rfl) hd hlt k
/-- s[l:h]. -/
theorem qsslh {t : TypeId} {x y z : Operand} {s : ByteArray} {kd ke : IntKind} {i j : Int} {d : Tmp} (hE : Env a n env) (k : ∀ a', Env a' n ((d, .string (s.extract i.toNat j.toNat)) :: env) → K a' w)
    (ho : o.op = .slice t x (some y) (some z) none := by exact rfl) (T : StrTy P t := by infer_instance) (hx : opv env x = some (.string s) := by exact rfl) (hy : opv env y = some (.int kd i) := by exact rfl) (hz : opv env z = some (.int ke j) := by exact rfl) (h0 : 0 ≤ i := by omega) (h1 : i ≤ j := by omega) (h2 : j ≤ (s.size : Int) := by omega) (hd : o.dst = some d := by exact rfl) (hlt : Nat.blt d n = true := by exact rfl) : o.wp P a w K Q := by
  unfold Oper.wp execOp
  simp only [ho, Option.map_some, Option.map_none, hE.eval hx, hE.eval hy, hE.eval hz]
  simp only [Sem.run_bind, run_sliceAt_string w t _ _ _ _ T.h, run_slice_string (P := P) w t s kd ke i j T.h h0 h1 h2, Result.andThen_ok, Sem.run_pure]
  exact k _ (hE.putS _ hd hlt)
/-- A string's bytes appended to an owned row of bytes. -/
theorem run_appS {t u ty e : TypeId} (T : AppTy P t e 1) (Z : ZeroTy P e [.int .u8 0]) (hu : P.underlying u = some .string) {v : Value} {m : Nat} {xs : List Value} (hown : oRow w 0 e 1 v m xs) (s : ByteArray) (hb : m + s.size ≤ 1073741824) :
    ∃ A' c' w', (Builtin.append_ #[t, u] ty #[v, .string s]).run P w = .ok (.slice A' (m + s.size) c') w' ∧ oRow w' 0 e 1 (.slice A' (m + s.size) c') (m + s.size) (xs ++ Lib.strCells s) ∧ w.grownBy w' v.ownBlock ∧
      ((Value.slice A' (m + s.size) c').ownBlock = none ∨ (Value.slice A' (m + s.size) c').ownBlock = v.ownBlock ∨ ∃ b, (Value.slice A' (m + s.size) c').ownBlock = some b ∧ w.heap.size ≤ b) := by
  have ht := T.h1
  have h2 := T.h2
  have hz0 := Z.h
  cases hi : P.info? e with
  | none => rw [hi] at h2; simp at h2
  | some i =>
  rw [hi] at h2 hz0
  simp only [Option.map_some, Option.some.injEq, Prod.mk.injEq] at h2
  obtain ⟨hz', hsz, hby⟩ := h2
  have hby : i.bytes ≤ 4096 := Nat.le_of_ble_eq_true hby
  cases hz : i.zero with
  | none => rw [hz] at hz'; simp at hz'
  | some zv =>
  rw [hz] at hz'
  simp only [Option.map_some, Option.some.injEq] at hz'
  have hmax : m + s.size ≤ maxLen := by simp only [maxLen]; omega
  have hxl : xs.length = m := by simpa using hown.1
  have hlen : (xs ++ Lib.strCells s).length = (m + s.size) * 1 := by rw [List.length_append, hxl, Lib.strCells_length, Nat.mul_one]
  have hbytes : (m + s.size) * i.bytes ≤ 140737488355328 := Nat.le_trans (Nat.mul_le_mul hb hby) (by decide)
  have grown : ∀ (old : Nat), old < m + s.size → ∀ (row : Option Nat),
      oRow (w.drew.alloc (.cells (xs.toArray ++ (Lib.strCells s).toArray ++ Builtin.zeroCells zv.cells (grownCap w (m + s.size) old e - (m + s.size))) e)) 0 e 1
        (.slice (some ⟨w.heap.size, 0, none⟩) (m + s.size) (grownCap w (m + s.size) old e)) (m + s.size) (xs ++ Lib.strCells s) ∧
      w.grownBy (w.drew.alloc (.cells (xs.toArray ++ (Lib.strCells s).toArray ++ Builtin.zeroCells zv.cells (grownCap w (m + s.size) old e - (m + s.size))) e)) row := by
    intro old ho row
    have hge := grownCap_ge w (m + s.size) old e
    have hcm : grownCap w (m + s.size) old e ≤ maxLen := grownCap_le_maxLen w (m + s.size) old e hmax
    refine ⟨⟨hlen, .inr ⟨w.heap.size, _, _, rfl, Nat.zero_le _, heap_alloc_new w.drew _, hge, hcm, ?_, ?_⟩⟩, ⟨rfl, rfl, rfl, by simp, fun k hk _ => by first | exact Go.heap_alloc_old w.drew _ k hk | exact heap_alloc_old w.drew _ hk⟩⟩
    · simp only [Array.size_append, List.size_toArray, size_zeroCells, hz', hxl, Lib.strCells_length]
      omega
    · simp only [Array.toList_append, List.append_assoc]
      rw [← List.append_assoc, ← hlen]
      exact List.take_left
  rcases hown.2 with ⟨rfl, rfl⟩ | ⟨g, cap, cur, rfl, hbg, hg, hnc, hcm, hcs, htake⟩
  · have hx : xs = [] := List.eq_nil_of_length_eq_zero hxl
    subst hx
    by_cases hm : s.size = 0
    · have hn : Lib.strCells s = [] := List.eq_nil_of_length_eq_zero (by rw [Lib.strCells_length]; exact hm)
      refine ⟨none, 0, w, ?_, by rw [hm, hn]; exact oRow_nil w 0 e 1, ⟨rfl, rfl, rfl, Nat.le_refl _, fun _ _ _ => rfl⟩, .inl rfl⟩
      have hf := Lib.run_firstCells_string (P := P) w 1 s
      rw [hm] at hf
      simp [Builtin.append_, run_underlying ht, run_underlying hu, sizeOf, typeInfo, hi, hsz, Builtin.lenOf, hm, hf]
    · have hr := run_append_nil_string (P := P) w t u ty e i zv ht hu hi hz s (by omega) (by omega) (by have := hbytes; simp only [Nat.zero_add] at this; omega)
      have hgr := grown 0 (by omega) (Value.ownBlock (.slice none 0 0))
      simp only [Nat.zero_add, List.nil_append, Array.empty_append] at hgr ⊢
      have e1 : (s.data.map fun b => Value.int .u8 b.toNat) = (Lib.strCells s).toArray := by
        apply Array.ext'
        simp [Lib.strCells]
      rw [e1] at hr
      exact ⟨_, _, _, hr, hgr.1, hgr.2, .inr (.inr ⟨_, rfl, Nat.le_refl _⟩)⟩
  · by_cases hroom : m + s.size ≤ cap
    · have hr := Lib.run_append_room_string (P := P) w t u ty e i ht hu hi hsz g m cap cur hg s hroom (by omega)
      refine ⟨_, _, _, hr, ⟨hlen, .inr ⟨g, cap, _, rfl, hbg, setRow_heap w g cur _ e _ hg, hroom, hcm, ?_, ?_⟩⟩, ⟨rfl, rfl, rfl, by simp, fun k _ hk => setRow_other w g k _ (fun e => hk (by simp [Value.ownBlock, e]))⟩, .inr (.inl rfl)⟩
      · simp only [List.size_toArray, List.length_append, List.length_take, List.length_drop, Array.length_toList, Lib.strCells_length]
        omega
      · have ht' : cur.toList.take m = xs := by simpa using htake
        rw [ht', ← hlen]
        exact List.take_left
    · have holds : ∀ j u, xs[j]? = some u → w.cell? ((⟨g, 0, none⟩ : Addr).add j) = some u := hown.cells (g := g) rfl
      have hr := Lib.run_append_grow_string (P := P) w t u ty e i zv ht hu hi hz ⟨g, 0, none⟩ m cap xs (by rw [hsz]; simpa using hxl) holds s (by omega) (by omega) (growslice_fits (by omega) hbytes)
      have hgr := grown cap (by omega) (Value.ownBlock (.slice (some ⟨g, 0, none⟩) m cap))
      exact ⟨_, _, _, hr, hgr.1, hgr.2, .inr (.inr ⟨_, rfl, Nat.le_refl _⟩)⟩
theorem qapS {s x : Operand} {t u e : TypeId} {k c : Nat} {A : Option Addr} {l m : List UInt8} {d : Tmp} (hE : Env a n env) (hS : Sep w0 w L)
    (kk : ∀ A' c' a' w', Env a' n ((d, .slice A' (l ++ m).length c') :: env) → Sep w0 w' (row e 1 (.slice A' (l ++ m).length c') (l ++ m).length (u8s (l ++ m)) :: L') → K a' w') (hb : l.length + m.length ≤ 1073741824)
    (ho : o.op = .call { callee := .builtin .append, args := #[s, x], argTypes := #[t, u] } := by exact rfl) (T : AppTy P t e 1 := by infer_instance) (Z : ZeroTy P e [.int .u8 0] := by infer_instance) (S : StrTy P u := by infer_instance) (hs : opv env s = some (.slice A k c) := by exact rfl) (hx : opv env x = some (.string ⟨m.toArray⟩) := by exact rfl)
    (hp : Pull (row e 1 (.slice A k c) k (u8s l)) L L' := by repeat (first | exact Pull.here | apply Pull.there)) (hd : o.dst = some d := by exact rfl) (hlt : Nat.blt d n = true := by exact rfl) : o.wp P a w K Q := by
  have hrow := hS.row_at hp
  have hk : k = l.length := by have := hrow.1; rw [u8s_len] at this; omega
  obtain ⟨A', c', w', hr, hw, hg, hat⟩ := run_appS (P := P) (t := t) (u := u) (ty := o.type) T Z S.h hrow ⟨m.toArray⟩ (by rw [str_len]; omega)
  rw [strCells_mk, u8s_app] at hw
  have e1 : k + (⟨m.toArray⟩ : ByteArray).size = (l ++ m).length := by rw [str_len, List.length_append]; omega
  rw [e1] at hr hw hat
  unfold Oper.wp execOp
  simp only [ho, resolve, invoke, builtin, Sem.run_bind, Sem.run_pure, Result.andThen_ok, List.map_toArray, List.map_cons, List.map_nil, hE.eval hs, hE.eval hx, hr]
  exact kk A' c' _ w' (hE.putS _ hd hlt) (Sep.grow (hS.pull hp) hw hg hat)
theorem wrap8 (v : Int) : IntKind.u8.wrap v = v % 256 := by
  unfold IntKind.wrap
  rfl
/-- A byte out of a number. -/
def byteV (v : Int) : UInt8 := UInt8.ofNat (v % 256).toNat
theorem byteV_nat (v : Int) : ((byteV v).toNat : Int) = v % 256 := by
  have h0 := Int.emod_nonneg v (show (256 : Int) ≠ 0 by decide)
  have h1 := Int.emod_lt_of_pos v (show (0 : Int) < 256 by decide)
  unfold byteV
  rw [UInt8.toNat_ofNat']
  omega
theorem qcv8 {t t' : TypeId} {kd : IntKind} {x : Operand} {v : Int} {d : Tmp} (hE : Env a n env) (k : ∀ a', Env a' n ((d, .int .u8 (byteV v).toNat) :: env) → K a' w) (ho : o.op = .convert t t' x := by exact rfl) (T : IntTy P t' .u8 := by infer_instance) (T1 : IntTy P t kd := by infer_instance) (hx : opv env x = some (.int kd v) := by exact rfl) (hd : o.dst = some d := by exact rfl) (hlt : Nat.blt d n = true := by exact rfl) : o.wp P a w K Q := by
  have e : ((byteV v).toNat : Int) = IntKind.u8.wrap v := by rw [byteV_nat, wrap8]
  refine qcv (k2 := .u8) hE (fun a' h => k a' ?_) ho T T1 hx hd hlt
  rw [e]
  exact h
theorem u8s_flat (l : List UInt8) : u8s l = l.flatMap fun b => [Value.int .u8 b.toNat] := by simp [u8s, List.map_eq_flatMap]
theorem u8s_zeros (m : Nat) : List.replicate m (Value.int .u8 0) = u8s (List.replicate m 0) := by simp [u8s]
/-- A byte stored in an owned row of bytes. -/
theorem qsU {ty e : TypeId} {x y : Operand} {A : Option Addr} {N c : Nat} {i : Int} {l : List UInt8} {b : UInt8} (hE : Env a n env) (hS : Sep w0 w L) (kk : ∀ w', Sep w0 w' (row e 1 (.slice A N c) N (u8s (l.set i.toNat b)) :: L') → K a w') (ho : o.op = .store ty x y := by exact rfl) (T : TyInfo P ty false 1 := by infer_instance)
    (hx : opv env x = some (.pointer (some ((adr A).add (i.toNat * 1)))) := by exact rfl) (hy : opv env y = some (.int .u8 b.toNat) := by exact rfl) (hp : Pull (row e 1 (.slice A N c) N (u8s l)) L L' := by repeat (first | exact Pull.here | apply Pull.there)) (h0 : 0 ≤ i := by omega) (h1 : i < (l.length : Int) := by omega) (hd : o.dst = none := by exact rfl) : o.wp P a w K Q := by
  rw [u8s_flat] at hp
  refine qsR (f := fun b : UInt8 => [Value.int .u8 b.toNat]) (df := 0) (off := 0) (v := .int .u8 b.toNat) b hE hS (fun _ => rfl) rfl (fun w' h => kk w' ?_) ho T hx hy rfl hp rfl rfl rfl rfl h0 h1 hd
  rw [u8s_flat]
  exact h
/-! ### strings.Builder -/
/-- *T to unsafe.Pointer, at an owned block. -/
theorem qtu {ts td t : TypeId} {x : Operand} {g m : Nat} {cs : List Value} {b : Bool} {d : Tmp} (hE : Env a n env) (hS : Sep w0 w L) (k : ∀ a', Env a' n ((d, .pointer (some ⟨g, 0, none⟩)) :: env) → K a' w) (hs : P.underlying ts = some (.pointer t)) (hd0 : P.underlying td = some .unsafePointer) (T : TyInfo P t b m) (hm : m ≠ 0) (hc : 0 < cs.length) (ho : o.op = .convert ts td x := by exact rfl) (hx : opv env x = some (.pointer (some ⟨g, 0, none⟩)) := by exact rfl)
    (hp : Pull (blk g cs t) L L' := by repeat (first | exact Pull.here | apply Pull.there)) (hd : o.dst = some d := by exact rfl) (hlt : Nat.blt d n = true := by exact rfl) : o.wp P a w K Q :=
  o_val hE (by
    obtain ⟨i, hi, hsi⟩ := info_of T.h2
    have hb := hS.blk_at hp
    have hsh : w.shape? g = some (t, cs.length) := by simp [World.shape?, hb]
    have h := Lib.run_to_unsafe (P := P) w ⟨g, 0, none⟩ hs hd0 hi (by omega) hsh hc
    simp only [execOp, ho, hE.eval hx]
    rw [Sem.run_bind, h]; rfl) hd hlt k
/-- .. and back. -/
theorem qfu {ts td t : TypeId} {x : Operand} {g m : Nat} {cs : List Value} {b : Bool} {d : Tmp} (hE : Env a n env) (hS : Sep w0 w L) (k : ∀ a', Env a' n ((d, .pointer (some ⟨g, 0, none⟩)) :: env) → K a' w) (hs : P.underlying ts = some .unsafePointer) (hd0 : P.underlying td = some (.pointer t)) (T : TyInfo P t b m) (hl : liesAt P P.depth t (cs.length / P.cellsOf t) 0 t 1 = true) (ho : o.op = .convert ts td x := by exact rfl) (hx : opv env x = some (.pointer (some ⟨g, 0, none⟩)) := by exact rfl)
    (hp : Pull (blk g cs t) L L' := by repeat (first | exact Pull.here | apply Pull.there)) (hd : o.dst = some d := by exact rfl) (hlt : Nat.blt d n = true := by exact rfl) : o.wp P a w K Q :=
  o_val hE (by
    obtain ⟨i, hi, hsi⟩ := info_of T.h2
    have hb := hS.blk_at hp
    have hsh : w.shape? g = some (t, cs.length) := by simp [World.shape?, hb]
    have h := Lib.run_from_unsafe (P := P) w ⟨g, 0, none⟩ hs hd0 hi hsh hl
    simp only [execOp, ho, hE.eval hx]
    rw [Sem.run_bind, h]; rfl) hd hlt k
/-- A call of internal/abi.NoEscape. -/
theorem qnoesc {f : FuncId} {fn : Func} {x : Operand} {ts : Array TypeId} {v : Value} {d : Tmp} (hE : Env a n env) (k : ∀ a', Env a' n ((d, v) :: env) → K a' w) (hf : P.funcs[f]? = some fn) (hname : (fn.name == "runtime.NumGoroutine") = false) (hb : fn.body.isNone = true) (hn : Extern.findNext fn = none) (he : Extern.find fn = some Extern.AbiNoEscape.same) (ho : o.op = .call { callee := .value (.func f), args := #[x], argTypes := ts } := by exact rfl) (hx : opv env x = some v := by exact rfl) (hd : o.dst = some d := by exact rfl) (hlt : Nat.blt d n = true := by exact rfl) : o.wp P a w K Q :=
  o_val hE (by
    have h := run_callFunc_extern (P := P) hf hname hb hn he #[v] w
    rw [Lib.run_noEscape] at h
    have hev : a.eval (.func f) = .func (.func f) #[] #[] := rfl
    simp only [execOp, ho, resolve, invoke, hev, Deferred.ofValue, Sem.run_bind, Sem.run_pure, Result.andThen_ok, List.map_toArray, List.map_cons, List.map_nil, hE.eval hx, Array.append_empty]
    exact h) hd hlt k
/-- A pointer against itself. -/
theorem qpself {t t' te : TypeId} {x y : Operand} {g m : Nat} {b : Bool} {d : Tmp} (hE : Env a n env) (k : ∀ a', Env a' n ((d, .bool false) :: env) → K a' w) (hu : P.underlying t = some (.pointer te)) (T : TyInfo P te b m) (ho : o.op = .binOp .neq t x y t' := by exact rfl) (hx : opv env x = some (.pointer (some ⟨g, 0, none⟩)) := by exact rfl) (hy : opv env y = some (.pointer (some ⟨g, 0, none⟩)) := by exact rfl) (hd : o.dst = some d := by exact rfl) (hlt : Nat.blt d n = true := by exact rfl) : o.wp P a w K Q :=
  o_bin hE ho hx hy (fun w => by
    obtain ⟨i, hi, _⟩ := info_of T.h2
    have h := Lib.run_neq_ptr_same (P := P) w ⟨g, 0, none⟩ hu hi
    simp [eqGuard, h]) hd hlt k
/-- unsafe.SliceData of an owned row that is not empty. -/
theorem qusd {x : Operand} {ts : Array TypeId} {ad : Addr} {m c : Nat} {d : Tmp} (hE : Env a n env) (k : ∀ a', Env a' n ((d, .pointer (some ad)) :: env) → K a' w) (hc : c ≠ 0) (ho : o.op = .call { callee := .builtin .unsafeSliceData, args := #[x], argTypes := ts } := by exact rfl) (hx : opv env x = some (.slice (some ad) m c) := by exact rfl) (hd : o.dst = some d := by exact rfl) (hlt : Nat.blt d n = true := by exact rfl) : o.wp P a w K Q :=
  o_val hE (by
    have h := Lib.run_unsafeSliceData_row (P := P) w ts o.type ad m c hc
    simp only [execOp, ho, resolve, invoke, builtin, Sem.run_bind, Sem.run_pure, Result.andThen_ok, List.map_toArray, List.map_cons, List.map_nil, hE.eval hx, h]) hd hlt k
/-- A row given up: its block may turn. -/
theorem Sep.give {w' : World} {e : TypeId} {sz m c g : Nat} {xs : List Value} (h : Sep w0 w (row e sz (.slice (some ⟨g, 0, none⟩) m c) m xs :: L)) (hos : w'.os = w.os) (htape : w'.tape = w.tape) (hout : w'.output = w.output) (hsz : w'.heap.size = w.heap.size) (hk : ∀ k, k ≠ g → w'.heap[k]? = w.heap[k]?) : Sep w0 w' L :=
  Sep.turn (M := []) h hos htape hout (by omega) fun F hA hF => ⟨fun k _ hn => hk k (fun e => hn ((hA.2 k).2 (by rw [e]; rfl))), fun _ => False, fun k h => h, fun k h => h.elim⟩
theorem freeze_other (w : World) (g m k : Nat) (hk : k ≠ g) : (w.freeze ⟨g, 0, none⟩ m).heap[k]? = w.heap[k]? := by
  unfold World.freeze
  split
  · rfl
  · simp only [Array.getElem?_modify]
    rw [if_neg (fun e => hk e.symm)]
/-- unsafe.String over an owned row: the row is given up. -/
theorem qus {x y : Operand} {pt it e : TypeId} {g m c : Nat} {l : List UInt8} {d : Tmp} (hE : Env a n env) (hS : Sep w0 w L) (k : ∀ a' w', Env a' n ((d, .string ⟨l.toArray⟩) :: env) → Sep w0 w' L' → K a' w') (hp0 : P.underlying pt = some (.pointer e)) (hc0 : P.cellsOf e = 1) (hne : l ≠ []) (hl : l.length ≤ 1073741824) (ho : o.op = .call { callee := .builtin .unsafeString, args := #[x, y], argTypes := #[pt, it] } := by exact rfl) (hx : opv env x = some (.pointer (some ⟨g, 0, none⟩)) := by exact rfl) (hy : opv env y = some (.int .i64 m) := by exact rfl)
    (hp : Pull (row e 1 (.slice (some ⟨g, 0, none⟩) m c) m (u8s l)) L L' := by repeat (first | exact Pull.here | apply Pull.there)) (hd : o.dst = some d := by exact rfl) (hlt : Nat.blt d n = true := by exact rfl) : o.wp P a w K Q := by
  have hrow := hS.row_at hp
  have hm : m = l.length := by have := hrow.1; rw [u8s_len] at this; omega
  subst hm
  obtain ⟨cur, hcur, hsz⟩ : ∃ cur, w.heap[g]? = some (.cells cur e (0, 0)) ∧ l.length ≤ cur.size := by
    rcases hrow.2 with ⟨hv, h0⟩ | ⟨g', cap, cur, hv, _, hg, hnc, _, hcs, _⟩
    · exact absurd (List.eq_nil_of_length_eq_zero h0) hne
    · cases hv
      exact ⟨cur, hg, by omega⟩
  have hsh : w.shape? g = some (e, cur.size) := by simp [World.shape?, hcur]
  have hr := Lib.run_unsafeString_row (P := P) w pt it o.type e hp0 hc0 g cur.size hsh l hne hsz (by omega) (fun j b hj => hrow.cells (g := g) rfl j _ (by
    rw [u8s, List.getElem?_map, hj]; rfl))
  have hfz : ∀ X : World, X = w.freeze ⟨g, 0, none⟩ l.length → X.os = w.os ∧ X.tape = w.tape ∧ X.output = w.output ∧ X.heap.size = w.heap.size := fun X hX => by
    subst hX
    unfold World.freeze
    split
    · exact ⟨rfl, rfl, rfl, rfl⟩
    · exact ⟨rfl, rfl, rfl, by simp⟩
  obtain ⟨h1, h2, h3, h4⟩ := hfz _ rfl
  unfold Oper.wp execOp
  simp only [ho, resolve, invoke, builtin, Sem.run_bind, Sem.run_pure, Result.andThen_ok, List.map_toArray, List.map_cons, List.map_nil, hE.eval hx, hE.eval hy, hr]
  exact k _ _ (hE.putS _ hd hlt) ((hS.pull hp).give h1 h2 h3 h4 (fun k hk => freeze_other w g _ k hk))
end
end Go.Sx
/- DERIVED. Layers 1 and 5: a number in bytes; strings.Builder. No condition. -/
namespace Go.Proofs.Ytdaciolahgfhiaa
open Go.RowKit Go.Sx Go.Proofs.YtdaciolahgfhiaaTy
set_option linter.unusedVariables false
set_option linter.unusedSimpArgs false
set_option maxRecDepth 100000
attribute [local irreducible] Oper.wp Code.wp wpList wpAnyH Calls bodyPost Exit.then Exit.inBlock Code.rounds
set_option maxHeartbeats 1000000
/-- The n lowest bytes of a number, the greatest one first. -/
def be : Nat → Int → List UInt8
  | 0, _ => []
  | n + 1, v => byteV (v / 256 ^ n) :: be n v
theorem be_len : ∀ (n : Nat) (v : Int), (be n v).length = n
  | 0, _ => rfl
  | n + 1, v => by simp [be, be_len n v]
theorem set_mid {l : List UInt8} {b : UInt8} {k : Nat} (hk : 0 < k) : (List.replicate k 0 ++ l).set (k - 1) b = List.replicate (k - 1) 0 ++ b :: l := by
  obtain ⟨j, rfl⟩ : ∃ j, k = j + 1 := ⟨k - 1, by omega⟩
  rw [Nat.add_sub_cancel, List.replicate_succ', List.append_assoc, List.set_append]
  simp
theorem pow_split (i : Nat) : (256 : Int) ^ i = 2 ^ (8 * i) := by
  rw [show (256 : Int) = 2 ^ 8 by decide, ← Int.pow_mul]
theorem shr_is {v : Int} {i : Int} (h0 : 0 ≤ i) (h1 : i < 8) : v.fdiv (2 ^ min (8 * i).toNat IntKind.u64.bits) = v / 256 ^ i.toNat := by
  have e : min (8 * i).toNat IntKind.u64.bits = 8 * i.toNat := by
    have : IntKind.u64.bits = 64 := rfl
    omega
  rw [e, pow_split, Int.fdiv_eq_ediv_of_nonneg _ (Int.le_of_lt (Int.pow_pos (by decide)))]
theorem oput8_s (v n : Int) (w0 : World) (h0 : 1 ≤ n) (h1 : n < 8) (hv : 0 ≤ v) (hv2 : v < 256 ^ n.toNat) : Calls Try.prog 78 #[.int .u64 v, .int .i64 n] w0 fun e w' => ∃ r, e = .returned r ∧ r = .tuple #[.string ⟨(be n.toNat v).toArray⟩, .int .i64 0] ∧ Sep w0 w' [] := by
  have hz : v / 256 ^ n.toNat = 0 := Int.ediv_eq_zero_of_lt hv hv2
  obtain ⟨m, rfl⟩ : ∃ m : Nat, n = m := ⟨n.toNat, by omega⟩
  rw [Int.toNat_natCast] at hz hv2 ⊢
  refine enter (args := [.int .u64 v, .int .i64 m]) 46 Try.func78 rfl rfl rfl ?_
  intro a hE hS
  repeat' (first | refine wl_nil ?_ | refine then_n ?_ | refine c_block ?_ | refine c_skip ?_ | refine c_cond_f hE rfl ?_ | (refine c_regI 0 ?_; all_goals (refine wl hE rfl ?_; refine qa hE ?_; clear hE a; intro a hE); all_goals (refine wl hE rfl ?_; refine qa hE ?_; clear hE a; intro a hE)) | (refine c_regI 1 ?_; all_goals (refine wl hE rfl ?_; refine qm hE ?_; clear hE a; intro a hE); all_goals (refine wl hE rfl ?_; refine qb hE ?_; clear hE a; intro a hE); all_goals (refine wl hE rfl ?_; refine qm hE ?_; clear hE a; intro a hE); all_goals ((refine wl_splitg hE rfl rfl ?_ ?_) <;> (clear hE; intro hb hE; (first | replace hb := of_decide_eq_true hb | replace hb := of_decide_eq_false hb | (simp only [Bool.not_eq_true', Bool.not_eq_false', decide_eq_true_eq, decide_eq_false_iff_not] at hb) | skip); try (exfalso; first | omega | exact absurd trivial hb | exact absurd rfl hb | (simp only [beq_self_eq_true, bne_self_eq_false, reduceCtorEq] at hb; done))) <;> (refine wl hE rfl ?_; refine qm hE ?_; clear hE a; intro a hE)); all_goals (refine wl hE rfl ?_; refine qb hE ?_; clear hE a; intro a hE); all_goals (refine wl hE rfl ?_; refine qpf hE ?_; clear hE a; intro a hE); all_goals (refine wl hE rfl ?_; refine qm hE ?_; clear hE a; intro a hE); all_goals ((refine wl_splitg hE rfl rfl ?_ ?_) <;> (clear hE; intro hb hE; (first | replace hb := of_decide_eq_true hb | replace hb := of_decide_eq_false hb | (simp only [Bool.not_eq_true', Bool.not_eq_false', decide_eq_true_eq, decide_eq_false_iff_not] at hb) | skip); try (exfalso; first | omega | exact absurd trivial hb | exact absurd rfl hb | (simp only [beq_self_eq_true, bne_self_eq_false, reduceCtorEq] at hb; done))) <;> (refine wl hE rfl ?_; refine qm hE ?_; clear hE a; intro a hE)); all_goals (refine wl hE rfl ?_; refine qb hE ?_; clear hE a; intro a hE); all_goals (refine wl hE rfl ?_; refine qm hE ?_; clear hE a; intro a hE); all_goals ((refine wl_splitg hE rfl rfl ?_ ?_) <;> (clear hE; intro hb hE; (first | replace hb := of_decide_eq_true hb | replace hb := of_decide_eq_false hb | (simp only [Bool.not_eq_true', Bool.not_eq_false', decide_eq_true_eq, decide_eq_false_iff_not] at hb) | skip); try (exfalso; first | omega | exact absurd trivial hb | exact absurd rfl hb | (simp only [beq_self_eq_true, bne_self_eq_false, reduceCtorEq] at hb; done))) <;> (refine wl hE rfl ?_; refine qm hE ?_; clear hE a; intro a hE)); all_goals (refine wl hE rfl ?_; refine qm hE ?_; clear hE a; intro a hE); all_goals (refine wl hE rfl ?_; refine qb hE ?_; clear hE a; intro a hE); all_goals (refine wl hE rfl ?_; refine qb2 hE ?_ (hb := bin_shr (by omega)); rw [shr_is (by omega) (by omega), Int.toNat_natCast, hz]; clear hE a; intro a hE); all_goals (refine wl hE rfl ?_; refine qb hE ?_; clear hE a; intro a hE); all_goals (refine wl hE rfl ?_; refine qpt hE ?_; clear hE a; intro a hE); all_goals (refine wl hE rfl ?_; refine qpf hE ?_; clear hE a; intro a hE)) | (refine c_regI 3 ?_; all_goals (refine wl hE rfl ?_; refine qm hE ?_; clear hE a; intro a hE); all_goals (refine wl hE rfl ?_; refine qmk1 (m := m) hE hS ?_; clear hE hS; clear a; intro g a w hE hS); all_goals (refine wl hE rfl ?_; refine qa hE ?_; clear hE a; intro a hE)) | (refine c_regI 4 ?_; all_goals (refine wl hE rfl ?_; refine qm hE ?_; clear hE a; intro a hE); all_goals (refine wl hE rfl ?_; refine qn1 hE ?_; clear hE a; intro a hE); all_goals (refine wl hE rfl ?_; refine qm hE ?_; clear hE a; intro a hE)) | refine c_seq ?_)
  rw [u8s_zeros] at hS
  obtain ⟨g0, hg0⟩ : ∃ g0, g0 = g := ⟨_, rfl⟩
  rw [← hg0] at hE hS
  clear hg0
  refine c_loopN (fun k a w => ∃ i : Int, 0 ≤ i ∧ i ≤ m ∧ k = (m - i).toNat ∧ Env a 46 [(0, .int .u64 v), (1, .int .i64 m), (6, .slice (some ⟨g0, 0, none⟩) m m), (28, .int .i64 m), (29, .int .i64 i)] ∧ Sep w0 w [row 5 1 (.slice (some ⟨g0, 0, none⟩) m m) m (u8s (List.replicate (m - i.toNat) 0 ++ be i.toNat v))]) _ ⟨0, by omega, by omega, rfl, hE.cut ⟨rfl, rfl, rfl, rfl, rfl, trivial⟩, by rw [show (m - (0 : Int).toNat) = m from rfl, show be (0 : Int).toNat v = [] from rfl, List.append_nil]; exact hS.fit⟩ ?_
  clear hE hS a w
  rintro k a w ⟨i, h2, h3, rfl, hE, hS⟩
  have hA : (0 : Int) < m → (some (⟨g0, 0, none⟩ : Addr)) = some (adr (some ⟨g0, 0, none⟩)) := fun _ => rfl
  have hlen : (List.replicate (m - i.toNat) (0 : UInt8) ++ be i.toNat v).length = m := by rw [List.length_append, be_len, List.length_replicate]; omega
  by_cases hi : i < m
  · repeat' (first | refine wl_nil ?_ | refine then_n ?_ | refine c_block ?_ | refine c_skip ?_ | refine inb_n ?_ | (refine c_regI 5 ?_; all_goals (refine wl hE rfl ?_; refine qb hE ?_; clear hE a; intro a hE)) | (refine c_regI 6 ?_; all_goals (refine wl hE rfl ?_; refine qm hE ?_; clear hE a; intro a hE); all_goals (refine wl hE rfl ?_; refine qa hE ?_; clear hE a; intro a hE)) | (refine c_regI 7 ?_; all_goals (refine wl hE rfl ?_; refine qm hE ?_; clear hE a; intro a hE); all_goals (refine wl hE rfl ?_; refine qm hE ?_; clear hE a; intro a hE); all_goals (refine wl hE rfl ?_; refine qb hE ?_; clear hE a; intro a hE); all_goals (refine wl hE rfl ?_; refine qm hE ?_; clear hE a; intro a hE); all_goals (refine wl hE rfl ?_; refine qb hE ?_; clear hE a; intro a hE); all_goals (refine wl hE rfl ?_; refine qm hE ?_; clear hE a; intro a hE); all_goals (refine wl hE rfl ?_; refine qm hE ?_; clear hE a; intro a hE); all_goals (refine wl hE rfl ?_; refine qb hE ?_; clear hE a; intro a hE); all_goals (refine wl hE rfl ?_; refine qb2 hE ?_ (hb := bin_shr (by omega)); rw [shr_is (by omega) (by omega)]; clear hE a; intro a hE); all_goals (refine wl hE rfl ?_; refine qcv8 hE ?_; clear hE a; intro a hE); all_goals (refine wl hE rfl ?_; refine qi (A := some ⟨g0, 0, none⟩) hE hA ?_; clear hE a; intro a hE); all_goals (refine wl hE rfl ?_; refine qsU (A := some ⟨g0, 0, none⟩) (i := m - 1 - i) (b := byteV (v / 256 ^ i.toNat)) hE hS ?_ (h1 := by rw [hlen]; omega); clear hS; intro w hS)) | (refine c_regI 8 ?_; all_goals (refine wl hE rfl ?_; refine qb hE ?_; clear hE a; intro a hE); all_goals (refine wl hE rfl ?_; refine qm hE ?_; clear hE a; intro a hE)) | refine c_seq ?_ | ((refine c_cond hE rfl ?_ ?_) <;> (intro hb; (first | replace hb := of_decide_eq_true hb | replace hb := of_decide_eq_false hb | (simp only [Bool.not_eq_true', Bool.not_eq_false', decide_eq_true_eq, decide_eq_false_iff_not] at hb) | skip); try (exfalso; first | omega | exact absurd trivial hb | exact absurd rfl hb | (simp only [beq_self_eq_true, bne_self_eq_false, reduceCtorEq] at hb; done)))))
    refine ⟨_, by omega, i + 1, by omega, by omega, rfl, hE.cut ⟨rfl, rfl, rfl, rfl, rfl, trivial⟩, ?_⟩
    have e1 : (m - 1 - i : Int).toNat = (m - i.toNat) - 1 := by omega
    have e2 : m - (i + 1).toNat = (m - i.toNat) - 1 := by omega
    have e3 : (i + 1).toNat = i.toNat + 1 := by omega
    rw [e1, set_mid (by omega)] at hS
    rw [e2, e3]
    exact hS.fit
  · have e : List.replicate (m - i.toNat) (0 : UInt8) ++ be i.toNat v = be m v := by
      rw [show i.toNat = m by omega, Nat.sub_self]
      rfl
    rw [e] at hS
    repeat' (first | refine wl_nil ?_ | refine then_n ?_ | refine c_exit ?_ | refine c_ret ?_ | refine then_e ?_ | refine inb_e ?_ | (refine c_regI 5 ?_; all_goals (refine wl hE rfl ?_; refine qb hE ?_; clear hE a; intro a hE)) | (refine c_regI 9 ?_; all_goals (refine wl hE rfl ?_; refine qm hE ?_; clear hE a; intro a hE); all_goals (refine wl hE rfl ?_; refine qb2s hE hS ?_; clear hE a; intro a hE); all_goals (refine wl hE rfl ?_; refine qa hE ?_; clear hE a; intro a hE); all_goals (refine wl hE rfl ?_; refine qa hE ?_; clear hE a; intro a hE)) | refine c_seq ?_ | ((refine c_cond hE rfl ?_ ?_) <;> (intro hb; (first | replace hb := of_decide_eq_true hb | replace hb := of_decide_eq_false hb | (simp only [Bool.not_eq_true', Bool.not_eq_false', decide_eq_true_eq, decide_eq_false_iff_not] at hb) | skip); try (exfalso; first | omega | exact absurd trivial hb | exact absurd rfl hb | (simp only [beq_self_eq_true, bne_self_eq_false, reduceCtorEq] at hb; done)))))
    exact p_rets hE rfl (rt hE (rt hE .nil)) rfl ⟨_, rfl, rfl, hS.clean⟩
/-- A builder that has these bytes. -/
def Bld (g : Nat) (l : List UInt8) : Asn := ex fun (p : Option Addr × Option Addr × Nat) => stars [pur (p.1 = none ∨ p.1 = some ⟨g, 0, none⟩), blk g [.pointer p.1, .slice p.2.1 l.length p.2.2] 134, row 5 1 (.slice p.2.1 l.length p.2.2) l.length (u8s l)]
theorem Bld.out {g : Nat} {l : List UInt8} {w0 w : World} {L L' : List Asn} (hS : Sep w0 w L) (hp : Pull (Bld g l) L L' := by repeat (first | exact Pull.here | apply Pull.there)) :
    ∃ (q A : Option Addr) (c : Nat), (q = none ∨ q = some ⟨g, 0, none⟩) ∧ Sep w0 w (blk g [.pointer q, .slice A l.length c] 134 :: row 5 1 (.slice A l.length c) l.length (u8s l) :: L') := by
  obtain ⟨⟨q, A, c⟩, h⟩ := hS.out_ex hp
  have h2 := h.out_stars Pull.here
  obtain ⟨h3, h4⟩ := h2.out_pur Pull.here
  exact ⟨q, A, c, h3, h4⟩
theorem Bld.in_ {g : Nat} {l : List UInt8} {q A : Option Addr} {c : Nat} {w0 w : World} {L : List Asn} (hq : q = none ∨ q = some ⟨g, 0, none⟩) (hS : Sep w0 w (blk g [.pointer q, .slice A l.length c] 134 :: row 5 1 (.slice A l.length c) l.length (u8s l) :: L)) : Sep w0 w (Bld g l :: L) :=
  Sep.in_ex (f := fun (p : Option Addr × Option Addr × Nat) => stars [pur (p.1 = none ∨ p.1 = some ⟨g, 0, none⟩), blk g [.pointer p.1, .slice p.2.1 l.length p.2.2] 134, row 5 1 (.slice p.2.1 l.length p.2.2) l.length (u8s l)]) (q, A, c) (Sep.in_stars (M := [_, _, _]) (hS.in_pur hq))
theorem uB_ : Try.prog.underlying 131 = some (.pointer 134) := by kernel_rfl
theorem uU_ : Try.prog.underlying 150 = some .unsafePointer := by kernel_rfl
theorem lies_ {u v : Value} : liesAt Try.prog Try.prog.depth 134 ([u, v].length / Try.prog.cellsOf 134) 0 134 1 = true := by
  show liesAt Try.prog Try.prog.depth 134 (2 / Try.prog.cellsOf 134) 0 134 1 = true
  kernel_rfl
theorem copyCheck_s (g : Nat) (q A : Option Addr) (m c : Nat) (hq : q = none ∨ q = some ⟨g, 0, none⟩) (u0 w0 : World) (L : List Asn) (hS0 : Sep u0 w0 (blk g [.pointer q, .slice A m c] 134 :: L)) :
    Calls Try.prog 90 #[.pointer (some ⟨g, 0, none⟩)] w0 fun e w' => ∃ r, e = .returned r ∧ r = .tuple #[] ∧ Sep u0 w' (blk g [.pointer (some ⟨g, 0, none⟩), .slice A m c] 134 :: L) := by
  refine enter (args := [.pointer (some ⟨g, 0, none⟩)]) 20 Try.func90 rfl rfl rfl ?_
  intro a hE _
  have hS := hS0
  clear hS0
  obtain ⟨g0, hg0⟩ : ∃ g0, g0 = g := ⟨_, rfl⟩
  rw [← hg0] at hE hS hq ⊢
  clear hg0
  revert hE
  revert hS
  generalize w0 = w
  intro hS hE
  rcases hq with rfl | rfl
  · repeat' (first | refine wl_nil ?_ | refine then_n ?_ | refine c_cond_t hE rfl ?_ | (refine c_regI 0 ?_; all_goals (refine wl hE rfl ?_; refine qm hE ?_; clear hE a; intro a hE); all_goals (refine wl hE rfl ?_; refine qn hE ?_; clear hE a; intro a hE); all_goals (refine wl hE rfl ?_; refine qf hE ?_; clear hE a; intro a hE); all_goals (refine wl hE rfl ?_; refine ql hE hS ?_; clear hE a; intro a hE); all_goals (refine wl hE rfl ?_; refine qpn hE ?_; clear hE a; intro a hE)) | (refine c_regI 1 ?_; all_goals (refine wl hE rfl ?_; refine qm hE ?_; clear hE a; intro a hE); all_goals (refine wl hE rfl ?_; refine qm hE ?_; clear hE a; intro a hE); all_goals (refine wl hE rfl ?_; refine qtu (cs := [.pointer none, .slice A m c]) hE hS ?_ uB_ uU_ (by infer_instance : TyInfo Try.prog 134 true 2) (by decide) (by show 0 < 2; decide); clear hE a; intro a hE); all_goals (refine wl hE rfl ?_; refine qnoesc hE ?_ Try.func95 (by kernel_rfl) (by kernel_rfl) (by kernel_rfl) (by kernel_rfl); clear hE a; intro a hE); all_goals (refine wl hE rfl ?_; refine qfu (cs := [.pointer none, .slice A m c]) hE hS ?_ uU_ uB_ (by infer_instance : TyInfo Try.prog 134 true 2) lies_; clear hE a; intro a hE); all_goals (refine wl hE rfl ?_; refine qn hE ?_; clear hE a; intro a hE); all_goals (refine wl hE rfl ?_; refine qf hE ?_; clear hE a; intro a hE); all_goals (refine wl hE rfl ?_; refine qst hE hS ?_; clear hS; intro w hS)) | refine c_seq ?_)
    all_goals first | exact p_end hE rfl ⟨_, rfl, rfl, hS.fit⟩ | exact p_none hE rfl ⟨_, rfl, rfl, hS.fit⟩
  · repeat' (first | refine wl_nil ?_ | refine then_n ?_ | refine c_skip ?_ | refine c_cond_f hE rfl ?_ | (refine c_regI 0 ?_; all_goals (refine wl hE rfl ?_; refine qm hE ?_; clear hE a; intro a hE); all_goals (refine wl hE rfl ?_; refine qn hE ?_; clear hE a; intro a hE); all_goals (refine wl hE rfl ?_; refine qf hE ?_; clear hE a; intro a hE); all_goals (refine wl hE rfl ?_; refine ql hE hS ?_; clear hE a; intro a hE); all_goals (refine wl hE rfl ?_; refine qpn hE ?_; clear hE a; intro a hE)) | (refine c_regI 2 ?_; all_goals (refine wl hE rfl ?_; refine qm hE ?_; clear hE a; intro a hE); all_goals (refine wl hE rfl ?_; refine qn hE ?_; clear hE a; intro a hE); all_goals (refine wl hE rfl ?_; refine qf hE ?_; clear hE a; intro a hE); all_goals (refine wl hE rfl ?_; refine ql hE hS ?_; clear hE a; intro a hE); all_goals (refine wl hE rfl ?_; refine qm hE ?_; clear hE a; intro a hE); all_goals (refine wl hE rfl ?_; refine qpself hE ?_ uB_ (by infer_instance : TyInfo Try.prog 134 true 2); clear hE a; intro a hE)) | refine c_seq ?_)
    all_goals first | exact p_end hE rfl ⟨_, rfl, rfl, hS.fit⟩ | exact p_none hE rfl ⟨_, rfl, rfl, hS.fit⟩
end Go.Proofs.Ytdaciolahgfhiaa
/- DERIVED. Layer 5: messages' bytes, by the program. No condition. -/
namespace Go.Proofs.Ytdaciolahgfhiaa
open Go.RowKit Go.Sx Go.Proofs.YtdaciolahgfhiaaTy
set_option linter.unusedVariables false
set_option linter.unusedSimpArgs false
set_option maxRecDepth 100000
attribute [local irreducible] Oper.wp Code.wp wpList wpAnyH Calls bodyPost Exit.then Exit.inBlock Code.rounds
set_option maxHeartbeats 1000000
theorem Sep.row_some {w0 w : World} {e : TypeId} {n c : Nat} {A : Option Addr} {xs : List Value} {L L' : List Asn} (h : Sep w0 w L) (hx : xs ≠ []) (hp : Pull (row e 1 (.slice A n c) n xs) L L' := by repeat (first | exact Pull.here | apply Pull.there)) : ∃ g, A = some ⟨g, 0, none⟩ ∧ c ≠ 0 := by
  have hr := h.row_at hp
  have hl := hr.1
  rcases hr.2 with ⟨hv, h0⟩ | ⟨g, cap, cur, hv, _, _, hnc, _⟩
  · rw [h0] at hl
    exact absurd (List.eq_nil_of_length_eq_zero (by omega)) hx
  · cases hv
    refine ⟨g, rfl, ?_⟩
    have : xs.length ≠ 0 := fun h => hx (List.eq_nil_of_length_eq_zero h)
    omega
theorem uP8_ : Try.prog.underlying 146 = some (.pointer 5) := by kernel_rfl
theorem c8_ : Try.prog.cellsOf 5 = 1 := by kernel_rfl
theorem write_s (g : Nat) (l m : List UInt8) (u0 w0 : World) (L : List Asn) (hS0 : Sep u0 w0 (Bld g l :: L)) (hb : l.length + m.length ≤ 1073741824) :
    Calls Try.prog 79 #[.pointer (some ⟨g, 0, none⟩), .string ⟨m.toArray⟩] w0 fun e w' => ∃ r, e = .returned r ∧ (∃ x y, r = .tuple #[x, y]) ∧ Sep u0 w' (Bld g (l ++ m) :: L) := by
  refine enter (args := [.pointer (some ⟨g, 0, none⟩), .string ⟨m.toArray⟩]) 19 Try.func79 rfl rfl rfl ?_
  intro a hE _
  (have hS := hS0); clear hS0; (obtain ⟨g0, hg0⟩ : ∃ g0, g0 = g := ⟨_, rfl⟩); rw [← hg0] at hE hS ⊢; clear hg0; revert hE; revert hS; generalize w0 = w; intro hS hE
  obtain ⟨q, A, c, hq, hS⟩ := Bld.out hS
  repeat' (first | refine wl_nil ?_ | refine then_n ?_ | refine c_ret ?_ | (refine c_regI 0 ?_; all_goals (refine wl hE rfl ?_; refine qa hE ?_; clear hE a; intro a hE); all_goals (refine wl hE rfl ?_; refine qa hE ?_; clear hE a; intro a hE)) | (refine c_regI 1 ?_; all_goals (refine wl hE rfl ?_; refine qm hE ?_; clear hE a; intro a hE); all_goals (refine wl hE rfl ?_; refine is_call 90 rfl ?_; refine qc hE (copyCheck_s g0 q A l.length c hq u0 _ _ hS.fit) ?_; clear hE hS; clear a; rintro _ a w ⟨rfl, hS⟩ hE)) | (refine c_regI 2 ?_; all_goals (refine wl hE rfl ?_; refine qm hE ?_; clear hE a; intro a hE); all_goals (refine wl hE rfl ?_; refine qm hE ?_; clear hE a; intro a hE); all_goals (refine wl hE rfl ?_; refine qn hE ?_; clear hE a; intro a hE); all_goals (refine wl hE rfl ?_; refine qf hE ?_; clear hE a; intro a hE); all_goals (refine wl hE rfl ?_; refine ql hE hS ?_; clear hE a; intro a hE); all_goals (refine wl hE rfl ?_; refine qm hE ?_; clear hE a; intro a hE); all_goals (refine wl hE rfl ?_; refine qapS (A := A) (c := c) (l := l) (m := m) hE hS ?_ hb; clear hE hS; clear a; intro A2 c2 a w hE hS); all_goals (refine wl hE rfl ?_; refine qn hE ?_; clear hE a; intro a hE); all_goals (refine wl hE rfl ?_; refine qf hE ?_; clear hE a; intro a hE); all_goals (refine wl hE rfl ?_; refine qst hE hS ?_; clear hS; intro w hS)) | (refine c_regI 3 ?_; all_goals (refine wl hE rfl ?_; refine qm hE ?_; clear hE a; intro a hE); all_goals (refine wl hE rfl ?_; refine qns hE ?_; clear hE a; intro a hE); all_goals (refine wl hE rfl ?_; refine qa hE ?_; clear hE a; intro a hE); all_goals (refine wl hE rfl ?_; refine qa hE ?_; clear hE a; intro a hE)) | refine c_seq ?_)
  exact p_rets hE rfl (rt hE (rt hE .nil)) rfl ⟨_, rfl, ⟨_, _, rfl⟩, (Bld.in_ (q := some ⟨g0, 0, none⟩) (A := A2) (c := c2) (.inr rfl) hS.fit).fit⟩
theorem string_s (g : Nat) (l : List UInt8) (u0 w0 : World) (L : List Asn) (hS0 : Sep u0 w0 (Bld g l :: L)) (hne : l ≠ []) (hl : l.length ≤ 1073741824) :
    Calls Try.prog 80 #[.pointer (some ⟨g, 0, none⟩)] w0 fun e w' => ∃ r, e = .returned r ∧ r = .string ⟨l.toArray⟩ ∧ Sep u0 w' L := by
  refine enter (args := [.pointer (some ⟨g, 0, none⟩)]) 14 Try.func80 rfl rfl rfl ?_
  intro a hE _
  (have hS := hS0); clear hS0; (obtain ⟨g0, hg0⟩ : ∃ g0, g0 = g := ⟨_, rfl⟩); rw [← hg0] at hE hS; clear hg0; revert hE; revert hS; generalize w0 = w; intro hS hE
  obtain ⟨q, A, c, hq, hS⟩ := Bld.out hS
  obtain ⟨g1, rfl, hc⟩ := Sep.row_some hS.drop (xs := u8s l) (n := l.length) (c := c) (A := A) (by intro h; exact hne (by simpa [u8s] using h))
  repeat' (first | refine wl_nil ?_ | refine then_n ?_ | refine c_ret ?_ | (refine c_regI 0 ?_; all_goals (refine wl hE rfl ?_; refine qa hE ?_; clear hE a; intro a hE)) | refine c_seq ?_ | (refine rg_guard 1 ?_; refine rg_start [0] hE hS ?_; clear hS; (try clear w); intro w hS hX; all_goals (refine rg_y 0 hE hX (by exact y_move) ?_ rfl rfl rfl rfl; clear hE a; intro a hE); all_goals (refine rg_y 1 hE hX (by exact y_nil) ?_ rfl rfl rfl rfl; clear hE a; intro a hE); all_goals (refine rg_y 2 hE hX (by exact y_field) ?_ rfl rfl rfl rfl; clear hE a; intro a hE); all_goals (refine rg_y 3 hE hX (by exact y_load) ?_ rfl rfl rfl rfl; clear hE a; intro a hE); all_goals (refine rg_y 5 hE hX (by exact y_move) ?_ rfl rfl rfl rfl; clear hE a; intro a hE); all_goals (refine rg_y 6 hE hX (by exact y_nil) ?_ rfl rfl rfl rfl; clear hE a; intro a hE); all_goals (refine rg_y 7 hE hX (by exact y_field) ?_ rfl rfl rfl rfl; clear hE a; intro a hE); all_goals (refine rg_y 8 hE hX (by exact y_load) ?_ rfl rfl rfl rfl; clear hE a; intro a hE); all_goals (refine rg_y 9 hE hX (by exact y_len) ?_ rfl rfl rfl rfl; clear hE a; intro a hE); all_goals (refine rg_e 4 hE rfl rfl (by kernel_rfl) ?_; intro K hK; (refine qusd hE ?_ hc; clear hE a; intro a hE); refine rg_k hK hS ?_; clear hK hX; clear K; intro hX); all_goals (refine rg_e 10 hE rfl rfl (by kernel_rfl) ?_; intro K hK; (refine qus (g := g1) (l := l) (c := c) hE hS ?_ uP8_ c8_ hne hl; clear hE hS; clear a; intro a w hE hS); refine rg_k hK hS ?_; clear hK hX; clear K; intro hX); all_goals (refine rg_y 11 hE hX (by exact y_assign) ?_ rfl rfl rfl rfl; clear hE a; intro a hE); all_goals (refine rg_done ?_ (by kernel_rfl); (try clear hX))))
  exact p_ret hE rfl rfl ⟨_, rfl, rfl, hS.drop⟩
/-- A number in so many bytes. -/
structure F5 where
  v : Int
  n : Int
def F5.cells (f : F5) : List Value := [.int .u64 f.v, .int .i64 f.n]
def F50 : F5 := ⟨0, 0⟩
theorem f5len (f : F5) : f.cells.length = 2 := rfl
def F5.bytes (f : F5) : List UInt8 := be f.n.toNat f.v
def F5.ok (f : F5) : Prop := (1 ≤ f.n ∧ f.n < 8) ∧ 0 ≤ f.v ∧ f.v < 256 ^ f.n.toNat
theorem f5_bytes_len {l : List F5} (h : ∀ f ∈ l, f.ok) : (l.flatMap F5.bytes).length ≤ 8 * l.length := by
  induction l with
  | nil => simp
  | cons f l ih =>
    have h1 := ih fun x hx => h x (by simp [hx])
    have h2 := (h f (by simp)).1
    rw [List.flatMap_cons, List.length_append, F5.bytes, be_len, List.length_cons]
    omega
theorem joined_s (A : Option Addr) (cap : Nat) (l : List F5) (w0 : World) (hR : Rd w0 A (l.flatMap F5.cells)) (hok : ∀ f ∈ l, f.ok) (hne : l.flatMap F5.bytes ≠ []) (hl : l.length ≤ 1000) :
    Calls Try.prog 60 #[.slice A l.length cap] w0 fun e w' => ∃ r, e = .returned r ∧ r = .string ⟨(l.flatMap F5.bytes).toArray⟩ ∧ Sep w0 w' [] := by
  have hA : (0 : Int) < l.length → A = some (adr A) := fun h => hR.some (by rw [flat_len f5len]; omega)
  have hT := hR.at_
  refine enter (args := [.slice A l.length cap]) 26 Try.func60 rfl rfl rfl ?_
  intro a hE hS
  repeat' (first | refine wl_nil ?_ | refine then_n ?_ | refine c_block ?_ | (refine c_regI 0 ?_; all_goals (refine wl hE rfl ?_; refine qa hE ?_; clear hE a; intro a hE)) | (refine c_regI 1 ?_; all_goals (refine wl hE rfl ?_; refine qal hE hS ?_; clear hE hS; clear a; intro g a w hE hS)) | (refine c_regI 2 ?_; all_goals (refine wl hE rfl ?_; refine qm hE ?_; clear hE a; intro a hE); all_goals (refine wl hE rfl ?_; refine qn1 hE ?_; clear hE a; intro a hE); all_goals (refine wl hE rfl ?_; refine qm hE ?_; clear hE a; intro a hE)) | refine c_seq ?_)
  obtain ⟨g0, hg0⟩ : ∃ g0, g0 = g := ⟨_, rfl⟩
  rw [← hg0] at hE hS
  clear hg0
  replace hS : Sep w0 w [Bld g0 []] := Bld.in_ (g := g0) (l := []) (q := none) (A := none) (c := 0) (.inl rfl) (hS.nil_row (e := 5) (sz := 1)).fit
  refine c_loopN (fun m a w => ∃ i : Int, 0 ≤ i ∧ i ≤ l.length ∧ m = (l.length - i).toNat ∧ Env a 26 [(3, .pointer (some ⟨g0, 0, none⟩)), (8, .slice A l.length cap), (9, .int .i64 l.length), (10, .int .i64 i)] ∧ Sep w0 w [Bld g0 ((l.take i.toNat).flatMap F5.bytes)]) _ ⟨0, by omega, by omega, rfl, hE.cut ⟨rfl, rfl, rfl, rfl, trivial⟩, by simpa using hS⟩ ?_
  clear hE hS a w
  rintro m a w ⟨i, h0, h1, rfl, hE, hS⟩
  by_cases hi : i < l.length
  · obtain ⟨x, hx⟩ : ∃ x, l.getD i.toNat F50 = x := ⟨_, rfl⟩
    have hlt : i.toNat < l.length := by omega
    have hxm : x ∈ l := by rw [← hx]; simp [hlt]
    obtain ⟨⟨hx1, hx2⟩, hx3, hx4⟩ : x.ok := hok x hxm
    have hle := f5_bytes_len (l := l.take i.toNat) fun f hf => hok f (List.mem_of_mem_take hf)
    have hst : (l.take i.toNat).flatMap F5.bytes ++ be x.n.toNat x.v = (l.take (i + 1).toNat).flatMap F5.bytes := by
      have e : l[i.toNat] = x := by rw [← hx]; simp [hlt]
      rw [show (i + 1).toNat = i.toNat + 1 by omega, List.take_succ_eq_append_getElem hlt, e, List.flatMap_append]
      simp [F5.bytes]
    have htk : (l.take i.toNat).length ≤ l.length := by rw [List.length_take]; omega
    repeat' (first | refine wl_nil ?_ | refine then_n ?_ | refine c_block ?_ | refine c_skip ?_ | refine inb_n ?_ | (refine c_regI 3 ?_; all_goals (refine wl hE rfl ?_; refine qb hE ?_; clear hE a; intro a hE)) | (refine c_regI 4 ?_; all_goals (refine wl hE rfl ?_; refine qi hE hA ?_; clear hE a; intro a hE); all_goals (refine wl hE rfl ?_; refine qLs (i := i) (us := x.cells) (df := F50) hE hS f5len hT (by rw [hx]) ?_; clear hE a; intro a hE); all_goals (refine wl hE rfl ?_; refine qal hE hS ?_; clear hE hS; clear a; intro g a w hE hS); all_goals (refine wl hE rfl ?_; refine qst0 hE hS ?_; clear hS; intro w hS)) | (refine c_regI 5 ?_; all_goals (refine wl hE rfl ?_; refine qf hE ?_; clear hE a; intro a hE); all_goals (refine wl hE rfl ?_; refine ql hE hS ?_; clear hE a; intro a hE); all_goals (refine wl hE rfl ?_; refine qf hE ?_; clear hE a; intro a hE); all_goals (refine wl hE rfl ?_; refine ql hE hS ?_; clear hE a; intro a hE); all_goals (refine wl hE rfl ?_; refine is_call 78 rfl ?_; refine qc hE (oput8_s x.v x.n _ hx1 hx2 hx3 hx4) ?_; clear hE; clear a; rintro _ a w ⟨rfl, hS1⟩ hE; replace hS := hS.then hS1; clear hS1); all_goals (refine wl hE rfl ?_; refine qm hE ?_; clear hE a; intro a hE); all_goals (refine wl hE rfl ?_; refine qe hE ?_; clear hE a; intro a hE); all_goals (refine wl hE rfl ?_; refine qe hE ?_; clear hE a; intro a hE); all_goals (refine wl hE rfl ?_; refine qa hE ?_; clear hE a; intro a hE); all_goals (refine wl hE rfl ?_; refine qa hE ?_; clear hE a; intro a hE)) | (refine c_regI 6 ?_; all_goals (refine wl hE rfl ?_; refine qm hE ?_; clear hE a; intro a hE); all_goals (refine wl hE rfl ?_; refine is_call 79 rfl ?_; refine qc hE (write_s g0 ((l.take i.toNat).flatMap F5.bytes) (be x.n.toNat x.v) w0 _ _ hS.fit (by rw [be_len]; omega)) ?_; clear hE hS; clear a; rintro _ a w ⟨⟨_, _, rfl⟩, hS⟩ hE)) | (refine c_regI 7 ?_; all_goals (refine wl hE rfl ?_; refine qb hE ?_; clear hE a; intro a hE); all_goals (refine wl hE rfl ?_; refine qm hE ?_; clear hE a; intro a hE)) | refine c_seq ?_ | ((refine c_cond hE rfl ?_ ?_) <;> (intro hb; (first | replace hb := of_decide_eq_true hb | replace hb := of_decide_eq_false hb | (simp only [Bool.not_eq_true', Bool.not_eq_false', decide_eq_true_eq, decide_eq_false_iff_not] at hb) | skip); try (exfalso; first | omega | exact absurd trivial hb | exact absurd rfl hb | (simp only [beq_self_eq_true, bne_self_eq_false, reduceCtorEq] at hb; done)))))
    rw [hst] at hS
    exact ⟨_, by omega, i + 1, by omega, by omega, rfl, hE.cut ⟨rfl, rfl, rfl, rfl, trivial⟩, hS.fit⟩
  · have e : (l.take i.toNat).flatMap F5.bytes = l.flatMap F5.bytes := by rw [List.take_of_length_le (by omega)]
    rw [e] at hS
    have hle := f5_bytes_len hok
    repeat' (first | refine wl_nil ?_ | refine then_n ?_ | refine c_exit ?_ | refine c_ret ?_ | refine then_e ?_ | refine inb_e ?_ | (refine c_regI 3 ?_; all_goals (refine wl hE rfl ?_; refine qb hE ?_; clear hE a; intro a hE)) | (refine c_regI 8 ?_; all_goals (refine wl hE rfl ?_; refine is_call 80 rfl ?_; refine qc hE (string_s g0 (l.flatMap F5.bytes) w0 _ _ hS.fit hne (by omega)) ?_; clear hE hS; clear a; rintro _ a w ⟨rfl, hS⟩ hE); all_goals (refine wl hE rfl ?_; refine qa hE ?_; clear hE a; intro a hE)) | refine c_seq ?_ | ((refine c_cond hE rfl ?_ ?_) <;> (intro hb; (first | replace hb := of_decide_eq_true hb | replace hb := of_decide_eq_false hb | (simp only [Bool.not_eq_true', Bool.not_eq_false', decide_eq_true_eq, decide_eq_false_iff_not] at hb) | skip); try (exfalso; first | omega | exact absurd trivial hb | exact absurd rfl hb | (simp only [beq_self_eq_true, bne_self_eq_false, reduceCtorEq] at hb; done)))))
    exact p_ret hE rfl rfl ⟨_, rfl, rfl, hS.clean⟩
end Go.Proofs.Ytdaciolahgfhiaa
/- DERIVED. The reference's Group and Own of layer 2 (as in f10). No condition. -/
namespace Go.Proofs.Ytdaciolahgfhiaa
open Go.RowKit Go.Sx Go.Proofs.YtdaciolahgfhiaaTy
set_option linter.unusedVariables false
set_option linter.unusedSimpArgs false
set_option maxRecDepth 100000
attribute [local irreducible] Oper.wp Code.wp wpList wpAnyH Calls bodyPost Exit.then Exit.inBlock Code.rounds
set_option maxHeartbeats 1000000
theorem and_bit (k i : Nat) : k &&& 2 ^ i = (k.testBit i).toNat * 2 ^ i := by
  cases hb : k.testBit i with
  | false =>
    rw [Bool.toNat_false, Nat.zero_mul]
    refine Nat.eq_of_testBit_eq fun j => ?_
    rw [Nat.testBit_and, Nat.testBit_two_pow, Nat.zero_testBit]
    by_cases h : i = j
    · subst h; simp [hb]
    · simp [h]
  | true =>
    rw [Bool.toNat_true, Nat.one_mul]
    refine Nat.eq_of_testBit_eq fun j => ?_
    rw [Nat.testBit_and, Nat.testBit_two_pow]
    by_cases h : i = j
    · subst h; simp [hb]
    · simp [h]
theorem group_is {m : Int} (h0 : 0 ≤ m) (h1 : m < 18446744073709551616) : groupB m = decide (m / 1099511627776 % 2 = 1) := by
  obtain ⟨k, rfl⟩ := Int.eq_ofNat_of_zero_le h0
  have hk : k < 18446744073709551616 := by omega
  have e : (BitVec.ofInt 64 (k : Int) &&& BitVec.ofInt 64 1099511627776).toNat = (k.testBit 40).toNat * 2 ^ 40 := by
    have h2 : (BitVec.ofInt 64 1099511627776 : BitVec 64).toNat = 2 ^ 40 := by decide
    rw [BitVec.toNat_and, h2, BitVec.ofInt_natCast, BitVec.toNat_ofNat, Nat.mod_eq_of_lt hk, and_bit]
  have e2 : bAnd .u64 (k : Int) 1099511627776 = IntKind.u64.wrap (((k.testBit 40).toNat * 2 ^ 40 : Nat) : Int) := by
    unfold bAnd
    rw [← e]
    rfl
  have e5 : (2 : Nat) ^ 40 = 1099511627776 := by decide
  have e3 : k.testBit 40 = decide (k / 1099511627776 % 2 = 1) := by rw [Nat.testBit_eq_decide_div_mod_eq, e5]
  unfold groupB
  rw [e2, e5]
  cases hb : k.testBit 40 with
  | false =>
    rw [hb] at e3
    have h3 : ¬ k / 1099511627776 % 2 = 1 := of_decide_eq_false e3.symm
    have h4 : ¬ (k : Int) / 1099511627776 % 2 = 1 := by omega
    rw [decide_eq_false h4]
    decide
  | true =>
    rw [hb] at e3
    have h3 : k / 1099511627776 % 2 = 1 := of_decide_eq_true e3.symm
    have h4 : (k : Int) / 1099511627776 % 2 = 1 := by omega
    rw [decide_eq_true h4]
    decide
theorem rgroup_s (m : Int) (w0 : World) (h0 : 0 ≤ m) (h1 : m < 18446744073709551616) : Calls Try.prog 47 #[.int .u64 m] w0 fun e w' => ∃ r, e = .returned r ∧ r = .bool (groupB m) ∧ Sep w0 w' [] := by
  rw [group_is h0 h1]
  have e1 : IntKind.u64.wrap (m.tdiv 1099511627776) = m / 1099511627776 := by
    rw [Int.tdiv_eq_ediv_of_nonneg h0]
    exact wrap_u (by omega) (by omega)
  have e2 : (m / 1099511627776).tmod 2 = m / 1099511627776 % 2 := Int.tmod_eq_emod_of_nonneg (by omega)
  refine enter (args := [.int .u64 m]) 7 Try.func47 rfl rfl rfl ?_
  intro a hE hS
  repeat' (first | refine wl_nil ?_ | refine then_n ?_ | refine c_ret ?_ | (refine c_regI 0 ?_; all_goals (refine wl hE rfl ?_; refine qa hE ?_; clear hE a; intro a hE)) | (refine c_regI 1 ?_; all_goals (refine wl hE rfl ?_; refine qm hE ?_; clear hE a; intro a hE); all_goals (refine wl hE rfl ?_; refine qb2 hE ?_; clear hE a; intro a hE); all_goals (refine wl hE rfl ?_; refine qb2 hE ?_; clear hE a; intro a hE); all_goals (refine wl hE rfl ?_; refine qb hE ?_; clear hE a; intro a hE); all_goals (refine wl hE rfl ?_; refine qa hE ?_; clear hE a; intro a hE)) | refine c_seq ?_)
  refine p_ret hE rfl rfl ⟨_, rfl, ?_, hS⟩
  rw [e1, e2]
theorem rown_s (m : Int) (w0 : World) (h0 : 0 ≤ m) (h1 : m < 18446744073709551616) : Calls Try.prog 27 #[.int .u64 m] w0 fun e w' => ∃ r, e = .returned r ∧ r = .bool (ownB m) ∧ Sep w0 w' [] := by
  have hz : m ≠ 0 ↔ 0 < m := by omega
  refine enter (args := [.int .u64 m]) 14 Try.func27 rfl rfl rfl ?_
  intro a hE hS
  repeat' (first | refine wl_nil ?_ | refine then_n ?_ | refine c_ret ?_ | (refine c_regI 0 ?_; all_goals (refine wl hE rfl ?_; refine qa hE ?_; clear hE a; intro a hE)) | (refine c_regI 1 ?_; all_goals (refine wl hE rfl ?_; refine qm hE ?_; clear hE a; intro a hE); all_goals (refine wl hE rfl ?_; refine qb hE ?_; clear hE a; intro a hE); all_goals (refine wl hE rfl ?_; refine qm hE ?_; clear hE a; intro a hE); all_goals ((refine wl_splitg hE rfl rfl ?_ ?_) <;> (clear hE; intro hb hE; (first | replace hb := of_decide_eq_true hb | replace hb := of_decide_eq_false hb | (simp only [Bool.not_eq_true', Bool.not_eq_false', decide_eq_true_eq, decide_eq_false_iff_not] at hb) | skip); try (exfalso; first | omega | exact absurd trivial hb | exact absurd rfl hb | (simp only [beq_self_eq_true, bne_self_eq_false, reduceCtorEq] at hb; done))) <;> (first | (refine wl hE rfl ?_; refine qm hE ?_; clear hE a; intro a hE) | (refine wl_skip hE rfl rfl rfl ?_; clear hE a; intro a hE))); all_goals (first | (refine wl hE rfl ?_; refine qb hE ?_; clear hE a; intro a hE) | (refine wl_skip hE rfl rfl rfl ?_; clear hE a; intro a hE)); all_goals (refine wl hE rfl ?_; first | (refine qpt hE ?_; clear hE a; intro a hE) | (refine qpf hE ?_; clear hE a; intro a hE)); all_goals (refine wl hE rfl ?_; refine qm hE ?_; clear hE a; intro a hE); all_goals (first | (refine wl_skip hE rfl rfl rfl ?_; clear hE a; intro a hE) | ((refine wl_splitg hE rfl rfl ?_ ?_) <;> (clear hE; intro hb hE; (first | replace hb := of_decide_eq_true hb | replace hb := of_decide_eq_false hb | (simp only [Bool.not_eq_true', Bool.not_eq_false', decide_eq_true_eq, decide_eq_false_iff_not] at hb) | skip); try (exfalso; first | omega | exact absurd trivial hb | exact absurd rfl hb | (simp only [beq_self_eq_true, bne_self_eq_false, reduceCtorEq] at hb; done))) <;> (first | (refine wl hE rfl ?_; refine qm hE ?_; clear hE a; intro a hE) | (refine wl_skip hE rfl rfl rfl ?_; clear hE a; intro a hE)))); all_goals (first | (refine wl hE rfl ?_; refine is_call 47 rfl ?_; refine qc hE (rgroup_s m _ h0 h1) ?_; clear hE; clear a; rintro _ a w ⟨rfl, hS1⟩ hE; replace hS := hS.then hS1; clear hS1) | (refine wl_skip hE rfl rfl rfl ?_; clear hE a; intro a hE)); all_goals (first | (refine wl hE rfl ?_; refine qu hE ?_; clear hE a; intro a hE) | (refine wl_skip hE rfl rfl rfl ?_; clear hE a; intro a hE)); all_goals (refine wl hE rfl ?_; first | (refine qpt hE ?_; clear hE a; intro a hE) | (refine qpf hE ?_; clear hE a; intro a hE)); all_goals (refine wl hE rfl ?_; refine qa hE ?_; clear hE a; intro a hE)) | refine c_seq ?_)
  all_goals refine p_ret hE rfl rfl ⟨_, rfl, ?_, hS.clean⟩
  all_goals clear hE hS
  all_goals simp only [ownB, hz]
  all_goals simp [*]
end Go.Proofs.Ytdaciolahgfhiaa
/- DERIVED. Layer 5: messages, by the program and by the reference. No condition. -/
namespace Go.Proofs.Ytdaciolahgfhiaa
open Go.RowKit Go.Sx Go.Proofs.YtdaciolahgfhiaaTy
set_option linter.unusedVariables false
set_option linter.unusedSimpArgs false
set_option maxRecDepth 100000
attribute [local irreducible] Oper.wp Code.wp wpList wpAnyH Calls bodyPost Exit.then Exit.inBlock Code.rounds
set_option maxHeartbeats 1000000
/-- A message. -/
structure Ap where
  op : Int
  sm : Int
  si : Int
  tm : Int
  ti : Int
def Ap.cells (p : Ap) : List Value := [.int .i64 p.op, .int .u64 p.sm, .int .u32 p.si, .int .u64 p.tm, .int .u32 p.ti]
def Ap0 : Ap := ⟨0, 0, 0, 0, 0⟩
structure Ap.Rng (p : Ap) : Prop where
  sm : 0 ≤ p.sm ∧ p.sm < 18446744073709551616
  si : 0 ≤ p.si ∧ p.si < 4294967296
  tm : 0 ≤ p.tm ∧ p.tm < 18446744073709551616
  ti : 0 ≤ p.ti ∧ p.ti < 4294967296
/-- A frame. -/
structure Fr where
  d : Int
  s : Int
  h : Bool
  p : Int
  de : Bool
  v : Int
  t : Int
  b : ByteArray
def Fr.cells (f : Fr) : List Value := [.int .u64 f.d, .int .u64 f.s, .bool f.h, .int .i64 f.p, .bool f.de, .int .i64 f.v, .int .i64 f.t, .string f.b]
def Fr0 : Fr := ⟨0, 0, false, 0, false, 0, 0, ⟨#[]⟩⟩
theorem frlen (f : Fr) : f.cells.length = 8 := rfl
/-- A message's bytes. -/
def laidL (p : Ap) : List UInt8 := [0, 1, 8, 0, 6, 4] ++ (be 2 p.op ++ (be 6 (p.sm % 281474976710656) ++ (be 4 p.si ++ (be 6 (p.tm % 281474976710656) ++ (be 4 p.ti ++ [])))))
theorem be_mod : ∀ (k : Nat) (v : Int) (m : Nat), k ≤ m → be k (v % 256 ^ m) = be k v
  | 0, _, _, _ => rfl
  | k + 1, v, m, h => by
    have hk := be_mod k v m (by omega)
    obtain ⟨j, rfl⟩ : ∃ j, m = k + (j + 1) := ⟨m - k - 1, by omega⟩
    have hp : (0 : Int) < 256 ^ k := Int.pow_pos (by decide)
    have e : v % 256 ^ (k + (j + 1)) / 256 ^ k % 256 = v / 256 ^ k % 256 := by
      have h1 : v = v % 256 ^ (k + (j + 1)) + 256 ^ (k + (j + 1)) * (v / 256 ^ (k + (j + 1))) := (Int.emod_add_mul_ediv v _).symm
      obtain ⟨r, hr⟩ : ∃ r, v % 256 ^ (k + (j + 1)) = r := ⟨_, rfl⟩
      obtain ⟨q, hq⟩ : ∃ q, v / 256 ^ (k + (j + 1)) = q := ⟨_, rfl⟩
      rw [hr, hq] at h1
      rw [hr, h1, Int.pow_add, Int.pow_succ, show (256 : Int) ^ k * (256 ^ j * 256) * q = (256 ^ j * q * 256) * 256 ^ k by
        rw [Int.mul_assoc (256 ^ k), Int.mul_comm (256 ^ k)]
        congr 1
        rw [Int.mul_assoc, Int.mul_assoc, Int.mul_comm 256 q], Int.add_mul_ediv_right _ _ (by omega), Int.add_mul_emod_self_right]
    unfold be
    rw [hk]
    congr 1
    unfold byteV
    rw [e]
theorem laid_s (p : Ap) (w0 : World) (hop : 0 ≤ p.op ∧ p.op < 65536) (hp : p.Rng) : Calls Try.prog 39 #[.agg #[.int .i64 p.op, .int .u64 p.sm, .int .u32 p.si, .int .u64 p.tm, .int .u32 p.ti]] w0 fun e w' => ∃ r, e = .returned r ∧ r = .string ⟨(laidL p).toArray⟩ ∧ Sep w0 w' [] := by
  obtain ⟨hsm, hsi, htm, hti⟩ := hp
  have e1 : IntKind.u64.wrap p.op = p.op := wrap_u hop.1 (by omega)
  have e2 : IntKind.u64.wrap p.si = p.si := wrap_u hsi.1 (by omega)
  have e3 : IntKind.u64.wrap p.ti = p.ti := wrap_u hti.1 (by omega)
  have e4 : p.sm.tmod 281474976710656 = p.sm % 281474976710656 := Int.tmod_eq_emod_of_nonneg hsm.1
  have e5 : p.tm.tmod 281474976710656 = p.tm % 281474976710656 := Int.tmod_eq_emod_of_nonneg htm.1
  have hok : ∀ f ∈ ([⟨p.op, 2⟩, ⟨p.sm % 281474976710656, 6⟩, ⟨p.si, 4⟩, ⟨p.tm % 281474976710656, 6⟩, ⟨p.ti, 4⟩] : List F5), f.ok := by
    intro f hf
    have h6 := Int.emod_nonneg p.sm (show (281474976710656 : Int) ≠ 0 by decide)
    have h7 := Int.emod_lt_of_pos p.sm (show (0 : Int) < 281474976710656 by decide)
    have h8 := Int.emod_nonneg p.tm (show (281474976710656 : Int) ≠ 0 by decide)
    have h9 := Int.emod_lt_of_pos p.tm (show (0 : Int) < 281474976710656 by decide)
    simp only [List.mem_cons, List.not_mem_nil, or_false] at hf
    rcases hf with rfl | rfl | rfl | rfl | rfl
    · exact ⟨⟨(by decide : (1 : Int) ≤ 2), (by decide : (2 : Int) < 8)⟩, hop.1, hop.2⟩
    · exact ⟨⟨(by decide : (1 : Int) ≤ 6), (by decide : (6 : Int) < 8)⟩, h6, h7⟩
    · exact ⟨⟨(by decide : (1 : Int) ≤ 4), (by decide : (4 : Int) < 8)⟩, hsi.1, hsi.2⟩
    · exact ⟨⟨(by decide : (1 : Int) ≤ 6), (by decide : (6 : Int) < 8)⟩, h8, h9⟩
    · exact ⟨⟨(by decide : (1 : Int) ≤ 4), (by decide : (4 : Int) < 8)⟩, hti.1, hti.2⟩
  refine enter (args := [.agg #[.int .i64 p.op, .int .u64 p.sm, .int .u32 p.si, .int .u64 p.tm, .int .u32 p.ti]]) 26 Try.func39 rfl rfl rfl ?_
  intro a hE hS
  repeat' (first | refine wl_nil ?_ | refine then_n ?_ | refine c_ret ?_ | (refine c_regI 0 ?_; all_goals (refine wl hE rfl ?_; refine qbx hE hS ?_; clear hE hS; clear a; intro g a w hE hS); all_goals (refine wl hE rfl ?_; refine qa hE ?_; clear hE a; intro a hE)) | (refine c_regI 1 ?_; all_goals (refine wl hE rfl ?_; refine qf hE ?_; clear hE a; intro a hE); all_goals (refine wl hE rfl ?_; refine ql hE hS ?_; clear hE a; intro a hE); all_goals (refine wl hE rfl ?_; (refine qcv hE ?_; first | rw [e1] | rw [e2] | rw [e3]); clear hE a; intro a hE); all_goals (refine wl hE rfl ?_; refine qbu hE ?_; clear hE a; intro a hE); all_goals (refine wl hE rfl ?_; refine qf hE ?_; clear hE a; intro a hE); all_goals (refine wl hE rfl ?_; refine ql hE hS ?_; clear hE a; intro a hE); all_goals (refine wl hE rfl ?_; (refine qb2 hE ?_ (hb := bin_rem (by decide)); first | rw [e4] | rw [e5]); clear hE a; intro a hE); all_goals (refine wl hE rfl ?_; refine qbu hE ?_; clear hE a; intro a hE); all_goals (refine wl hE rfl ?_; refine qf hE ?_; clear hE a; intro a hE); all_goals (refine wl hE rfl ?_; refine ql hE hS ?_; clear hE a; intro a hE); all_goals (refine wl hE rfl ?_; (refine qcv hE ?_; first | rw [e1] | rw [e2] | rw [e3]); clear hE a; intro a hE); all_goals (refine wl hE rfl ?_; refine qbu hE ?_; clear hE a; intro a hE); all_goals (refine wl hE rfl ?_; refine qf hE ?_; clear hE a; intro a hE); all_goals (refine wl hE rfl ?_; refine ql hE hS ?_; clear hE a; intro a hE); all_goals (refine wl hE rfl ?_; (refine qb2 hE ?_ (hb := bin_rem (by decide)); first | rw [e4] | rw [e5]); clear hE a; intro a hE); all_goals (refine wl hE rfl ?_; refine qbu hE ?_; clear hE a; intro a hE); all_goals (refine wl hE rfl ?_; refine qf hE ?_; clear hE a; intro a hE); all_goals (refine wl hE rfl ?_; refine ql hE hS ?_; clear hE a; intro a hE); all_goals (refine wl hE rfl ?_; (refine qcv hE ?_; first | rw [e1] | rw [e2] | rw [e3]); clear hE a; intro a hE); all_goals (refine wl hE rfl ?_; refine qbu hE ?_; clear hE a; intro a hE); all_goals (refine wl hE rfl ?_; refine qbs hE hS ?_; clear hE hS; clear a; intro g a w hE hS); all_goals (refine wl hE rfl ?_; refine is_call 60 rfl ?_; refine qc hE (joined_s _ 5 [⟨p.op, 2⟩, ⟨p.sm % 281474976710656, 6⟩, ⟨p.si, 4⟩, ⟨p.tm % 281474976710656, 6⟩, ⟨p.ti, 4⟩] _ (Rd.row (n := 5) (c := 5) hS) hok (by simp [F5.bytes, be]) (by show 5 ≤ 1000; decide)) ?_; clear hE; clear a; rintro _ a w ⟨rfl, hS1⟩ hE; replace hS := hS.then hS1; clear hS1); all_goals (refine wl hE rfl ?_; refine qcat (l := [0, 1, 8, 0, 6, 4]) (m := ([⟨p.op, 2⟩, ⟨p.sm % 281474976710656, 6⟩, ⟨p.si, 4⟩, ⟨p.tm % 281474976710656, 6⟩, ⟨p.ti, 4⟩] : List F5).flatMap F5.bytes) hE ?_ (by simp [F5.bytes, be_len]); clear hE a; intro a hE); all_goals (refine wl hE rfl ?_; refine qa hE ?_; clear hE a; intro a hE)) | refine c_seq ?_)
  exact p_ret hE rfl rfl ⟨_, rfl, rfl, hS.clean⟩
def askF (mac ip want : Int) : Fr := ⟨281474976710655, mac, false, 0, false, 0, 2054, ⟨(laidL ⟨1, mac, ip, 0, want⟩).toArray⟩⟩
def tellF (p : Ap) (mac : Int) : Fr := ⟨p.sm, mac, false, 0, false, 0, 2054, ⟨(laidL ⟨2, mac, p.ti, p.sm, p.si⟩).toArray⟩⟩
def checkA (p : Ap) : Bool := decide (p.op = 1 ∨ p.op = 2) && (ownB p.sm && decide (p.tm < 281474976710656))
theorem ask_s (mac ip want : Int) (w0 : World) (hm : 0 ≤ mac ∧ mac < 18446744073709551616) (hi : 0 ≤ ip ∧ ip < 4294967296) (hw : 0 ≤ want ∧ want < 4294967296) : Calls Try.prog 17 #[.int .u64 mac, .int .u32 ip, .int .u32 want] w0 fun e w' => ∃ r, e = .returned r ∧ r = .agg (askF mac ip want).cells.toArray ∧ Sep w0 w' [] := by
  refine enter (args := [.int .u64 mac, .int .u32 ip, .int .u32 want]) 16 Try.func17 rfl rfl rfl ?_
  intro a hE hS
  repeat' (first | refine wl_nil ?_ | refine then_n ?_ | refine c_ret ?_ | (refine c_regI 0 ?_; all_goals (refine wl hE rfl ?_; refine qal hE hS ?_; clear hE hS; clear a; intro g a w hE hS)) | (refine c_regI 1 ?_; all_goals (refine wl hE rfl ?_; refine qm hE ?_; clear hE a; intro a hE); all_goals (refine wl hE rfl ?_; refine qm hE ?_; clear hE a; intro a hE); all_goals (refine wl hE rfl ?_; refine qm hE ?_; clear hE a; intro a hE); all_goals (refine wl hE rfl ?_; refine qbu hE ?_; clear hE a; intro a hE); all_goals (refine wl hE rfl ?_; refine qal hE hS ?_; clear hE hS; clear a; intro g a w hE hS); all_goals (refine wl hE rfl ?_; refine qst0 hE hS ?_; clear hS; intro w hS)) | (refine c_regI 2 ?_; all_goals (refine wl hE rfl ?_; refine qm hE ?_; clear hE a; intro a hE); all_goals (refine wl hE rfl ?_; refine qL hE hS ?_; clear hE a; intro a hE); all_goals (refine wl hE rfl ?_; refine is_call 39 rfl ?_; refine qc hE (laid_s ⟨1, mac, ip, 0, want⟩ _ ⟨(by decide : (0 : Int) ≤ 1), (by decide : (1 : Int) < 65536)⟩ ⟨hm, hi, ⟨(by decide : (0 : Int) ≤ 0), (by decide : (0 : Int) < 18446744073709551616)⟩, hw⟩) ?_; clear hE; clear a; rintro _ a w ⟨rfl, hS1⟩ hE; replace hS := hS.then hS1; clear hS1); all_goals (refine wl hE rfl ?_; refine qbu hE ?_; clear hE a; intro a hE); all_goals (refine wl hE rfl ?_; refine qst0 hE hS ?_; clear hS; intro w hS)) | refine c_seq ?_)
  exact p_ret1 hE rfl (rc hE hS .nil) ⟨_, rfl, rfl, hS.clean⟩
theorem check_s (p : Ap) (w0 : World) : Calls Try.prog 34 #[.agg #[.int .i64 p.op, .int .u64 p.sm, .int .u32 p.si, .int .u64 p.tm, .int .u32 p.ti]] w0 fun e w' => ∃ r, e = .returned r ∧ r = .int .i64 (if checkA p = true then 0 else 51) ∧ Sep w0 w' [] := by
  refine enter (args := [.agg #[.int .i64 p.op, .int .u64 p.sm, .int .u32 p.si, .int .u64 p.tm, .int .u32 p.ti]]) 22 Try.func34 rfl rfl rfl ?_
  intro a hE hS
  obtain ⟨b, hb0⟩ : ∃ b, ownB p.sm = b := ⟨_, rfl⟩
  unfold checkA
  rw [hb0]
  by_cases h1 : p.op = 1 ∨ p.op = 2
  · by_cases h2 : p.tm < 281474976710656
    · cases b
      all_goals repeat' (first | refine wl_nil ?_ | refine then_n ?_ | refine c_skip ?_ | refine c_ret ?_ | refine then_r ?_ | refine c_cond_t hE rfl ?_ | (refine c_regI 0 ?_; all_goals (refine wl hE rfl ?_; refine qbx hE hS ?_; clear hE hS; clear a; intro g a w hE hS); all_goals (refine wl hE rfl ?_; refine qa hE ?_; clear hE a; intro a hE)) | (refine c_regI 1 ?_; all_goals (refine wl hE rfl ?_; refine qf hE ?_; clear hE a; intro a hE); all_goals (refine wl hE rfl ?_; refine ql hE hS ?_; clear hE a; intro a hE); all_goals (refine wl hE rfl ?_; refine qb hE ?_; clear hE a; intro a hE); all_goals (refine wl hE rfl ?_; refine qm hE ?_; clear hE a; intro a hE); all_goals ((refine wl_splitg hE rfl rfl ?_ ?_) <;> (clear hE; intro hb hE; (first | replace hb := of_decide_eq_true hb | replace hb := of_decide_eq_false hb | (simp only [Bool.not_eq_true', Bool.not_eq_false', decide_eq_true_eq, decide_eq_false_iff_not] at hb) | skip); try (exfalso; first | omega | exact absurd trivial hb | exact absurd rfl hb | (simp only [beq_self_eq_true, bne_self_eq_false, reduceCtorEq] at hb; done))) <;> (first | (refine wl hE rfl ?_; refine qf hE ?_; clear hE a; intro a hE) | (refine wl_skip hE rfl rfl rfl ?_; clear hE a; intro a hE))); all_goals (first | (refine wl hE rfl ?_; refine ql hE hS ?_; clear hE a; intro a hE) | (refine wl_skip hE rfl rfl rfl ?_; clear hE a; intro a hE)); all_goals (first | (refine wl hE rfl ?_; refine qb hE ?_; clear hE a; intro a hE) | (refine wl_skip hE rfl rfl rfl ?_; clear hE a; intro a hE)); all_goals (refine wl hE rfl ?_; first | (refine qpt hE ?_; clear hE a; intro a hE) | (refine qpf hE ?_; clear hE a; intro a hE)); all_goals (refine wl hE rfl ?_; refine qm hE ?_; clear hE a; intro a hE); all_goals (first | (refine wl hE rfl ?_; refine qf hE ?_; clear hE a; intro a hE) | ((refine wl_splitg hE rfl rfl ?_ ?_) <;> (clear hE; intro hb hE; (first | replace hb := of_decide_eq_true hb | replace hb := of_decide_eq_false hb | (simp only [Bool.not_eq_true', Bool.not_eq_false', decide_eq_true_eq, decide_eq_false_iff_not] at hb) | skip); try (exfalso; first | omega | exact absurd trivial hb | exact absurd rfl hb | (simp only [beq_self_eq_true, bne_self_eq_false, reduceCtorEq] at hb; done))) <;> (refine wl hE rfl ?_; refine qf hE ?_; clear hE a; intro a hE))); all_goals (refine wl hE rfl ?_; refine ql hE hS ?_; clear hE a; intro a hE); all_goals (refine wl hE rfl ?_; refine is_call 25 rfl ?_; refine qc hE (own_s p.sm _) ?_; rw [hb0]; clear hE; clear a; rintro _ a w ⟨rfl, hS1⟩ hE; replace hS := hS.then hS1; clear hS1); all_goals (refine wl hE rfl ?_; refine qu hE ?_; clear hE a; intro a hE); all_goals (refine wl hE rfl ?_; refine qpf hE ?_; clear hE a; intro a hE); all_goals (refine wl hE rfl ?_; refine qm hE ?_; clear hE a; intro a hE); all_goals (first | (refine wl hE rfl ?_; refine qf hE ?_; clear hE a; intro a hE) | (refine wl_skip hE rfl rfl rfl ?_; clear hE a; intro a hE)); all_goals (first | (refine wl hE rfl ?_; refine ql hE hS ?_; clear hE a; intro a hE) | (refine wl_skip hE rfl rfl rfl ?_; clear hE a; intro a hE)); all_goals (first | (refine wl hE rfl ?_; refine qb hE ?_; clear hE a; intro a hE) | (refine wl_skip hE rfl rfl rfl ?_; clear hE a; intro a hE)); all_goals (refine wl hE rfl ?_; first | (refine qpt hE ?_; clear hE a; intro a hE) | (refine qpf hE ?_; clear hE a; intro a hE))) | (refine c_regI 2 ?_; all_goals (refine wl hE rfl ?_; refine qa hE ?_; clear hE a; intro a hE)) | (refine c_regI 3 ?_; all_goals (refine wl hE rfl ?_; refine qa hE ?_; clear hE a; intro a hE)) | refine c_seq ?_ | ((refine c_cond hE rfl ?_ ?_) <;> (intro hb; (first | replace hb := of_decide_eq_true hb | replace hb := of_decide_eq_false hb | (simp only [Bool.not_eq_true', Bool.not_eq_false', decide_eq_true_eq, decide_eq_false_iff_not] at hb) | skip); try (exfalso; first | omega | exact absurd trivial hb | exact absurd rfl hb | (simp only [beq_self_eq_true, bne_self_eq_false, reduceCtorEq] at hb; done)))))
      all_goals refine p_ret hE rfl rfl ⟨_, rfl, ?_, hS.clean⟩
      all_goals simp [h1, h2]
    · cases b
      all_goals repeat' (first | refine wl_nil ?_ | refine then_n ?_ | refine c_ret ?_ | refine then_r ?_ | refine c_cond_t hE rfl ?_ | (refine c_regI 0 ?_; all_goals (refine wl hE rfl ?_; refine qbx hE hS ?_; clear hE hS; clear a; intro g a w hE hS); all_goals (refine wl hE rfl ?_; refine qa hE ?_; clear hE a; intro a hE)) | (refine c_regI 1 ?_; all_goals (refine wl hE rfl ?_; refine qf hE ?_; clear hE a; intro a hE); all_goals (refine wl hE rfl ?_; refine ql hE hS ?_; clear hE a; intro a hE); all_goals (refine wl hE rfl ?_; refine qb hE ?_; clear hE a; intro a hE); all_goals (refine wl hE rfl ?_; refine qm hE ?_; clear hE a; intro a hE); all_goals ((refine wl_splitg hE rfl rfl ?_ ?_) <;> (clear hE; intro hb hE; (first | replace hb := of_decide_eq_true hb | replace hb := of_decide_eq_false hb | (simp only [Bool.not_eq_true', Bool.not_eq_false', decide_eq_true_eq, decide_eq_false_iff_not] at hb) | skip); try (exfalso; first | omega | exact absurd trivial hb | exact absurd rfl hb | (simp only [beq_self_eq_true, bne_self_eq_false, reduceCtorEq] at hb; done))) <;> (first | (refine wl hE rfl ?_; refine qf hE ?_; clear hE a; intro a hE) | (refine wl_skip hE rfl rfl rfl ?_; clear hE a; intro a hE))); all_goals (first | (refine wl hE rfl ?_; refine ql hE hS ?_; clear hE a; intro a hE) | (refine wl_skip hE rfl rfl rfl ?_; clear hE a; intro a hE)); all_goals (first | (refine wl hE rfl ?_; refine qb hE ?_; clear hE a; intro a hE) | (refine wl_skip hE rfl rfl rfl ?_; clear hE a; intro a hE)); all_goals (refine wl hE rfl ?_; first | (refine qpt hE ?_; clear hE a; intro a hE) | (refine qpf hE ?_; clear hE a; intro a hE)); all_goals (refine wl hE rfl ?_; refine qm hE ?_; clear hE a; intro a hE); all_goals (first | (refine wl hE rfl ?_; refine qf hE ?_; clear hE a; intro a hE) | ((refine wl_splitg hE rfl rfl ?_ ?_) <;> (clear hE; intro hb hE; (first | replace hb := of_decide_eq_true hb | replace hb := of_decide_eq_false hb | (simp only [Bool.not_eq_true', Bool.not_eq_false', decide_eq_true_eq, decide_eq_false_iff_not] at hb) | skip); try (exfalso; first | omega | exact absurd trivial hb | exact absurd rfl hb | (simp only [beq_self_eq_true, bne_self_eq_false, reduceCtorEq] at hb; done))) <;> (refine wl hE rfl ?_; refine qf hE ?_; clear hE a; intro a hE))); all_goals (refine wl hE rfl ?_; refine ql hE hS ?_; clear hE a; intro a hE); all_goals (refine wl hE rfl ?_; refine is_call 25 rfl ?_; refine qc hE (own_s p.sm _) ?_; rw [hb0]; clear hE; clear a; rintro _ a w ⟨rfl, hS1⟩ hE; replace hS := hS.then hS1; clear hS1); all_goals (refine wl hE rfl ?_; refine qu hE ?_; clear hE a; intro a hE); all_goals (refine wl hE rfl ?_; refine qpf hE ?_; clear hE a; intro a hE); all_goals (refine wl hE rfl ?_; refine qm hE ?_; clear hE a; intro a hE); all_goals (first | (refine wl hE rfl ?_; refine qf hE ?_; clear hE a; intro a hE) | (refine wl_skip hE rfl rfl rfl ?_; clear hE a; intro a hE)); all_goals (first | (refine wl hE rfl ?_; refine ql hE hS ?_; clear hE a; intro a hE) | (refine wl_skip hE rfl rfl rfl ?_; clear hE a; intro a hE)); all_goals (first | (refine wl hE rfl ?_; refine qb hE ?_; clear hE a; intro a hE) | (refine wl_skip hE rfl rfl rfl ?_; clear hE a; intro a hE)); all_goals (refine wl hE rfl ?_; first | (refine qpt hE ?_; clear hE a; intro a hE) | (refine qpf hE ?_; clear hE a; intro a hE))) | (refine c_regI 2 ?_; all_goals (refine wl hE rfl ?_; refine qa hE ?_; clear hE a; intro a hE)) | refine c_seq ?_ | ((refine c_cond hE rfl ?_ ?_) <;> (intro hb; (first | replace hb := of_decide_eq_true hb | replace hb := of_decide_eq_false hb | (simp only [Bool.not_eq_true', Bool.not_eq_false', decide_eq_true_eq, decide_eq_false_iff_not] at hb) | skip); try (exfalso; first | omega | exact absurd trivial hb | exact absurd rfl hb | (simp only [beq_self_eq_true, bne_self_eq_false, reduceCtorEq] at hb; done)))))
      all_goals refine p_ret hE rfl rfl ⟨_, rfl, ?_, hS.clean⟩
      all_goals simp [h2]
  · repeat' (first | refine wl_nil ?_ | refine then_n ?_ | refine c_ret ?_ | refine then_r ?_ | refine c_cond_t hE rfl ?_ | (refine c_regI 0 ?_; all_goals (refine wl hE rfl ?_; refine qbx hE hS ?_; clear hE hS; clear a; intro g a w hE hS); all_goals (refine wl hE rfl ?_; refine qa hE ?_; clear hE a; intro a hE)) | (refine c_regI 1 ?_; all_goals (refine wl hE rfl ?_; refine qf hE ?_; clear hE a; intro a hE); all_goals (refine wl hE rfl ?_; refine ql hE hS ?_; clear hE a; intro a hE); all_goals (refine wl hE rfl ?_; refine qb hE ?_; clear hE a; intro a hE); all_goals (refine wl hE rfl ?_; refine qm hE ?_; clear hE a; intro a hE); all_goals ((refine wl_splitg hE rfl rfl ?_ ?_) <;> (clear hE; intro hb hE; (first | replace hb := of_decide_eq_true hb | replace hb := of_decide_eq_false hb | (simp only [Bool.not_eq_true', Bool.not_eq_false', decide_eq_true_eq, decide_eq_false_iff_not] at hb) | skip); try (exfalso; first | omega | exact absurd trivial hb | exact absurd rfl hb | (simp only [beq_self_eq_true, bne_self_eq_false, reduceCtorEq] at hb; done))) <;> (refine wl hE rfl ?_; refine qf hE ?_; clear hE a; intro a hE)); all_goals (refine wl hE rfl ?_; refine ql hE hS ?_; clear hE a; intro a hE); all_goals (refine wl hE rfl ?_; refine qb hE ?_; clear hE a; intro a hE); all_goals (refine wl hE rfl ?_; refine qpt hE ?_; clear hE a; intro a hE); all_goals (refine wl hE rfl ?_; refine qm hE ?_; clear hE a; intro a hE); all_goals ((refine wl_splitg hE rfl rfl ?_ ?_) <;> (clear hE; intro hb hE; (first | replace hb := of_decide_eq_true hb | replace hb := of_decide_eq_false hb | (simp only [Bool.not_eq_true', Bool.not_eq_false', decide_eq_true_eq, decide_eq_false_iff_not] at hb) | skip); try (exfalso; first | omega | exact absurd trivial hb | exact absurd rfl hb | (simp only [beq_self_eq_true, bne_self_eq_false, reduceCtorEq] at hb; done))) <;> (refine wl_skip hE rfl rfl rfl ?_; clear hE a; intro a hE)); all_goals (refine wl_skip hE rfl rfl rfl ?_; clear hE a; intro a hE); all_goals (refine wl_skip hE rfl rfl rfl ?_; clear hE a; intro a hE); all_goals (refine wl_skip hE rfl rfl rfl ?_; clear hE a; intro a hE); all_goals (refine wl hE rfl ?_; refine qpt hE ?_; clear hE a; intro a hE); all_goals (refine wl hE rfl ?_; refine qm hE ?_; clear hE a; intro a hE); all_goals (refine wl_skip hE rfl rfl rfl ?_; clear hE a; intro a hE); all_goals (refine wl_skip hE rfl rfl rfl ?_; clear hE a; intro a hE); all_goals (refine wl_skip hE rfl rfl rfl ?_; clear hE a; intro a hE); all_goals (refine wl hE rfl ?_; refine qpt hE ?_; clear hE a; intro a hE)) | (refine c_regI 2 ?_; all_goals (refine wl hE rfl ?_; refine qa hE ?_; clear hE a; intro a hE)) | refine c_seq ?_)
    all_goals refine p_ret hE rfl rfl ⟨_, rfl, ?_, hS.clean⟩
    all_goals simp [h1]
def tellR (p : Ap) (mac : Int) : Fr × Int := if p.op = 1 ∧ checkA p = true ∧ ownB mac = true then (tellF p mac, 0) else (Fr0, 51)
theorem tell_s (p : Ap) (mac : Int) (w0 : World) (hp : p.Rng) (hm : 0 ≤ mac ∧ mac < 18446744073709551616) : Calls Try.prog 37 #[.agg #[.int .i64 p.op, .int .u64 p.sm, .int .u32 p.si, .int .u64 p.tm, .int .u32 p.ti], .int .u64 mac] w0 fun e w' => ∃ r, e = .returned r ∧ r = .tuple #[.agg (tellR p mac).1.cells.toArray, .int .i64 (tellR p mac).2] ∧ Sep w0 w' [] := by
  obtain ⟨b, hb0⟩ : ∃ b, checkA p = b := ⟨_, rfl⟩
  obtain ⟨o, ho0⟩ : ∃ o, ownB mac = o := ⟨_, rfl⟩
  have hch := fun w => check_s p w
  rw [hb0] at hch
  unfold tellR
  rw [hb0, ho0]
  refine enter (args := [.agg #[.int .i64 p.op, .int .u64 p.sm, .int .u32 p.si, .int .u64 p.tm, .int .u32 p.ti], .int .u64 mac]) 35 Try.func37 rfl rfl rfl ?_
  intro a hE hS
  by_cases h1 : p.op = 1
  · cases b
    · repeat' (first | refine wl_nil ?_ | refine then_n ?_ | refine c_ret ?_ | refine then_r ?_ | refine c_cond_t hE rfl ?_ | (refine c_regI 0 ?_; all_goals (refine wl hE rfl ?_; refine qbx hE hS ?_; clear hE hS; clear a; intro g a w hE hS); all_goals (refine wl hE rfl ?_; refine qal hE hS ?_; clear hE hS; clear a; intro g a w hE hS); all_goals (refine wl hE rfl ?_; refine qa hE ?_; clear hE a; intro a hE)) | (refine c_regI 1 ?_; all_goals (refine wl hE rfl ?_; refine qf hE ?_; clear hE a; intro a hE); all_goals (refine wl hE rfl ?_; refine ql hE hS ?_; clear hE a; intro a hE); all_goals (refine wl hE rfl ?_; refine qb hE ?_; clear hE a; intro a hE); all_goals (refine wl hE rfl ?_; refine qm hE ?_; clear hE a; intro a hE); all_goals ((refine wl_splitg hE rfl rfl ?_ ?_) <;> (clear hE; intro hb hE; (first | replace hb := of_decide_eq_true hb | replace hb := of_decide_eq_false hb | (simp only [Bool.not_eq_true', Bool.not_eq_false', decide_eq_true_eq, decide_eq_false_iff_not] at hb) | skip); try (exfalso; first | omega | exact absurd trivial hb | exact absurd rfl hb | (simp only [beq_self_eq_true, bne_self_eq_false, reduceCtorEq] at hb; done))) <;> (refine wl hE rfl ?_; refine qL hE hS ?_; clear hE a; intro a hE)); all_goals (refine wl hE rfl ?_; refine qc hE (hch _) ?_; clear hE; clear a; rintro _ a w ⟨rfl, hS1⟩ hE; replace hS := hS.then hS1; clear hS1); all_goals (refine wl hE rfl ?_; refine qb hE ?_; clear hE a; intro a hE); all_goals (refine wl hE rfl ?_; refine qpf hE ?_; clear hE a; intro a hE); all_goals (refine wl hE rfl ?_; refine qm hE ?_; clear hE a; intro a hE); all_goals (refine wl_skip hE rfl rfl rfl ?_; clear hE a; intro a hE); all_goals (refine wl_skip hE rfl rfl rfl ?_; clear hE a; intro a hE); all_goals (refine wl_skip hE rfl rfl rfl ?_; clear hE a; intro a hE); all_goals (refine wl hE rfl ?_; refine qpt hE ?_; clear hE a; intro a hE)) | (refine c_regI 2 ?_; all_goals (refine wl hE rfl ?_; refine qbu hE ?_; clear hE a; intro a hE); all_goals (refine wl hE rfl ?_; refine qst0 hE hS ?_; clear hS; intro w hS); all_goals (refine wl hE rfl ?_; refine qa hE ?_; clear hE a; intro a hE)) | refine c_seq ?_)
      exact p_rets hE rfl (rc hE hS (rt hE .nil)) rfl ⟨_, rfl, by rw [if_neg (fun h => by cases h.2.1)]; rfl, hS.clean⟩
    · cases o
      · repeat' (first | refine wl_nil ?_ | refine then_n ?_ | refine c_ret ?_ | refine then_r ?_ | refine c_cond_t hE rfl ?_ | (refine c_regI 0 ?_; all_goals (refine wl hE rfl ?_; refine qbx hE hS ?_; clear hE hS; clear a; intro g a w hE hS); all_goals (refine wl hE rfl ?_; refine qal hE hS ?_; clear hE hS; clear a; intro g a w hE hS); all_goals (refine wl hE rfl ?_; refine qa hE ?_; clear hE a; intro a hE)) | (refine c_regI 1 ?_; all_goals (refine wl hE rfl ?_; refine qf hE ?_; clear hE a; intro a hE); all_goals (refine wl hE rfl ?_; refine ql hE hS ?_; clear hE a; intro a hE); all_goals (refine wl hE rfl ?_; refine qb hE ?_; clear hE a; intro a hE); all_goals (refine wl hE rfl ?_; refine qm hE ?_; clear hE a; intro a hE); all_goals ((refine wl_splitg hE rfl rfl ?_ ?_) <;> (clear hE; intro hb hE; (first | replace hb := of_decide_eq_true hb | replace hb := of_decide_eq_false hb | (simp only [Bool.not_eq_true', Bool.not_eq_false', decide_eq_true_eq, decide_eq_false_iff_not] at hb) | skip); try (exfalso; first | omega | exact absurd trivial hb | exact absurd rfl hb | (simp only [beq_self_eq_true, bne_self_eq_false, reduceCtorEq] at hb; done))) <;> (refine wl hE rfl ?_; refine qL hE hS ?_; clear hE a; intro a hE)); all_goals (refine wl hE rfl ?_; refine qc hE (hch _) ?_; clear hE; clear a; rintro _ a w ⟨rfl, hS1⟩ hE; replace hS := hS.then hS1; clear hS1); all_goals (refine wl hE rfl ?_; refine qb hE ?_; clear hE a; intro a hE); all_goals (refine wl hE rfl ?_; refine qpf hE ?_; clear hE a; intro a hE); all_goals (refine wl hE rfl ?_; refine qm hE ?_; clear hE a; intro a hE); all_goals (refine wl hE rfl ?_; refine qm hE ?_; clear hE a; intro a hE); all_goals (refine wl hE rfl ?_; refine is_call 25 rfl ?_; refine qc hE (own_s mac _) ?_; rw [ho0]; clear hE; clear a; rintro _ a w ⟨rfl, hS1⟩ hE; replace hS := hS.then hS1; clear hS1); all_goals (refine wl hE rfl ?_; refine qu hE ?_; clear hE a; intro a hE); all_goals (refine wl hE rfl ?_; refine qpf hE ?_; clear hE a; intro a hE)) | (refine c_regI 2 ?_; all_goals (refine wl hE rfl ?_; refine qbu hE ?_; clear hE a; intro a hE); all_goals (refine wl hE rfl ?_; refine qst0 hE hS ?_; clear hS; intro w hS); all_goals (refine wl hE rfl ?_; refine qa hE ?_; clear hE a; intro a hE)) | refine c_seq ?_)
        exact p_rets hE rfl (rc hE hS (rt hE .nil)) rfl ⟨_, rfl, by rw [if_neg (fun h => by cases h.2.2)]; rfl, hS.clean⟩
      · repeat' (first | refine wl_nil ?_ | refine then_n ?_ | refine c_skip ?_ | refine c_ret ?_ | refine c_cond_f hE rfl ?_ | (refine c_regI 0 ?_; all_goals (refine wl hE rfl ?_; refine qbx hE hS ?_; clear hE hS; clear a; intro g a w hE hS); all_goals (refine wl hE rfl ?_; refine qal hE hS ?_; clear hE hS; clear a; intro g a w hE hS); all_goals (refine wl hE rfl ?_; refine qa hE ?_; clear hE a; intro a hE)) | (refine c_regI 1 ?_; all_goals (refine wl hE rfl ?_; refine qf hE ?_; clear hE a; intro a hE); all_goals (refine wl hE rfl ?_; refine ql hE hS ?_; clear hE a; intro a hE); all_goals (refine wl hE rfl ?_; refine qb hE ?_; clear hE a; intro a hE); all_goals (refine wl hE rfl ?_; refine qm hE ?_; clear hE a; intro a hE); all_goals ((refine wl_splitg hE rfl rfl ?_ ?_) <;> (clear hE; intro hb hE; (first | replace hb := of_decide_eq_true hb | replace hb := of_decide_eq_false hb | (simp only [Bool.not_eq_true', Bool.not_eq_false', decide_eq_true_eq, decide_eq_false_iff_not] at hb) | skip); try (exfalso; first | omega | exact absurd trivial hb | exact absurd rfl hb | (simp only [beq_self_eq_true, bne_self_eq_false, reduceCtorEq] at hb; done))) <;> (refine wl hE rfl ?_; refine qL hE hS ?_; clear hE a; intro a hE)); all_goals (refine wl hE rfl ?_; refine qc hE (hch _) ?_; clear hE; clear a; rintro _ a w ⟨rfl, hS1⟩ hE; replace hS := hS.then hS1; clear hS1); all_goals (refine wl hE rfl ?_; refine qb hE ?_; clear hE a; intro a hE); all_goals (refine wl hE rfl ?_; refine qpf hE ?_; clear hE a; intro a hE); all_goals (refine wl hE rfl ?_; refine qm hE ?_; clear hE a; intro a hE); all_goals (refine wl hE rfl ?_; refine qm hE ?_; clear hE a; intro a hE); all_goals (refine wl hE rfl ?_; refine is_call 25 rfl ?_; refine qc hE (own_s mac _) ?_; rw [ho0]; clear hE; clear a; rintro _ a w ⟨rfl, hS1⟩ hE; replace hS := hS.then hS1; clear hS1); all_goals (refine wl hE rfl ?_; refine qu hE ?_; clear hE a; intro a hE); all_goals (refine wl hE rfl ?_; refine qpf hE ?_; clear hE a; intro a hE)) | (refine c_regI 3 ?_; all_goals (refine wl hE rfl ?_; refine qm hE ?_; clear hE a; intro a hE); all_goals (refine wl hE rfl ?_; refine qf hE ?_; clear hE a; intro a hE); all_goals (refine wl hE rfl ?_; refine ql hE hS ?_; clear hE a; intro a hE); all_goals (refine wl hE rfl ?_; refine qf hE ?_; clear hE a; intro a hE); all_goals (refine wl hE rfl ?_; refine ql hE hS ?_; clear hE a; intro a hE); all_goals (refine wl hE rfl ?_; refine qf hE ?_; clear hE a; intro a hE); all_goals (refine wl hE rfl ?_; refine ql hE hS ?_; clear hE a; intro a hE); all_goals (refine wl hE rfl ?_; refine qbu hE ?_; clear hE a; intro a hE); all_goals (refine wl hE rfl ?_; refine qal hE hS ?_; clear hE hS; clear a; intro g a w hE hS); all_goals (refine wl hE rfl ?_; refine qst0 hE hS ?_; clear hS; intro w hS)) | refine c_seq ?_ | (refine rg_guard 4 ?_; refine rg_start [2, 6] hE hS ?_; clear hS; (try clear w); intro w hS hX; all_goals (refine rg_y 0 hE hX (by exact y_field) ?_ rfl rfl rfl rfl; clear hE a; intro a hE); all_goals (refine rg_y 1 hE hX (by exact y_load) ?_ rfl rfl rfl rfl; clear hE a; intro a hE); all_goals (refine rg_y 2 hE hX (by exact y_move) ?_ rfl rfl rfl rfl; clear hE a; intro a hE); all_goals (refine rg_y 3 hE hX (by exact y_loadA) ?_ rfl rfl rfl rfl; clear hE a; intro a hE); all_goals (refine rg_e 4 hE rfl rfl (by kernel_rfl) ?_; intro K hK; (refine is_call 39 rfl ?_; refine qc hE (laid_s ⟨2, mac, p.ti, p.sm, p.si⟩ _ ⟨(by decide : (0 : Int) ≤ 2), (by decide : (2 : Int) < 65536)⟩ ⟨hm, hp.ti, hp.sm, hp.si⟩) ?_; clear hE; clear a; rintro _ a w ⟨rfl, hS1⟩ hE; replace hS := hS.then hS1; clear hS1); refine rg_k hK hS ?_; clear hK hX; clear K; intro hX); all_goals (refine rg_y 5 hE hX (by exact y_build) ?_ rfl rfl rfl rfl; clear hE a; intro a hE); all_goals (refine rg_e 6 hE rfl rfl (by kernel_rfl) ?_; intro K hK; (refine qst0 hE hS ?_; clear hS; intro w hS); refine rg_k hK hS ?_; clear hK hX; clear K; intro hX); all_goals (refine rg_y 7 hE hX (by exact y_assign) ?_ rfl rfl rfl rfl; clear hE a; intro a hE); all_goals (refine rg_done ?_ (by kernel_rfl); (try clear hX))))
        all_goals exact p_rets hE rfl (rc hE hS (rt hE .nil)) rfl ⟨_, rfl, by rw [if_pos ⟨h1, rfl, rfl⟩]; rfl, hS.clean⟩
  · repeat' (first | refine wl_nil ?_ | refine then_n ?_ | refine c_ret ?_ | refine then_r ?_ | refine c_cond_t hE rfl ?_ | (refine c_regI 0 ?_; all_goals (refine wl hE rfl ?_; refine qbx hE hS ?_; clear hE hS; clear a; intro g a w hE hS); all_goals (refine wl hE rfl ?_; refine qal hE hS ?_; clear hE hS; clear a; intro g a w hE hS); all_goals (refine wl hE rfl ?_; refine qa hE ?_; clear hE a; intro a hE)) | (refine c_regI 1 ?_; all_goals (refine wl hE rfl ?_; refine qf hE ?_; clear hE a; intro a hE); all_goals (refine wl hE rfl ?_; refine ql hE hS ?_; clear hE a; intro a hE); all_goals (refine wl hE rfl ?_; refine qb hE ?_; clear hE a; intro a hE); all_goals (refine wl hE rfl ?_; refine qm hE ?_; clear hE a; intro a hE); all_goals ((refine wl_splitg hE rfl rfl ?_ ?_) <;> (clear hE; intro hb hE; (first | replace hb := of_decide_eq_true hb | replace hb := of_decide_eq_false hb | (simp only [Bool.not_eq_true', Bool.not_eq_false', decide_eq_true_eq, decide_eq_false_iff_not] at hb) | skip); try (exfalso; first | omega | exact absurd trivial hb | exact absurd rfl hb | (simp only [beq_self_eq_true, bne_self_eq_false, reduceCtorEq] at hb; done))) <;> (refine wl_skip hE rfl rfl rfl ?_; clear hE a; intro a hE)); all_goals (refine wl_skip hE rfl rfl rfl ?_; clear hE a; intro a hE); all_goals (refine wl_skip hE rfl rfl rfl ?_; clear hE a; intro a hE); all_goals (refine wl hE rfl ?_; refine qpt hE ?_; clear hE a; intro a hE); all_goals (refine wl hE rfl ?_; refine qm hE ?_; clear hE a; intro a hE); all_goals (refine wl_skip hE rfl rfl rfl ?_; clear hE a; intro a hE); all_goals (refine wl_skip hE rfl rfl rfl ?_; clear hE a; intro a hE); all_goals (refine wl_skip hE rfl rfl rfl ?_; clear hE a; intro a hE); all_goals (refine wl hE rfl ?_; refine qpt hE ?_; clear hE a; intro a hE)) | (refine c_regI 2 ?_; all_goals (refine wl hE rfl ?_; refine qbu hE ?_; clear hE a; intro a hE); all_goals (refine wl hE rfl ?_; refine qst0 hE hS ?_; clear hS; intro w hS); all_goals (refine wl hE rfl ?_; refine qa hE ?_; clear hE a; intro a hE)) | refine c_seq ?_)
    all_goals exact p_rets hE rfl (rc hE hS (rt hE .nil)) rfl ⟨_, rfl, by rw [if_neg (fun h => h1 h.1)]; rfl, hS.clean⟩
end Go.Proofs.Ytdaciolahgfhiaa
/- DERIVED. Layer 19: records: what is open, what waits. No condition. -/
namespace Go.Proofs.Ytdaciolahgfhiaa
open Go.RowKit Go.Sx Go.Proofs.YtdaciolahgfhiaaTy
set_option linter.unusedVariables false
structure On where
  ip : Int
  tr : Int
  la : Int
def On.cells (o : On) : List Value := [.int .u32 o.ip, .int .i64 o.tr, .int .i64 o.la]
def On0 : On := ⟨0, 0, 0⟩
theorem onlen (o : On) : o.cells.length = 3 := rfl
structure Ak where
  ip : Int
  s : ByteArray
def Ak.cells (a : Ak) : List Value := [.int .u32 a.ip, .string a.s]
def Ak0 : Ak := ⟨0, ⟨#[]⟩⟩
theorem aklen (a : Ak) : a.cells.length = 2 := rfl
end Go.Proofs.Ytdaciolahgfhiaa

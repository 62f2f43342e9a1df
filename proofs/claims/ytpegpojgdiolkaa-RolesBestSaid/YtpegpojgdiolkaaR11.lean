/- DERIVED. The law RolesBest. No condition. -/
import Derived.Test.YtpegpojgdiolkaaR10
namespace Go.Proofs.Ytpegpojgdiolkaa
open Go.RowKit Go.Sx Go.Proofs.YtpegpojgdiolkaaTy Go.Proofs.YtpegpojgdiolkaaOp
set_option linter.unusedVariables false
set_option linter.unusedSimpArgs false
set_option maxRecDepth 100000
attribute [local irreducible] Oper.wp Code.wp wpList wpAnyH Calls bodyPost Exit.then Exit.inBlock Code.rounds
set_option maxHeartbeats 1000000
theorem bOr_ge (x : Int) : 2 ≤ bOr .u64 x 2 := by
  have e : bOr .u64 x 2 = ((BitVec.ofInt 64 x ||| BitVec.ofInt 64 2).toNat : Int) := by
    have h := (BitVec.ofInt 64 x ||| BitVec.ofInt 64 2).isLt
    show IntKind.u64.wrap ((BitVec.ofInt 64 x ||| BitVec.ofInt 64 2).toNat : Int) = _
    simp only [IntKind.wrap, IntKind.bits, IntKind.signed]
    have : (((BitVec.ofInt 64 x ||| BitVec.ofInt 64 2).toNat : Int)) % 2 ^ 64 = ((BitVec.ofInt 64 x ||| BitVec.ofInt 64 2).toNat : Int) := Int.emod_eq_of_lt (by omega) (by exact_mod_cast h)
    simpa using this
  rw [e, BitVec.toNat_or]
  have : (BitVec.ofInt 64 2).toNat = 2 := by decide
  rw [this]
  have := Nat.right_le_or (m := 2) (n := (BitVec.ofInt 64 x).toNat)
  omega
def orV (x : View) : View := ⟨x.up, x.cost, x.told, ⟨bOr .u64 x.v.r 2, x.v.c, x.v.b, x.v.p, x.v.o⟩⟩
def orTo (l : List View) (i : Nat) : List View := (l.take i).map orV ++ l.drop i
theorem orTo_len (l : List View) (i : Nat) : (orTo l i).length = l.length := by simp [orTo]; omega
theorem orTo_get (l : List View) (i : Nat) (h : i < l.length) : (orTo l i).getD i W0 = l.getD i W0 := by
  simp only [orTo, List.getD_eq_getElem?_getD]
  rw [List.getElem?_append_right (by simp; omega)]
  simp [Nat.min_eq_left (Nat.le_of_lt h)]
theorem orTo_set (l : List View) (i : Nat) (h : i < l.length) : (orTo l i).set i (orV (l.getD i W0)) = orTo l (i + 1) := by
  have hl : ((l.take i).map orV).length = i := by simp; omega
  have e : l.getD i W0 = l[i] := by simp [h]
  simp only [orTo]
  rw [List.set_append_right _ _ (by omega), hl, Nat.sub_self, List.drop_eq_getElem_cons h, List.set_cons_zero, e, List.take_succ_eq_append_getElem h, List.map_append, List.append_assoc]
  rfl
theorem orTo_all (l : List View) : orTo l l.length = l.map orV := by simp [orTo]
def best1 : View := ⟨true, 1, true, ⟨1, 0, 1, 0, 0⟩⟩
theorem best_root (b : Int) (l : List View) (k : Nat) (hk : k < l.length) : rootTo (bOr .u64 b 2) ((l.map orV).set k best1) l.length = ((⟨1, 1, 1, 0, (k : Int) + 1⟩ : Vec), (k : Int) + 1) := by
  have hb := bOr_ge b
  have hlm : (l.map orV).length = l.length := List.length_map orV
  have lt1 : ∀ u : Vec, 2 ≤ u.r → cmpV ⟨1, 1, 1, 0, k + 1⟩ u < 0 := fun u hu => by
    have : cmpI 1 u.r = -1 := cmpI_lt (by omega)
    simp [cmpV, cmp5, cmp10, this]
  refine root_only _ _ _ ⟨1, 1, 1, 0, k + 1⟩ (k + 1) (.inr ⟨by omega, by omega, ?_, ?_⟩) (Int.le_of_lt (lt1 _ hb)) fun i hi ho => ?_
  · rw [show ((k : Int) + 1 - 1).toNat = k by omega, getD_set _ _ _ _ (by omega), if_pos rfl]
    exact ⟨rfl, rfl, fun e => by simp only [best1] at e; omega⟩
  · rw [show ((k : Int) + 1 - 1).toNat = k by omega, getD_set _ _ _ _ (by omega), if_pos rfl]
    rfl
  · rw [getD_set _ _ _ _ (by omega)]
    by_cases hik : i = k
    · rw [if_pos hik]
      subst hik
      exact Int.le_of_eq ((cmpV_zero _ _).2 rfl)
    · rw [if_neg hik]
      refine Int.le_of_lt (lt1 _ ?_)
      have : (l.map orV).getD i W0 = orV (l.getD i W0) := by
        simp only [List.getD_eq_getElem?_getD, List.getElem?_map]
        rw [List.getElem?_eq_getElem hi]
        rfl
      rw [this]
      exact bOr_ge _
theorem rootn_s (A : Option Addr) (c n : Nat) (b : Int) (l : List View) (rt : Vec) (k : Int) (hn : l.length = n) (hro : rootTo b l n = (rt, k)) (w0 : World) (hR : Rd w0 A (l.flatMap View.cells)) (hl : n ≤ 4294967295) (hok : ∀ x ∈ l, x.v.ok) : Calls Try.prog 24 #[.int .u64 b, .slice A n c] w0 fun e w' => ∃ r, e = .returned r ∧ r = .tuple #[.agg #[.int .u64 rt.r, .int .i64 rt.c, .int .u64 rt.b, .int .i64 rt.p, .int .i64 rt.o], .int .i64 k] ∧ Sep w0 w' [] := by
  subst hn
  have := root_s A c b l w0 hR hl hok
  rw [hro] at this
  exact this
theorem best_law (A : Option Addr) (cap : Nat) (b : Int) (all : List View) (p : Int) (w0 : World) (hcap : all.length ≤ cap) (hR0 : Rd w0 A (all.flatMap View.cells)) (hok0 : ∀ x ∈ all, x.v.ok) : Calls Try.prog 12 #[.int .u64 b, .slice A all.length cap, .int .i64 p] w0 fun e w' => ∃ rr, e = .returned rr ∧ rr = .bool true ∧ Sep w0 w' [] := by
  obtain ⟨l, hL⟩ : ∃ l, l = all.take 16 := ⟨_, rfl⟩
  have hLn : l.length = min all.length 16 := by rw [hL, List.length_take, Nat.min_comm]
  have hR : Rd w0 A (l.flatMap View.cells) := by rw [hL]; exact hR0.flat_take 16
  have hok : ∀ x ∈ l, x.v.ok := fun v hv => hok0 v (List.mem_of_mem_take (hL ▸ hv))
  have hone := view_one l
  obtain ⟨n, hn⟩ : ∃ n, l.length = n := ⟨_, rfl⟩
  obtain ⟨k, hk⟩ : ∃ k, k = (bAnd .i64 p 65535).tmod (n : Int) := ⟨_, rfl⟩
  have hp : bAnd .i64 p 65535 = p % 65536 := bAnd_mask p 16 (by decide)
  have hk0 : 0 < n → 0 ≤ k ∧ k < n := fun h => by
    rw [hk, hp, Int.tmod_eq_emod_of_nonneg (by omega)]
    exact ⟨Int.emod_nonneg _ (by omega), Int.emod_lt_of_pos _ (by omega)⟩
  obtain ⟨l2, hl2⟩ : ∃ l2, l2 = (l.map orV).set k.toNat best1 := ⟨_, rfl⟩
  have hn2 : l2.length = n := by rw [hl2, List.length_set, List.length_map, hn]
  have hok2 : ∀ x ∈ l2, x.v.ok := by
    rw [hl2]
    refine ok_set (fun x hx => ?_) _ (by simp only [Vec.ok, best1, in64]; omega)
    obtain ⟨y, hy, rfl⟩ := List.mem_map.1 hx
    exact hok y hy
  have hroot : ∀ _ : Unit, 0 < n → rootTo (bOr .u64 b 2) l2 n = ((⟨1, 1, 1, 0, k + 1⟩ : Vec), k + 1) := fun _ h => by
    have hkk := hk0 h
    have := best_root b l k.toNat (by omega)
    rw [← hl2, hn, Int.toNat_of_nonneg hkk.1] at this
    exact this
  obtain ⟨ro, hro⟩ : ∃ ro, rolesTo (bOr .u64 b 2) l2 n = ro := ⟨_, rfl⟩
  have hlr : ro.length = n := by rw [← hro]; exact rolesTo_len _ l2 n
  have gk : ∀ _ : Unit, 0 < n → ro.getD k.toNat 0 = 4 := fun _ h => by
    have hkk := hk0 h
    rw [← hro, rolesTo_get _ l2 n k.toNat (by omega), hn2, hroot () h, role_four]
    exact ⟨by rw [hl2, getD_set _ _ _ _ (by rw [List.length_map]; omega), if_pos rfl]; rfl, by simp only; omega⟩
  clear hL hR0 hok0
  rw [hn] at hLn
  refine enter (args := [.int .u64 b, .slice A all.length cap, .int .i64 p]) 94 Try.func12 rfl rfl rfl ?_
  intro a hE hS
  repeat' (first | (refine wl hE rfl ?_; first | ((first | refine qm hE ?_ | refine qa hE ?_ | refine qb hE ?_ | refine qFF hE ?_ | refine qf hE ?_ | refine ql hE hS ?_ | refine qn hE ?_ | refine qe hE ?_ | refine qpt hE ?_ | refine qpf hE ?_ | refine qu hE ?_ | refine qn1 hE ?_ | refine qns hE ?_ | refine qL hE hS ?_ | refine qbu hE ?_ | refine qF hE ?_ | refine qnf hE ?_ | refine qmin hE ?_ | refine qmax hE ?_ | refine qssh hE ?_ | refine qix1 hE ?_ | refine qix hE ?_ | refine qia hE ?_ | refine qbA hE ?_ | refine qbE hE ?_ | refine qbN hE ?_ | refine qcv hE ?_ | refine qfd1 hE ?_ | refine qfd hE ?_ | refine qi hE (fun _ => rfl) ?_ | refine qlr hE hS ?_ | refine qb2 hE ?_ | refine qng hE ?_); clear hE; clear a; intro a hE) | ((first | refine qst0 hE hS ?_ | refine qst hE hS ?_); clear hS; intro w hS) | ((first | refine qal hE hS ?_ | refine qbx hE hS ?_ | refine qbs1 hE hS ?_ | refine qbs hE hS ?_ | refine qbs0 hE hS ?_); clear hE hS; clear a; intro g a w hE hS) | (refine qsh n hE ?_; clear hE; clear a; intro a hE) | ((refine qap (N := n) (ys := l.flatMap View.cells) hE hS (hR.move hS) hone ?_ (hl := by rw [flat_len wlen, hn]); clear hE hS; clear a; intro A2 c2 a w hE hS))) | refine c_reg ?_ | refine wl_nil ?_ | refine then_n ?_ | refine c_block ?_ | refine c_skip ?_ | refine c_exit ?_ | refine c_ret ?_ | refine then_r ?_ | refine then_e ?_ | refine inb_n ?_ | refine inb_r ?_ | refine inb_e ?_ | refine inb_o rfl ?_ | refine c_cond_t hE rfl ?_ | refine c_cond_f hE rfl ?_ | refine c_rnd ?_ | refine c_seq ?_ | (refine wl_skip hE rfl rfl rfl ?_; clear hE; clear a; intro a hE) | ((refine wl_splitg hE rfl rfl ?_ ?_) <;> (clear hE; intro hb hE; (first | replace hb := of_decide_eq_true hb | replace hb := of_decide_eq_false hb | (simp only [Bool.not_eq_true', Bool.not_eq_false', decide_eq_true_eq, decide_eq_false_iff_not] at hb) | skip); try (exfalso; first | omega | exact absurd trivial hb | exact absurd rfl hb))) | ((refine c_cond hE rfl ?_ ?_) <;> (intro hb; (first | replace hb := of_decide_eq_true hb | replace hb := of_decide_eq_false hb | (simp only [Bool.not_eq_true', Bool.not_eq_false', decide_eq_true_eq, decide_eq_false_iff_not] at hb) | skip); try (exfalso; first | omega | exact absurd trivial hb | exact absurd rfl hb))))
  have hA2 : (0 : Int) < n → A2 = some (adr A2) := fun h => (Rd.row (A := A2) (n := n) (c := c2) (xs := l.flatMap View.cells) hS).some (by rw [flat_len wlen, hn]; omega)
  refine c_loopN (fun m a w => ∃ i : Int, 0 ≤ i ∧ i ≤ n ∧ m = (n - i).toNat ∧ ∃ m1, m1 = orTo l i.toNat ∧ Env a 94 [(1, .slice A2 n c2), (2, .int .i64 p), (7, .int .u64 (bOr .u64 b 2)), (8, .int .i64 i)] ∧ Sep w0 w [row 47 8 (.slice A2 n c2) n (m1.flatMap View.cells)]) _ ⟨0, by omega, by omega, rfl, l, by simp [orTo], hE.cut ⟨rfl, rfl, rfl, rfl, trivial⟩, hS.sub⟩ ?_
  clear hE hS a w
  rintro m a w ⟨i, h0, h1, rfl, m1, hm1, hE, hS⟩
  obtain ⟨x, hx⟩ : ∃ x, x = l.getD i.toNat W0 := ⟨_, rfl⟩
  have hm1n : m1.length = n := by rw [hm1, orTo_len, hn]
  have hm1x : i < n → m1.getD i.toNat W0 = x := fun h => by rw [hm1, orTo_get l _ (by omega), hx]
  have hm1s : i < n → m1.set i.toNat (orV x) = orTo l (i + 1).toNat := fun h => by rw [hm1, hx, orTo_set l _ (by omega), show (i + 1).toNat = i.toNat + 1 by omega]
  have hm1e : ¬ i < n → m1.set k.toNat best1 = l2 := fun h => by rw [hm1, hl2, show i.toNat = l.length by omega, orTo_all]
  repeat' (first | (refine wl hE rfl ?_; first | ((first | refine qm hE ?_ | refine qa hE ?_ | refine qb hE ?_ | refine qFF hE ?_ | refine qf hE ?_ | refine ql hE hS ?_ | refine qn hE ?_ | refine qe hE ?_ | refine qpt hE ?_ | refine qpf hE ?_ | refine qu hE ?_ | refine qn1 hE ?_ | refine qns hE ?_ | refine qL hE hS ?_ | refine qbu hE ?_ | refine qF hE ?_ | refine qnf hE ?_ | refine qmin hE ?_ | refine qmax hE ?_ | refine qssh hE ?_ | refine qix1 hE ?_ | refine qix hE ?_ | refine qia hE ?_ | refine qbA hE ?_ | refine qbE hE ?_ | refine qbN hE ?_ | refine qcv hE ?_ | refine qfd1 hE ?_ | refine qfd hE ?_ | refine qi hE (fun _ => rfl) ?_ | refine qlr hE hS ?_ | refine qb2 hE ?_ | refine qng hE ?_ | refine qi hE hA2 ?_ | refine qlFF 3 (df := W0) (i := i) (l := m1) (v := .int .u64 x.v.r) hE hS wlen (by rw [hm1x (by omega)]; rfl) ?_ | refine qi (A := A4) (len := n) hE (fun h => (Rd.row (A := A4) (n := n) (c := c4) (xs := ints ro) hS).some (by rw [ints_length]; omega)) ?_ | refine qlI (i := k) (xs := ro) hE hS ?_ (gk () (by omega))); clear hE; clear a; intro a hE) | ((first | refine qst0 hE hS ?_ | refine qst hE hS ?_); clear hS; intro w hS) | ((first | refine qal hE hS ?_ | refine qbx hE hS ?_ | refine qbs1 hE hS ?_ | refine qbs hE hS ?_ | refine qbs0 hE hS ?_); clear hE hS; clear a; intro g a w hE hS) | (refine is_call 32 rfl ?_; refine qc hE (fixed14_s _) ?_; clear hE; clear a; rintro _ a w ⟨rfl, hS1⟩ hE; replace hS := hS.then hS1; clear hS1) | ((refine qsR (off := 3) (v := .int .u64 (bOr .u64 x.v.r 2)) (l := m1) (i := i) (orV x) hE hS wlen (by rw [hm1x (by omega)]; rfl) ?_; rw [hm1s (by omega)]; clear hS; intro w hS)) | ((refine qsR (df := W0) (off := 0) (v := .agg best1.cells.toArray) (l := m1) (i := k) best1 hE hS wlen rfl ?_; rw [hm1e (by omega)]; clear hS; intro w hS)) | (refine is_call 24 rfl ?_; refine qc hE (rootn_s A2 c2 n (bOr .u64 b 2) l2 _ _ hn2 (hroot () (by omega)) _ (Rd.row (A := A2) (c := c2) (n := n) hS) (by omega) hok2) ?_; clear hE; clear a; rintro _ a w ⟨rfl, hS1⟩ hE; replace hS := hS.then hS1; clear hS1) | (refine is_call 29 rfl ?_; refine qc hE (alln_s A2 c2 n (bOr .u64 b 2) l2 ro hn2 hro _ (Rd.row (A := A2) (c := c2) (n := n) hS) (by omega) hok2) ?_; clear hE; clear a; rintro _ a w ⟨A4, c4, rfl, hS1⟩ hE; replace hS := hS.then hS1; clear hS1)) | refine c_reg ?_ | refine wl_nil ?_ | refine then_n ?_ | refine c_block ?_ | refine c_skip ?_ | refine c_exit ?_ | refine c_ret ?_ | refine then_r ?_ | refine then_e ?_ | refine inb_n ?_ | refine inb_r ?_ | refine inb_e ?_ | refine inb_o rfl ?_ | refine c_cond_t hE rfl ?_ | refine c_cond_f hE rfl ?_ | refine c_rnd ?_ | (rw [← hk] at hE; skip) | refine c_seq ?_ | (refine wl_skip hE rfl rfl rfl ?_; clear hE; clear a; intro a hE) | ((refine wl_splitg hE rfl rfl ?_ ?_) <;> (clear hE; intro hb hE; (first | replace hb := of_decide_eq_true hb | replace hb := of_decide_eq_false hb | (simp only [Bool.not_eq_true', Bool.not_eq_false', decide_eq_true_eq, decide_eq_false_iff_not] at hb) | skip); try (exfalso; first | omega | exact absurd trivial hb | exact absurd rfl hb))) | ((refine c_cond hE rfl ?_ ?_) <;> (intro hb; (first | replace hb := of_decide_eq_true hb | replace hb := of_decide_eq_false hb | (simp only [Bool.not_eq_true', Bool.not_eq_false', decide_eq_true_eq, decide_eq_false_iff_not] at hb) | skip); try (exfalso; first | omega | exact absurd trivial hb | exact absurd rfl hb))))
  all_goals first | exact ⟨_, by omega, i + 1, by omega, by omega, rfl, _, rfl, hE.cut ⟨rfl, rfl, rfl, rfl, trivial⟩, hS.sub⟩ | exact p_ret hE rfl rfl ⟨_, rfl, rfl, hS.clean⟩ | skip
theorem rolesBest_call (W : World) (a0 : Int) (w0 : (Lit.int .u64 a0).wf = true) (x1 : T38) (A1 : Option Addr) (len1 cap1 : Nat) (K1 : kd38.K W x1 [.slice A1 len1 cap1]) (w1 : wf38 x1) (a2 : Int) (w2 : (Lit.int .i64 a2).wf = true) : Calls Try.prog 12 #[.int .u64 a0, .slice A1 len1 cap1, .int .i64 a2] W fun e w' => ∃ r, e = .returned r ∧ r = .bool true ∧ Sep W w' [] := by
  obtain ⟨rfl, hc, hR⟩ := views_cells K1
  exact best_law A1 cap1 a0 _ a2 W hc hR (views_ok w1)
end Go.Proofs.Ytpegpojgdiolkaa

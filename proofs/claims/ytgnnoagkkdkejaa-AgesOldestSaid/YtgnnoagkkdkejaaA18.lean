/- DERIVED. Layer 10: the reference's entries in any order, and the table's by rising keys. No condition. -/
import Derived.Test.YtgnnoagkkdkejaaA17
namespace Go.Proofs.Ytgnnoagkkdkejaa
open Go.RowKit Go.Sx Go.Proofs.YtgnnoagkkdkejaaTy
set_option linter.unusedVariables false
set_option linter.unusedSimpArgs false
def Dist (l : List En) : Prop := l.Pairwise fun x y => x.k ≠ y.k
theorem dist_of {K S : List En} (hp : K.Perm S) (hs : Rising S) : Dist K := by
  refine (List.Perm.pairwise_iff (fun {x y} h => Ne.symm h) hp).2 (hs.imp ?_)
  intro x y h
  omega
def notK (k : Int) (l : List En) : List En := l.filter fun y => !decide (y.k = k)
theorem split_at {l : List En} {i : Nat} (h : i < l.length) : l = l.take i ++ l.getD i E0 :: l.drop (i + 1) := by
  have e : l.getD i E0 = l[i] := by simp [h]
  rw [e, ← List.drop_eq_getElem_cons h, List.take_append_drop]
theorem erase_notK {l : List En} (hd : Dist l) {i : Nat} (h : i < l.length) : l.eraseIdx i = notK (l.getD i E0).k l := by
  rw [List.eraseIdx_eq_take_drop_succ]
  have hs := split_at h
  obtain ⟨x, hx⟩ : ∃ x, l.getD i E0 = x := ⟨_, rfl⟩
  rw [hx] at hs ⊢
  clear hx h
  generalize l.take i = T at *
  generalize l.drop (i + 1) = D at *
  subst hs
  unfold notK
  rw [Dist, List.pairwise_append, List.pairwise_cons] at hd
  obtain ⟨_, ⟨h2, _⟩, h3⟩ := hd
  rw [List.filter_append, List.filter_cons_of_neg (by simp)]
  rw [List.filter_eq_self.2 (fun y hy => ?_), List.filter_eq_self.2 (fun y hy => ?_)]
  · have := h2 y hy
    simp
    exact fun h => this h.symm
  · have := h3 y hy x (by simp)
    simp
    exact this
theorem putE_perm (S : List En) (x : En) : (putE S x).Perm (x :: notK x.k S) := by
  unfold putE notK
  refine List.perm_middle.trans (List.Perm.cons x ?_)
  have h := List.filter_append_perm (fun y : En => decide (y.k < x.k)) (S.filter fun y => !decide (y.k = x.k))
  rw [List.filter_filter, List.filter_filter] at h
  have e1 : (fun a : En => decide (a.k < x.k) && !decide (a.k = x.k)) = fun y => decide (y.k < x.k) := by
    funext a
    by_cases h1 : a.k < x.k
    · have : ¬ a.k = x.k := by omega
      simp [h1, this]
    · simp [h1]
  have e2 : (fun a : En => (!decide (a.k < x.k)) && !decide (a.k = x.k)) = fun y => decide (x.k < y.k) := by
    funext a
    by_cases h1 : x.k < a.k
    · have h2 : ¬ a.k = x.k := by omega
      have h3 : ¬ a.k < x.k := by omega
      simp [h1, h2, h3]
    · by_cases h2 : a.k = x.k
      · simp [h2]
      · have h3 : a.k < x.k := by omega
        simp [h1, h3]
  rw [e1, e2] at h
  exact h
theorem notK_perm {K S : List En} (hp : K.Perm S) (k : Int) : (notK k K).Perm (notK k S) := hp.filter _
theorem notK_absent {l : List En} {k : Int} (h : ∀ x ∈ l, x.k ≠ k) : notK k l = l := List.filter_eq_self.2 (fun y hy => by have := h y hy; simp; exact this)
theorem set_perm {K S : List En} (hp : K.Perm S) (hs : Rising S) {x : En} {i : Nat} (h : i < K.length) (hk : (K.getD i E0).k = x.k) : (K.set i x).Perm (putE S x) := by
  refine List.Perm.trans ?_ (putE_perm S x).symm
  rw [List.set_eq_take_append_cons_drop, if_pos h]
  refine List.perm_middle.trans (List.Perm.cons x ?_)
  rw [← List.eraseIdx_eq_take_drop_succ, erase_notK (dist_of hp hs) h, hk]
  exact notK_perm hp _
theorem app_perm {K S : List En} (hp : K.Perm S) {x : En} (h : getE S x.k = none) : (K ++ [x]).Perm (putE S x) := by
  refine List.Perm.trans ?_ (putE_perm S x).symm
  refine List.perm_append_comm.trans (List.Perm.cons x ?_)
  rw [notK_absent (getE_none h)]
  exact hp
theorem found_get {K S : List En} (hp : K.Perm S) (hs : Rising S) {k i : Int} (h : FoundAt K (fun x => decide (x.k = k)) i) : (0 ≤ i ∧ i < K.length ∧ getE S k = some (K.getD i.toNat E0) ∧ (K.getD i.toNat E0).k = k) ∨ (i = -1 ∧ getE S k = none) := by
  rcases h with ⟨j, rfl, hj, _, hx⟩ | ⟨rfl, hn⟩
  · left
    have hk := of_decide_eq_true hx
    refine ⟨by omega, by omega, ?_, hk⟩
    have := getE_mem hs (hp.mem_iff.1 (getD_memE hj))
    rw [hk] at this
    exact this
  · exact .inr ⟨rfl, List.find?_eq_none.2 (fun y hy => by have := hn y (hp.mem_iff.2 hy); simpa using this)⟩
/-- Which one is the oldest of those that are not fixed, and of those the first by its key. -/
def BestTo (l : List En) (i : Nat) (o : Int) : Prop := (o = -1 ∧ ∀ m : Nat, m < i → (l.getD m E0).f = true) ∨ (∃ j : Nat, o = j ∧ j < i ∧ (l.getD j E0).f = false ∧ ∀ m : Nat, m < i → (l.getD m E0).f = false → (l.getD j E0).t < (l.getD m E0).t ∨ ((l.getD j E0).t = (l.getD m E0).t ∧ (l.getD j E0).k ≤ (l.getD m E0).k))
theorem best_new {l : List En} {i : Nat} {o : Int} (h : BestTo l i o) (hf : (l.getD i E0).f = false) (hc : o < 0 ∨ (l.getD i E0).t < (l.getD o.toNat E0).t ∨ ((l.getD i E0).t = (l.getD o.toNat E0).t ∧ (l.getD i E0).k < (l.getD o.toNat E0).k)) : BestTo l (i + 1) i := by
  refine .inr ⟨i, rfl, by omega, hf, ?_⟩
  intro m hm hmf
  by_cases hmi : m = i
  · subst hmi
    exact .inr ⟨rfl, Int.le_refl _⟩
  rcases h with ⟨rfl, h⟩ | ⟨j, rfl, hj, hjf, h⟩
  · have := h m (by omega)
    rw [this] at hmf
    cases hmf
  · have h1 := h m (by omega) hmf
    simp only [Int.toNat_natCast] at hc
    omega
theorem best_old {l : List En} {i : Nat} {o : Int} (h : BestTo l i o) (hc : (l.getD i E0).f = true ∨ (0 ≤ o ∧ ((l.getD o.toNat E0).t < (l.getD i E0).t ∨ ((l.getD o.toNat E0).t = (l.getD i E0).t ∧ (l.getD o.toNat E0).k ≤ (l.getD i E0).k)))) : BestTo l (i + 1) o := by
  rcases h with ⟨rfl, h⟩ | ⟨j, rfl, hj, hjf, h⟩
  · refine .inl ⟨rfl, ?_⟩
    intro m hm
    by_cases hmi : m = i
    · subst hmi
      rcases hc with hc | hc
      · exact hc
      · omega
    · exact h m (by omega)
  · refine .inr ⟨j, rfl, by omega, hjf, ?_⟩
    intro m hm hmf
    by_cases hmi : m = i
    · subst hmi
      rcases hc with hc | ⟨_, hc⟩
      · rw [hc] at hmf; cases hmf
      · simpa using hc
    · exact h m (by omega) hmf
theorem oldestTo_best {l : List En} (hs : Rising l) : ∀ i : Nat, i ≤ l.length → BestTo l i (oldestTo l i)
  | 0, _ => .inl ⟨rfl, fun m hm => by omega⟩
  | i + 1, hi => by
    have ih := oldestTo_best hs i (by omega)
    have hr := oldestTo_rng l i
    simp only [oldestTo]
    split
    · rename_i h
      simp only [Bool.and_eq_true, Bool.not_eq_true', Bool.or_eq_true, decide_eq_true_eq] at h
      refine best_new ih h.1 ?_
      rcases h.2 with h | h
      · exact .inl h
      · exact .inr (.inl h)
    · rename_i h
      refine best_old ih ?_
      cases hf : (l.getD i E0).f with
      | true => exact .inl rfl
      | false =>
        right
        rw [hf] at h
        simp only [Bool.not_false, Bool.true_and, Bool.or_eq_true, decide_eq_true_eq, not_or] at h
        have := hs.lt (i := (oldestTo l i).toNat) (j := i) (by omega) (by omega)
        omega
theorem oldR_best (l : List En) : ∀ i : Nat, BestTo l i (oldR l i)
  | 0 => .inl ⟨rfl, fun m hm => by omega⟩
  | i + 1 => by
    have ih := oldR_best l i
    have hr := oldR_rng l i
    simp only [oldR]
    split
    · rename_i h
      simp only [Bool.and_eq_true, Bool.not_eq_true', Bool.or_eq_true, decide_eq_true_eq] at h
      refine best_new ih h.1 ?_
      omega
    · rename_i h
      refine best_old ih ?_
      cases hf : (l.getD i E0).f with
      | true => exact .inl rfl
      | false =>
        right
        rw [hf] at h
        simp only [Bool.not_false, Bool.true_and, Bool.or_eq_true, Bool.and_eq_true, decide_eq_true_eq, not_or, not_and] at h
        omega
theorem getD_of_mem {l : List En} {x : En} (h : x ∈ l) : ∃ m : Nat, m < l.length ∧ l.getD m E0 = x := by
  obtain ⟨m, hm, rfl⟩ := List.getElem_of_mem h
  exact ⟨m, hm, by simp [hm]⟩
theorem best_perm {K S : List En} (hp : K.Perm S) (hs : Rising S) {a b : Int} (ha : BestTo K K.length a) (hb : BestTo S S.length b) : (a = -1 ∧ b = -1) ∨ (0 ≤ a ∧ 0 ≤ b ∧ (K.eraseIdx a.toNat).Perm (S.eraseIdx b.toNat)) := by
  rcases ha with ⟨rfl, ha⟩ | ⟨i, rfl, hi, hif, ha⟩ <;> rcases hb with ⟨rfl, hb⟩ | ⟨j, rfl, hj, hjf, hb⟩
  · exact .inl ⟨rfl, rfl⟩
  · obtain ⟨m, hm, e⟩ := getD_of_mem (hp.mem_iff.2 (getD_memE hj))
    have := ha m hm
    rw [e, hjf] at this
    cases this
  · obtain ⟨m, hm, e⟩ := getD_of_mem (hp.mem_iff.1 (getD_memE hi))
    have := hb m hm
    rw [e, hif] at this
    cases this
  · right
    obtain ⟨m, hm, e⟩ := getD_of_mem (hp.mem_iff.2 (getD_memE hj))
    obtain ⟨n, hn, e2⟩ := getD_of_mem (hp.mem_iff.1 (getD_memE hi))
    have h1 := ha m hm (by rw [e]; exact hjf)
    have h2 := hb n hn (by rw [e2]; exact hif)
    rw [e] at h1
    rw [e2] at h2
    have hk : (K.getD i E0).k = (S.getD j E0).k := by omega
    refine ⟨by omega, by omega, ?_⟩
    have hds : Dist S := hs.imp (fun h => by omega)
    rw [Int.toNat_natCast, Int.toNat_natCast, erase_notK (dist_of hp hs) hi, erase_notK hds hj, hk]
    exact notK_perm hp _
theorem spare_perm {K S : List En} (hp : K.Perm S) (hs : Rising S) (room : Int) : (spareR room K = none ∧ spareE room S = none) ∨ ∃ K2 S2, spareR room K = some K2 ∧ spareE room S = some S2 ∧ K2.Perm S2 := by
  have hl := hp.length_eq
  unfold spareR spareE
  rw [hl]
  by_cases h : (S.length : Int) < room
  · rw [if_pos h, if_pos h]
    exact .inr ⟨_, _, rfl, rfl, hp⟩
  · rw [if_neg h, if_neg h]
    have hb := best_perm hp hs (oldR_best K K.length) (oldestTo_best hs S.length (Nat.le_refl _))
    rw [hl] at hb
    rcases hb with ⟨h1, h2⟩ | ⟨h1, h2, h3⟩
    · rw [h1, h2]
      exact .inl ⟨rfl, rfl⟩
    · rw [if_neg (by omega), if_neg (by omega)]
      exact .inr ⟨_, _, rfl, rfl, h3⟩
theorem take_succD {l : List En} {j : Nat} (h : j < l.length) : l.take (j + 1) = l.take j ++ [l.getD j E0] := by
  rw [List.take_succ_eq_append_getElem h]
  simp [h]
theorem insTo_is {l : List En} (hs : Rising l) {x : En} (hn : ∀ y ∈ l, y.k ≠ x.k) : ∀ j : Nat, j ≤ l.length → (insTo l x j = (l.take j, false) ∧ ∀ y ∈ l.take j, y.k < x.k) ∨ (insTo l x j = (putE (l.take j) x, true) ∧ ∃ m, m < j ∧ x.k < (l.getD m E0).k)
  | 0, _ => .inl ⟨by simp [insTo], by simp⟩
  | j + 1, hj => by
    have hj2 : j < l.length := by omega
    have hy := getD_memE hj2
    have hyn := hn _ hy
    rw [take_succD hj2]
    rcases insTo_is hs hn j (by omega) with ⟨e, h⟩ | ⟨e, m, hm, h⟩
    · simp only [insTo, e, Bool.not_false, Bool.true_and, decide_eq_true_eq]
      by_cases hc : x.k < (l.getD j E0).k
      · right
        rw [if_pos hc]
        refine ⟨?_, j, by omega, hc⟩
        have f1 : (l.take j).filter (fun y => decide (y.k < x.k)) = l.take j := List.filter_eq_self.2 (fun y hy => decide_eq_true (h y hy))
        have f2 : (l.take j).filter (fun y => decide (x.k < y.k)) = [] := List.filter_eq_nil_iff.2 (fun y hy => by have := h y hy; simp; omega)
        unfold putE
        rw [List.filter_append, List.filter_append, f1, f2, List.filter_cons_of_neg (by rw [decide_eq_true_eq]; omega), List.filter_cons_of_pos (by rw [decide_eq_true_eq]; exact hc)]
        simp
      · left
        rw [if_neg hc]
        refine ⟨rfl, ?_⟩
        intro y hy
        rcases List.mem_append.1 hy with hy | hy
        · exact h y hy
        · rw [List.mem_singleton.1 hy]
          omega
    · right
      simp only [insTo, e, Bool.not_true, Bool.false_and, Bool.false_eq_true, if_false]
      refine ⟨?_, m, by omega, h⟩
      have := hs.lt (i := m) (j := j) hm hj2
      unfold putE
      rw [List.filter_append, List.filter_append, List.filter_cons_of_neg (by rw [decide_eq_true_eq]; omega), List.filter_cons_of_pos (by rw [decide_eq_true_eq]; omega)]
      simp
theorem insE_put {l : List En} (hs : Rising l) {x : En} (hn : ∀ y ∈ l, y.k ≠ x.k) : insE l x = putE l x := by
  unfold insE
  rcases insTo_is hs hn l.length (Nat.le_refl _) with ⟨e, h⟩ | ⟨e, _⟩
  · rw [List.take_length] at e h
    rw [e, if_neg Bool.false_ne_true]
    unfold putE
    rw [List.filter_eq_self.2 (fun y hy => decide_eq_true (h y hy)), List.filter_eq_nil_iff.2 (fun y hy => by have := h y hy; simp; omega)]
  · rw [List.take_length] at e
    rw [e, if_pos rfl]
theorem sortTo_is {K : List En} (hd : Dist K) : ∀ i : Nat, i ≤ K.length → Rising (sortTo K i) ∧ (sortTo K i).Perm (K.take i)
  | 0, _ => ⟨List.Pairwise.nil, by simp [sortTo]⟩
  | i + 1, hi => by
    obtain ⟨h1, h2⟩ := sortTo_is hd i (by omega)
    have hi2 : i < K.length := by omega
    have hn : ∀ y ∈ sortTo K i, y.k ≠ (K.getD i E0).k := by
      intro y hy
      have hs := split_at hi2
      have hd2 : Dist (K.take i ++ K.getD i E0 :: K.drop (i + 1)) := by rw [← hs]; exact hd
      rw [Dist, List.pairwise_append] at hd2
      exact hd2.2.2 y (h2.mem_iff.1 hy) _ (by simp)
    simp only [sortTo]
    rw [insE_put h1 hn, take_succD hi2]
    refine ⟨put_rising h1 _, ?_⟩
    refine (putE_perm _ _).trans ?_
    rw [notK_absent hn]
    exact (List.Perm.cons _ h2).trans (List.perm_append_comm (l₁ := [K.getD i E0]))
theorem sort_is {K S : List En} (hp : K.Perm S) (hs : Rising S) : sortTo K K.length = S := by
  obtain ⟨h1, h2⟩ := sortTo_is (dist_of hp hs) K.length (Nat.le_refl _)
  rw [List.take_length] at h2
  refine List.Perm.eq_of_pairwise (le := fun x y : En => x.k < y.k) ?_ h1 hs (h2.trans hp)
  intro a b _ _ h h'
  omega
end Go.Proofs.Ytgnnoagkkdkejaa

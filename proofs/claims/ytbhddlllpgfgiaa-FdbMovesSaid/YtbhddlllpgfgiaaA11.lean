/- DERIVED. Layer 10: a table as a list by rising keys. No condition. -/
import Derived.Test.YtbhddlllpgfgiaaA10
namespace Go.Proofs.Ytbhddlllpgfgiaa
open Go.RowKit Go.Sx Go.Proofs.YtbhddlllpgfgiaaTy
set_option linter.unusedVariables false
set_option linter.unusedSimpArgs false
def getE (l : List En) (k : Int) : Option En := l.find? fun x => decide (x.k = k)
def putE (l : List En) (x : En) : List En := (l.filter fun y => decide (y.k < x.k)) ++ x :: l.filter fun y => decide (x.k < y.k)
theorem getE_mem {l : List En} (h : Rising l) {x : En} (hx : x ∈ l) : getE l x.k = some x := by
  induction l with
  | nil => simp at hx
  | cons a l ih =>
    rw [Rising, List.pairwise_cons] at h
    rcases List.mem_cons.1 hx with rfl | hx
    · simp [getE]
    · have := h.1 x hx
      have hne : ¬ a.k = x.k := by omega
      simp only [getE, List.find?_cons, hne, decide_false]
      exact ih h.2 hx
theorem getE_some {l : List En} {k : Int} {x : En} (h : getE l k = some x) : x ∈ l ∧ x.k = k := ⟨List.mem_of_find?_eq_some h, by simpa using List.find?_some h⟩
theorem getE_none {l : List En} {k : Int} (h : getE l k = none) : ∀ x ∈ l, x.k ≠ k := by
  intro x hx
  have := List.find?_eq_none.1 h x hx
  simpa using this
theorem find_getE {l : List En} (h : Rising l) {k i : Int} (hi : At1 l k i) : (getE l k = none ∧ ¬ (i < l.length ∧ (l.getD i.toNat E0).k = k)) ∨ (getE l k = some (l.getD i.toNat E0) ∧ i < l.length ∧ (l.getD i.toNat E0).k = k) := by
  obtain ⟨h0, h1, h2, h3⟩ := hi
  by_cases hc : i < l.length ∧ (l.getD i.toNat E0).k = k
  · right
    refine ⟨?_, hc⟩
    have := getE_mem h (x := l.getD i.toNat E0) (getD_memE (by omega))
    rwa [hc.2] at this
  · left
    refine ⟨?_, hc⟩
    cases hg : getE l k with
    | none => rfl
    | some x =>
      exfalso
      obtain ⟨hm, hk⟩ := getE_some hg
      obtain ⟨j, hj, rfl⟩ := List.getElem_of_mem hm
      have e : l.getD j E0 = l[j] := by simp [hj]
      by_cases hji : (j : Int) < i
      · have := h2 j hji
        rw [e] at this
        omega
      · have hi' : i < l.length := by omega
        have h4 := h3 i.toNat (by omega) (by omega)
        by_cases hji2 : (j : Int) = i
        · apply hc
          refine ⟨hi', ?_⟩
          have : i.toNat = j := by omega
          rw [this, e, hk]
        · have h5 := h.lt (i := i.toNat) (j := j) (by omega) hj
          rw [e] at h5
          omega
theorem take_lt {l : List En} {k i : Int} (hi : At1 l k i) : ∀ y ∈ l.take i.toNat, y.k < k := by
  intro y hy
  obtain ⟨j, hj, rfl⟩ := List.getElem_of_mem hy
  rw [List.length_take] at hj
  have := hi.2.2.1 j (by have := hi.1; omega)
  rw [List.getElem_take]
  have e : l.getD j E0 = l[j] := by simp [show j < l.length by omega]
  rwa [e] at this
theorem drop_ge {l : List En} {k i : Int} (hi : At1 l k i) : ∀ y ∈ l.drop i.toNat, k ≤ y.k := by
  intro y hy
  obtain ⟨j, hj, rfl⟩ := List.getElem_of_mem hy
  rw [List.length_drop] at hj
  have := hi.2.2.2 (i.toNat + j) (by have := hi.1; omega) (by omega)
  rw [List.getElem_drop]
  have e : l.getD (i.toNat + j) E0 = l[i.toNat + j] := by simp [show i.toNat + j < l.length by omega]
  rwa [e] at this
theorem putAt_putE {l : List En} (h : Rising l) {x : En} {i : Int} (hi : At1 l x.k i) : putAt l i x = putE l x := by
  have ht := take_lt hi
  have hd := drop_ge hi
  have hsplit : l = l.take i.toNat ++ l.drop i.toNat := (List.take_append_drop _ _).symm
  have f1 : (l.take i.toNat).filter (fun y => decide (y.k < x.k)) = l.take i.toNat := List.filter_eq_self.2 (fun y hy => decide_eq_true (ht y hy))
  have f2 : (l.take i.toNat).filter (fun y => decide (x.k < y.k)) = [] := List.filter_eq_nil_iff.2 (fun y hy => by have := ht y hy; simp; omega)
  have f3 : (l.drop i.toNat).filter (fun y => decide (y.k < x.k)) = [] := List.filter_eq_nil_iff.2 (fun y hy => by have := hd y hy; simp; omega)
  have e1 : l.filter (fun y => decide (y.k < x.k)) = l.take i.toNat := by
    conv => lhs; rw [hsplit]
    rw [List.filter_append, f1, f3, List.append_nil]
  have e2 : l.filter (fun y => decide (x.k < y.k)) = (l.drop i.toNat).filter (fun y => decide (x.k < y.k)) := by
    conv => lhs; rw [hsplit]
    rw [List.filter_append, f2, List.nil_append]
  unfold putE
  rw [e1, e2]
  unfold putAt
  split
  case isTrue hc =>
    have hlt : i.toNat < l.length := by have := hi.1; omega
    rw [List.drop_eq_getElem_cons hlt]
    have e : l.getD i.toNat E0 = l[i.toNat] := by simp [hlt]
    rw [e] at hc
    rw [List.filter_cons_of_neg (by rw [hc.2]; simp)]
    have f5 : (l.drop (i.toNat + 1)).filter (fun y => decide (x.k < y.k)) = l.drop (i.toNat + 1) := List.filter_eq_self.2 (fun y hy => by
      obtain ⟨j, hj, rfl⟩ := List.getElem_of_mem hy
      rw [List.length_drop] at hj
      rw [List.getElem_drop]
      have := h.lt (i := i.toNat) (j := i.toNat + 1 + j) (by omega) (by omega)
      have e3 : l.getD (i.toNat + 1 + j) E0 = l[i.toNat + 1 + j] := by simp [show i.toNat + 1 + j < l.length by omega]
      rw [e, e3] at this
      exact decide_eq_true (by omega))
    rw [f5, List.set_eq_take_append_cons_drop, if_pos hlt]
  case isFalse hc =>
    have f5 : (l.drop i.toNat).filter (fun y => decide (x.k < y.k)) = l.drop i.toNat := List.filter_eq_self.2 (fun y hy => by
      have h1 := hd y hy
      apply decide_eq_true
      rcases Int.lt_or_eq_of_le h1 with h1 | h1
      · exact h1
      · exfalso
        obtain ⟨j, hj, rfl⟩ := List.getElem_of_mem hy
        rw [List.length_drop] at hj
        rw [List.getElem_drop] at h1
        have hlt : i.toNat < l.length := by omega
        have h6 := hd (l[i.toNat]) (by rw [List.drop_eq_getElem_cons hlt]; exact List.mem_cons_self)
        have e : l.getD i.toNat E0 = l[i.toNat] := by simp [hlt]
        rw [e] at hc
        by_cases hj0 : j = 0
        · subst hj0
          exact hc ⟨by have := hi.1; omega, by simpa using h1.symm⟩
        · have := h.lt (i := i.toNat) (j := i.toNat + j) (by omega) (by omega)
          have e3 : l.getD (i.toNat + j) E0 = l[i.toNat + j] := by simp [show i.toNat + j < l.length by omega]
          rw [e, e3] at this
          omega)
    rw [f5]
    simp [insAt]
/-- What stays true of a table's list. -/
structure Inv (room : Int) (l : List En) : Prop where
  up : Rising l
  times : Times l
  len : l.length ≤ room
theorem filter_inv {room : Int} {l : List En} (h : Inv room l) (p : En → Bool) : Inv room (l.filter p) :=
  ⟨h.up.filter p, fun x hx => h.times x (List.mem_filter.1 hx).1, by have := List.length_filter_le p l; have := h.len; omega⟩
theorem erase_inv {room : Int} {l : List En} (h : Inv room l) (i : Nat) : Inv room (l.eraseIdx i) :=
  ⟨List.Pairwise.sublist (List.eraseIdx_sublist l i) h.up, fun x hx => h.times x (List.mem_of_mem_eraseIdx hx), by have := (List.eraseIdx_sublist l i).length_le; have := h.len; omega⟩
theorem oldestTo_lt {l : List En} (hl : 0 < l.length) : oldestTo l l.length < l.length := (oldestTo_rng l l.length).2
theorem spare_inv {room : Int} {l l2 : List En} (hr : 1 ≤ room) (h : Inv room l) (hs : spareE room l = some l2) : Inv room l2 ∧ (l2.length : Int) < room ∧ ∀ x ∈ l2, x ∈ l := by
  unfold spareE at hs
  split at hs
  · cases hs; exact ⟨h, by assumption, fun x hx => hx⟩
  · split at hs
    · cases hs
    · have hs := Option.some.inj hs
      subst hs
      rename_i h1 h2
      have h3 := (oldestTo_rng l l.length).2
      have h4 := List.length_eraseIdx_of_lt (l := l) (i := (oldestTo l l.length).toNat) (by omega)
      have h5 := h.len
      exact ⟨erase_inv h _, by omega, fun x hx => List.mem_of_mem_eraseIdx hx⟩
theorem put_len {l : List En} (h : Rising l) (x : En) : (putE l x).length + (getE l x.k).toList.length = l.length + 1 := by
  induction l with
  | nil => simp [putE, getE]
  | cons a l ih =>
    rw [Rising, List.pairwise_cons] at h
    have ih := ih h.2
    simp only [putE, List.length_append, List.length_cons] at ih ⊢
    by_cases h1 : a.k < x.k
    · have h2 : ¬ x.k < a.k := by omega
      have h3 : ¬ a.k = x.k := by omega
      have g : getE (a :: l) x.k = getE l x.k := by simp [getE, h3]
      rw [List.filter_cons_of_pos (by simpa using h1), List.filter_cons_of_neg (by simpa using h2), g, List.length_cons]
      omega
    · by_cases h3 : a.k = x.k
      · have h2 : ¬ x.k < a.k := by omega
        have h4 : getE l x.k = none := List.find?_eq_none.2 (fun y hy => by have := h.1 y hy; simp; omega)
        have g : getE (a :: l) x.k = some a := by simp [getE, h3]
        rw [h4] at ih
        rw [List.filter_cons_of_neg (by simpa using h1), List.filter_cons_of_neg (by simpa using h2), g]
        simp only [Option.toList_none, Option.toList_some, List.length_nil, List.length_singleton] at ih ⊢
        omega
      · have h2 : x.k < a.k := by omega
        have g : getE (a :: l) x.k = getE l x.k := by simp [getE, h3]
        rw [List.filter_cons_of_neg (by simpa using h1), List.filter_cons_of_pos (by simpa using h2), g, List.length_cons]
        omega
theorem put_rising {l : List En} (h : Rising l) (x : En) : Rising (putE l x) := by
  unfold putE
  rw [Rising, List.pairwise_append, List.pairwise_cons]
  refine ⟨h.filter _, ⟨?_, h.filter _⟩, ?_⟩
  · intro y hy
    exact of_decide_eq_true (List.mem_filter.1 hy).2
  · intro y hy z hz
    have h1 := of_decide_eq_true (List.mem_filter.1 hy).2
    rcases List.mem_cons.1 hz with rfl | hz
    · exact h1
    · have h2 := of_decide_eq_true (List.mem_filter.1 hz).2
      omega
theorem mem_put {l : List En} {x y : En} : y ∈ putE l x ↔ y = x ∨ (y ∈ l ∧ y.k ≠ x.k) := by
  simp only [putE, List.mem_append, List.mem_cons, List.mem_filter, decide_eq_true_eq]
  constructor
  · rintro (⟨h1, h2⟩ | rfl | ⟨h1, h2⟩)
    · exact .inr ⟨h1, by omega⟩
    · exact .inl rfl
    · exact .inr ⟨h1, by omega⟩
  · rintro (rfl | ⟨h1, h2⟩)
    · exact .inr (.inl rfl)
    · by_cases h3 : y.k < x.k
      · exact .inl ⟨h1, h3⟩
      · exact .inr (.inr ⟨h1, by omega⟩)
theorem put_inv {room : Int} {l : List En} (h : Inv room l) {x : En} (ht : 0 ≤ x.t ∧ x.t ≤ 1099511627776) (hr : (getE l x.k).isSome ∨ (l.length : Int) < room) : Inv room (putE l x) := by
  refine ⟨put_rising h.up x, ?_, ?_⟩
  · intro y hy
    rcases mem_put.1 hy with rfl | ⟨h1, _⟩
    · exact ht
    · exact h.times y h1
  · have h1 := put_len h.up x
    have h2 := h.len
    rcases hr with hr | hr
    · obtain ⟨z, hz⟩ := Option.isSome_iff_exists.1 hr
      rw [hz] at h1
      simp at h1
      omega
    · omega
/-- Put; Fix; Get; on the list. -/
def putT (room life : Int) (l : List En) (k v now : Int) : Int × List En :=
  if okT now = true then
    match getE l k with
    | some x => if x.f = true then (100, l) else (0, putE l ⟨k, v, now, false⟩)
    | none => match spareE room (noOld life now l) with
      | some l2 => (0, putE l2 ⟨k, v, now, false⟩)
      | none => (101, noOld life now l)
  else (1, l)
def fixT (room : Int) (l : List En) (k v : Int) : Int × List En :=
  match getE l k with
  | some x => (0, putE l ⟨k, v, 0, true⟩)
  | none => match spareE room l with
    | some l2 => (0, putE l2 ⟨k, v, 0, true⟩)
    | none => (101, l)
def getT (life : Int) (l : List En) (k now : Int) : En × Bool :=
  match getE l k with
  | some x => if okT now = true ∧ oldE life now x = false then (x, true) else (E0, false)
  | none => (E0, false)
theorem okT_of {now : Int} (h : okT now = true) : 0 ≤ now ∧ now ≤ 1099511627776 := of_decide_eq_true h
theorem putT_inv {room life : Int} {l : List En} (hr : 1 ≤ room) (h : Inv room l) (k v now : Int) : Inv room (putT room life l k v now).2 := by
  unfold putT
  split
  · rename_i hok
    split
    · rename_i x hx
      split
      · exact h
      · exact put_inv h (okT_of hok) (.inl (by rw [hx]; rfl))
    · split
      · rename_i l2 h2
        obtain ⟨h3, h4, _⟩ := spare_inv hr (filter_inv h _) h2
        exact put_inv h3 (okT_of hok) (.inr h4)
      · exact filter_inv h _
  · exact h
theorem fixT_inv {room : Int} {l : List En} (hr : 1 ≤ room) (h : Inv room l) (k v : Int) : Inv room (fixT room l k v).2 := by
  unfold fixT
  split
  · rename_i x hx
    exact put_inv h (by simp) (.inl (by rw [hx]; rfl))
  · split
    · rename_i l2 h2
      obtain ⟨h3, h4, _⟩ := spare_inv hr h h2
      exact put_inv h3 (by simp) (.inr h4)
    · exact h
end Go.Proofs.Ytbhddlllpgfgiaa

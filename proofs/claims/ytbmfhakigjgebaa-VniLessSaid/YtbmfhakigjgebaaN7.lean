/- DERIVED. Layer 21: the reference's Check. No condition. -/
import Derived.Test.YtbmfhakigjgebaaN6
namespace Go.Proofs.Ytbmfhakigjgebaa
open Go.RowKit Go.Sx Go.Proofs.YtbmfhakigjgebaaTy
set_option linter.unusedVariables false
set_option linter.unusedSimpArgs false
set_option maxRecDepth 100000
attribute [local irreducible] Oper.wp Code.wp wpList wpAnyH Calls bodyPost Exit.then Exit.inBlock Code.rounds
set_option maxHeartbeats 1000000
def Rng (x : Seg) : Prop := 0 < x.vid ∧ x.vid < 4095 ∧ 0 ≤ x.vni ∧ x.vni < 16777216
def Pair (l : List Seg) (i k : Nat) : Prop := (l.getD k S0).vid ≠ (l.getD i S0).vid ∧ (l.getD k S0).vni ≠ (l.getD i S0).vni
def Peer1 (own : Int) (ps : List Int) (k : Nat) : Prop := 0 < ps.getD k 0 ∧ ps.getD k 0 ≠ own ∧ oft ps (ps.getD k 0) = 1
def Item (own : Int) (l : List Seg) (i : Nat) : Prop := Rng (l.getD i S0) ∧ (∀ k, k < i → Pair l i k) ∧ ∀ k, k < (l.getD i S0).ps.length → Peer1 own (l.getD i S0).ps k
theorem all_lt_succ {Q : Nat → Prop} {i : Int} (h : 0 ≤ i) : (∀ j, j < (i + 1).toNat → Q j) ↔ (∀ j, j < i.toNat → Q j) ∧ Q i.toNat := by
  rw [show (i + 1).toNat = i.toNat + 1 by omega]
  constructor
  · intro hh
    exact ⟨fun j hj => hh j (by omega), hh _ (by omega)⟩
  · rintro ⟨h1, h2⟩ j hj
    by_cases e : j = i.toNat
    · exact e ▸ h2
    · exact h1 j (by omega)
theorem nodup_pairs (l : List Seg) (f : Seg → Int) : (l.map f).Nodup ↔ ∀ i, i < l.length → ∀ k, k < i → f (l.getD k S0) ≠ f (l.getD i S0) := by
  rw [List.Nodup, List.pairwise_iff_getElem]
  constructor
  · intro h i hi k hk
    have := h k i (by simp; omega) (by simpa using hi) hk
    simpa [hi, show k < l.length by omega] using this
  · intro h k i hk hi hki
    have := h i (by simpa using hi) k hki
    simp only [List.length_map] at hi hk
    simpa [hi, hk] using this
theorem nodup_oft (ps : List Int) : ps.Nodup ↔ ∀ k, k < ps.length → oft ps (ps.getD k 0) = 1 := by
  have hc : ∀ v, oft ps v = (ps.count v : Int) := fun v => by
    unfold oft List.count
    congr 2
  constructor
  · intro h k hk
    rw [hc, List.Nodup.count h, if_pos (getD_memI hk)]
    rfl
  · intro h
    rw [List.nodup_iff_count]
    intro a
    by_cases ha : a ∈ ps
    · obtain ⟨k, hk, e⟩ := List.mem_iff_getElem.1 ha
      have := h k hk
      rw [hc, show ps.getD k 0 = a by simp [hk, e]] at this
      omega
    · rw [List.count_eq_zero_of_not_mem ha]
      omega
theorem item_right {own : Int} {l : List Seg} (ho : 0 ≤ own) (hX : ∀ x ∈ l, ∀ p ∈ x.ps, 0 ≤ p) : (0 < own ∧ ∀ i, i < l.length → Item own l i) ↔ (own ≠ 0 ∧ l.all (rightB own) = true ∧ (l.map Seg.vid).Nodup ∧ (l.map Seg.vni).Nodup) := by
  have h1 : ∀ x ∈ l, rightB own x = true ↔ Rng x ∧ ∀ k, k < x.ps.length → Peer1 own x.ps k := fun x hx => by
    have hpos := hX x hx
    have e : (∀ k, k < x.ps.length → Peer1 own x.ps k) ↔ x.ps.Nodup ∧ 0 ∉ x.ps ∧ own ∉ x.ps := by
      rw [nodup_oft]
      constructor
      · intro h
        refine ⟨fun k hk => (h k hk).2.2, fun h0 => ?_, fun h0 => ?_⟩
        · obtain ⟨k, hk, e⟩ := List.mem_iff_getElem.1 h0
          have := (h k hk).1
          rw [show x.ps.getD k 0 = 0 by simp [hk, e]] at this
          omega
        · obtain ⟨k, hk, e⟩ := List.mem_iff_getElem.1 h0
          exact (h k hk).2.1 (by simp [hk, e])
      · rintro ⟨h1, h2, h3⟩ k hk
        have hm := getD_memI hk
        have := hpos _ hm
        refine ⟨?_, fun e => h3 (e ▸ hm), h1 k hk⟩
        rcases Int.lt_or_eq_of_le this with h | h
        · exact h
        · exact absurd (h ▸ hm) h2
    rw [e]
    simp only [rightB, Bool.and_eq_true, decide_eq_true_eq, Bool.not_eq_true', decide_eq_false_iff_not, Rng]
    constructor
    · rintro ⟨⟨⟨⟨⟨⟨a, b⟩, c⟩, d⟩, e⟩, f⟩, g⟩
      exact ⟨⟨by omega, by omega, by omega, by omega⟩, e, f, g⟩
    · rintro ⟨⟨a, b, c, d⟩, e, f, g⟩
      exact ⟨⟨⟨⟨⟨⟨by omega, by omega⟩, by omega⟩, by omega⟩, e⟩, f⟩, g⟩
  rw [List.all_eq_true, nodup_pairs, nodup_pairs]
  constructor
  · rintro ⟨h, hi⟩
    refine ⟨by omega, fun x hx => ?_, fun i hl k hk => ((hi i hl).2.1 k hk).1, fun i hl k hk => ((hi i hl).2.1 k hk).2⟩
    obtain ⟨i, hl, e⟩ := List.mem_iff_getElem.1 hx
    have := hi i hl
    rw [Item, show l.getD i S0 = x by simp [hl, e]] at this
    exact (h1 x hx).2 ⟨this.1, this.2.2⟩
  · rintro ⟨h, ha, hv, hn⟩
    refine ⟨by omega, fun i hl => ?_⟩
    have := (h1 _ (getD_memS hl)).1 (ha _ (getD_memS hl))
    exact ⟨this.1, fun k hk => ⟨hv i hl k hk, hn i hl k hk⟩, this.2⟩
theorem big_none {l : List Seg} : (l.find? bigP).isSome = false ↔ ∀ i, i < l.length → ¬ (16 : Int) < (l.getD i S0).ps.length := by
  rw [Option.isSome_eq_false_iff, Option.isNone_iff_eq_none, List.find?_eq_none]
  constructor
  · intro h i hi hb
    exact h _ (getD_memS hi) (decide_eq_true hb)
  · intro h x hx hb
    obtain ⟨i, hi, e⟩ := List.mem_iff_getElem.1 hx
    exact h i hi (by rw [show l.getD i S0 = x by simp [hi, e]]; exact of_decide_eq_true hb)
theorem big_some {l : List Seg} {i : Nat} (hi : i < l.length) (h : (16 : Int) < (l.getD i S0).ps.length) : (l.find? bigP).isSome = true := by
  rw [← Bool.not_eq_false]
  intro hn
  exact big_none.1 hn i hi h
end Go.Proofs.Ytbmfhakigjgebaa

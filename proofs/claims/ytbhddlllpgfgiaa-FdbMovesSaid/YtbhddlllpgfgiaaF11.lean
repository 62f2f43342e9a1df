/- DERIVED. Layer 11: FdbMoves. No condition. -/
import Derived.Test.YtbhddlllpgfgiaaF9
import Derived.Test.YtbhddlllpgfgiaaOp
namespace Go.Proofs.Ytbhddlllpgfgiaa
open Go.RowKit Go.Sx Go.Proofs.YtbhddlllpgfgiaaTy Go.Proofs.YtbhddlllpgfgiaaOp
set_option linter.unusedVariables false
set_option linter.unusedSimpArgs false
set_option maxRecDepth 100000
attribute [local irreducible] Oper.wp Code.wp wpList wpAnyH Calls bodyPost Exit.then Exit.inBlock Code.rounds
set_option maxHeartbeats 1000000
def k12 : Int := 281474976710658
/-- What a table can be that knows one address. -/
def StM (S : List En) (now : Int) : Prop := S = [] ∨ ∃ n t, S = [⟨k12, valM 0 n, t, false⟩] ∧ (1 ≤ n ∧ n ≤ 4) ∧ (0 ≤ t ∧ t ≤ now)
theorem val_back {k n : Int} (h0 : 0 ≤ n) (h1 : n < 4294967296) : valM k n / 4294967296 = k ∧ valM k n % 4294967296 = n := by
  unfold valM
  omega
theorem put_empty {room life k v now : Int} (ho : 0 ≤ now ∧ now ≤ 1099511627776) (hr : 0 < room) : putT room life [] k v now = (0, [⟨k, v, now, false⟩]) := by
  have : spareE room [] = some [] := by unfold spareE; rw [if_pos (by simpa using hr)]
  simp [putT, okT_in ho, getE, noOld, this, putE]
theorem put_again {room life k v v2 t now : Int} (ho : 0 ≤ now ∧ now ≤ 1099511627776) : putT room life [⟨k, v, t, false⟩] k v2 now = (0, [⟨k, v2, now, false⟩]) := by
  simp [putT, okT_in ho, getE, putE]
theorem get_one {life k v t now : Int} (ho : 0 ≤ now ∧ now ≤ 1099511627776) (h : now - t < life) : getT life [⟨k, v, t, false⟩] k now = (⟨k, v, t, false⟩, true) := by
  have : oldE life now ⟨k, v, t, false⟩ = false := by simp only [oldE, Bool.not_false, Bool.true_and]; exact decide_eq_false (by omega)
  simp [getT, okT_in ho, getE, this]
theorem get_gone {life k v t now : Int} (ho : 0 ≤ now ∧ now ≤ 1099511627776) (h : life ≤ now - t) : getT life [⟨k, v, t, false⟩] k now = (E0, false) := by
  have : oldE life now ⟨k, v, t, false⟩ = true := by simp only [oldE, Bool.not_false, Bool.true_and]; exact decide_eq_true h
  simp [getT, okT_in ho, getE, this]
theorem may12 : mayB 1 2 = true := by kernel_rfl
theorem key12 : keyM 1 2 = k12 := by kernel_rfl
theorem find_one {kp : Kp} {n t now : Int} (ho : 0 ≤ now ∧ now ≤ 1099511627776) (hn : 1 ≤ n ∧ n ≤ 64) : findT kp [⟨k12, valM 0 n, t, false⟩] 1 2 now = if now - t < kp.life then ((0, n), true) else ((0, 0), false) := by
  have hb := val_back (k := 0) (n := n) (by omega) (by omega)
  unfold findT
  rw [may12, key12, if_pos rfl]
  by_cases h : now - t < kp.life
  · rw [get_one ho h, if_pos h]
    simp only [if_true, hb.1, hb.2]
  · rw [get_gone ho (by omega), if_neg h]
    rfl
theorem find_none {kp : Kp} {now : Int} : findT kp [] 1 2 now = ((0, 0), false) := by
  unfold findT
  rw [may12, key12, if_pos rfl]
  rfl
theorem step_m {kp : Kp} {S : List En} {F : Int → List Int} {t0 now to_ : Int} (hk : 1 ≤ kp.room) (hl : 1 ≤ kp.life) (hS : StM S t0) (h0 : t0 ≤ now) (ho : 0 ≤ now ∧ now ≤ 1099511627776) (ht : 1 ≤ to_ ∧ to_ ≤ 4) :
    ∃ (v : Int × Int) (b : Bool) (c : Int) (S2 : List En) (F2 : Int → List Int) (v2 : Int × Int), findT kp S 1 2 now = (v, b) ∧ learnT kp S F 1 2 0 to_ now = (c, S2, F2) ∧ findT kp S2 1 2 now = (v2, true) ∧ StM S2 now ∧
      ((c = 4 ∧ v2 = v ∧ b = true ∧ F2 = F) ∨ (c = 3 ∧ v2 = (0, to_) ∧ b = true ∧ v ≠ (0, to_) ∧ F2 = fadd F k12 now ∧ counts kp.win now (F k12) < kp.moves) ∨ ((c = 1 ∨ c = 2) ∧ v2 = (0, to_) ∧ F2 = F)) := by
  have hta : targetB 0 to_ = true := by simp [targetB]; omega
  have hfo : findT kp [⟨k12, valM 0 to_, now, false⟩] 1 2 now = ((0, to_), true) := by rw [find_one ho (by omega), if_pos (by omega)]
  have hst : StM [⟨k12, valM 0 to_, now, false⟩] now := .inr ⟨to_, now, rfl, ht, by omega⟩
  rcases hS with rfl | ⟨n, t, rfl, hn, htt⟩
  · refine ⟨(0, 0), false, 2, [⟨k12, valM 0 to_, now, false⟩], F, (0, to_), find_none, ?_, hfo, hst, .inr (.inr ⟨.inr rfl, rfl, rfl⟩)⟩
    have hw : whatT kp [] F k12 (valM 0 to_) now = 2 := rfl
    unfold learnT
    rw [may12, hta, key12, put_empty ho (by omega), hw]
    rfl
  · by_cases hold : now - t < kp.life
    · have hf : findT kp [⟨k12, valM 0 n, t, false⟩] 1 2 now = ((0, n), true) := by rw [find_one ho (by omega), if_pos hold]
      have hg : getT kp.life [⟨k12, valM 0 n, t, false⟩] k12 now = (⟨k12, valM 0 n, t, false⟩, true) := get_one ho hold
      have hpa : putT kp.room kp.life [⟨k12, valM 0 n, t, false⟩] k12 (valM 0 to_) now = (0, [⟨k12, valM 0 to_, now, false⟩]) := put_again ho
      by_cases hnt : n = to_
      · subst hnt
        refine ⟨(0, n), true, 1, [⟨k12, valM 0 n, now, false⟩], F, (0, n), hf, ?_, hfo, hst, .inr (.inr ⟨.inl rfl, rfl, rfl⟩)⟩
        have hw : whatT kp [⟨k12, valM 0 n, t, false⟩] F k12 (valM 0 n) now = 1 := by simp [whatT, hg]
        unfold learnT
        rw [may12, hta, key12, hpa, hw]
        rfl
      · have hne : ¬ valM 0 n = valM 0 to_ := by unfold valM; omega
        by_cases hc : kp.moves ≤ counts kp.win now (F k12)
        · refine ⟨(0, n), true, 4, [⟨k12, valM 0 n, t, false⟩], F, (0, n), hf, ?_, hf, .inr ⟨n, t, rfl, hn, by omega⟩, .inl ⟨rfl, rfl, rfl, rfl⟩⟩
          have hw : whatT kp [⟨k12, valM 0 n, t, false⟩] F k12 (valM 0 to_) now = 4 := by simp [whatT, hg, hne, hc]
          unfold learnT
          rw [may12, hta, key12, hw]
          rfl
        · refine ⟨(0, n), true, 3, [⟨k12, valM 0 to_, now, false⟩], fadd F k12 now, (0, to_), hf, ?_, hfo, hst, .inr (.inl ⟨rfl, rfl, rfl, fun h => hnt (Prod.mk.inj h).2, rfl, by omega⟩)⟩
          have hw : whatT kp [⟨k12, valM 0 n, t, false⟩] F k12 (valM 0 to_) now = 3 := by simp [whatT, hg, hne, hc]
          unfold learnT
          rw [may12, hta, key12, hpa, hw]
          rfl
    · have hf : findT kp [⟨k12, valM 0 n, t, false⟩] 1 2 now = ((0, 0), false) := by rw [find_one ho (by omega), if_neg hold]
      have hpa : putT kp.room kp.life [⟨k12, valM 0 n, t, false⟩] k12 (valM 0 to_) now = (0, [⟨k12, valM 0 to_, now, false⟩]) := put_again ho
      refine ⟨(0, 0), false, 2, [⟨k12, valM 0 to_, now, false⟩], F, (0, to_), hf, ?_, hfo, hst, .inr (.inr ⟨.inr rfl, rfl, rfl⟩)⟩
      have hg : getT kp.life [⟨k12, valM 0 n, t, false⟩] k12 now = (E0, false) := get_gone ho (by omega)
      have hw : whatT kp [⟨k12, valM 0 n, t, false⟩] F k12 (valM 0 to_) now = 2 := by simp [whatT, hg]
      unfold learnT
      rw [may12, hta, key12, hpa, hw]
      rfl
/-- Times that rise, at each of which less than so many of those before count. -/
structure Good (kp : Kp) (M : List Int) (now : Int) : Prop where
  up : M.Pairwise (fun x y => x ≤ y)
  rng : ∀ x ∈ M, 0 ≤ x ∧ x ≤ now
  few : ∀ q : Nat, q < M.length → counts kp.win (M.getD q 0) (M.take q) < kp.moves
theorem Good.nil (kp : Kp) : Good kp [] 0 := ⟨List.Pairwise.nil, fun x hx => by simp at hx, fun q hq => by simp at hq⟩
theorem Good.later {kp : Kp} {M : List Int} {now t : Int} (h : Good kp M now) (ht : now ≤ t) : Good kp M t := ⟨h.up, fun x hx => by have := h.rng x hx; omega, h.few⟩
theorem Good.add {kp : Kp} {M : List Int} {now : Int} (h : Good kp M now) (h0 : 0 ≤ now) (hc : counts kp.win now M < kp.moves) : Good kp (M ++ [now]) now := by
  refine ⟨?_, ?_, ?_⟩
  · rw [List.pairwise_append]
    exact ⟨h.up, List.pairwise_singleton _ _, fun x hx y hy => by rw [List.mem_singleton.1 hy]; exact (h.rng x hx).2⟩
  · intro x hx
    rcases List.mem_append.1 hx with hx | hx
    · exact h.rng x hx
    · rw [List.mem_singleton.1 hx]; omega
  · intro q hq
    rw [List.length_append, List.length_singleton] at hq
    by_cases hl : q < M.length
    · have e1 : (M ++ [now]).getD q 0 = M.getD q 0 := by simp [List.getElem?_append_left hl]
      have e2 : (M ++ [now]).take q = M.take q := by rw [List.take_append_of_le_length (by omega)]
      rw [e1, e2]
      exact h.few q hl
    · have hq2 : q = M.length := by omega
      subst hq2
      have e1 : (M ++ [now]).getD M.length 0 = now := by simp
      have e2 : (M ++ [now]).take M.length = M := by rw [List.take_append_of_le_length (by omega), List.take_length]
      rw [e1, e2]
      exact hc
theorem run_le {kp : Kp} {M : List Int} {now : Int} (h : Good kp M now) {i n : Nat} (hi : i + (n + 1) ≤ M.length) (hw : ∀ j, i ≤ j → j < i + (n + 1) → M.getD j 0 - M.getD i 0 < kp.win) : (n : Int) + 1 ≤ kp.moves := by
  have hq : i + n < M.length := by omega
  have h1 := h.few (i + n) hq
  have hup : ∀ a b : Nat, a ≤ b → b < M.length → M.getD a 0 ≤ M.getD b 0 := fun a b hab hb => by
    have ha : a < M.length := by omega
    have e1 : M.getD a 0 = M[a] := by simp [ha]
    have e2 : M.getD b 0 = M[b] := by simp [hb]
    rw [e1, e2]
    rcases Nat.lt_or_ge a b with h2 | h2
    · exact List.pairwise_iff_getElem.1 h.up a b ha hb h2
    · have : a = b := by omega
      subst this
      exact Int.le_refl _
  have hsub : (M.take (i + n)).drop i = ((M.take (i + n)).drop i).filter fun x => !tooOld kp.win (M.getD (i + n) 0) x := by
    symm
    refine List.filter_eq_self.2 fun x hx => ?_
    obtain ⟨j, hj, rfl⟩ := List.getElem_of_mem hx
    rw [List.length_drop, List.length_take] at hj
    rw [List.getElem_drop, List.getElem_take]
    have hlt : i + j < M.length := by omega
    have e1 : M[i + j] = M.getD (i + j) 0 := by simp [hlt]
    have h2 := hup i (i + j) (by omega) hlt
    have h3 := hw (i + n) (by omega) (by omega)
    rw [e1]
    have h4 : ¬ kp.win ≤ M.getD (i + n) 0 - M.getD (i + j) 0 := by omega
    simp only [tooOld, decide_eq_false h4, Bool.not_false]
  have hlen : ((M.take (i + n)).drop i).length = n := by rw [List.length_drop, List.length_take]; omega
  have hcnt : n ≤ ((M.take (i + n)).filter fun x => !tooOld kp.win (M.getD (i + n) 0) x).length := by
    have e := (List.take_append_drop i (M.take (i + n))).symm
    rw [e, List.filter_append, List.length_append, ← hsub, hlen]
    omega
  unfold counts at h1
  omega
theorem StM.later {S : List En} {a b : Int} (h : StM S a) (hb : a ≤ b) : StM S b := by
  rcases h with h | ⟨n, t, h1, h2, h3⟩
  · exact .inl h
  · exact .inr ⟨n, t, h1, h2, by omega⟩
end Go.Proofs.Ytbhddlllpgfgiaa

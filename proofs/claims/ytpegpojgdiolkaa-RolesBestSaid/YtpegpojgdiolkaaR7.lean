/- DERIVED. Plain laws of the root and the roles. No condition. -/
import Derived.Test.YtpegpojgdiolkaaR6
namespace Go.Proofs.Ytpegpojgdiolkaa
open Go.RowKit Go.Sx Go.Proofs.YtpegpojgdiolkaaTy
set_option linter.unusedVariables false
set_option linter.unusedSimpArgs false
theorem cmpV_neg (u v : Vec) : cmpV u v = -cmpV v u := cmp5_neg _ _ _ _ _ _ _ _ _ _
theorem cmpV_zero (u v : Vec) : cmpV u v = 0 ↔ u = v := by
  have := cmp5_zero u.r u.c u.b u.p u.o v.r v.c v.b v.p v.o
  cases u; cases v
  simpa [cmpV] using this
theorem cmpV_tri (u v x : Vec) : Tri (cmpV u v) (cmpV v x) (cmpV u x) := cmp5_tri _ _ _ _ _ _ _ _ _ _ _ _ _ _ _
theorem root_inv (b : Int) (l : List View) : ∀ n : Nat, (0 ≤ (rootTo b l n).2 ∧ (rootTo b l n).2 ≤ n) ∧ ((rootTo b l n).2 = 0 → (rootTo b l n).1 = own b) ∧ ((rootTo b l n).2 ≠ 0 → cmpV (rootTo b l n).1 (own b) < 0 ∧ offers b (l.getD ((rootTo b l n).2 - 1).toNat W0) ∧ (rootTo b l n).1 = wayV (l.getD ((rootTo b l n).2 - 1).toNat W0) (rootTo b l n).2) ∧ cmpV (rootTo b l n).1 (own b) ≤ 0 ∧ ∀ i : Nat, i < n → offers b (l.getD i W0) → cmpV (rootTo b l n).1 (wayV (l.getD i W0) (i + 1)) ≤ 0
  | 0 => by
    refine ⟨⟨by simp [rootTo], by simp [rootTo]⟩, fun _ => rfl, fun h => absurd rfl h, ?_, fun i h => by omega⟩
    exact Int.le_of_eq ((cmpV_zero _ _).2 rfl)
  | n + 1 => by
    obtain ⟨h1, h2, h3, h4, h5⟩ := root_inv b l n
    simp only [rootTo]
    split
    · rename_i hc
      have hz : cmpV (wayV (l.getD n W0) (n + 1)) (wayV (l.getD n W0) (n + 1)) = 0 := (cmpV_zero _ _).2 rfl
      have ht := cmpV_tri (wayV (l.getD n W0) (n + 1)) (rootTo b l n).1 (own b)
      have hn : cmpV (wayV (l.getD n W0) (n + 1)) (own b) < 0 := by unfold Tri at ht; have := hc.2; omega
      refine ⟨⟨by simp only; omega, by simp only; omega⟩, fun h => absurd h (by simp only; omega), fun _ => ⟨hn, ?_, ?_⟩, by simp only; omega, fun i hi ho => ?_⟩
      · simpa using hc.1
      · simp
      · simp only
        by_cases hin : i = n
        · subst hin; omega
        · have h6 := h5 i (by omega) ho
          have ht := cmpV_tri (wayV (l.getD n W0) (n + 1)) (rootTo b l n).1 (wayV (l.getD i W0) (i + 1))
          have := hc.2
          unfold Tri at ht
          omega
    · rename_i hc
      refine ⟨⟨h1.1, by omega⟩, h2, h3, h4, fun i hi ho => ?_⟩
      by_cases hin : i = n
      · subst hin
        have h6 : ¬ cmpV (wayV (l.getD i W0) (i + 1)) (rootTo b l i).1 < 0 := fun h => hc ⟨ho, h⟩
        have h7 := cmpV_neg (wayV (l.getD i W0) (i + 1)) (rootTo b l i).1
        omega
      · exact h5 i (by omega) ho
/-- Who is the root's way: there is but one. -/
theorem root_only (b : Int) (l : List View) (n : Nat) (v : Vec) (k : Int) (hk : k = 0 ∧ v = own b ∨ 1 ≤ k ∧ k ≤ n ∧ offers b (l.getD (k - 1).toNat W0) ∧ v = wayV (l.getD (k - 1).toNat W0) k)
    (h0 : cmpV v (own b) ≤ 0) (h : ∀ i : Nat, i < n → offers b (l.getD i W0) → cmpV v (wayV (l.getD i W0) (i + 1)) ≤ 0) : rootTo b l n = (v, k) := by
  obtain ⟨h1, h2, h3, h4, h5⟩ := root_inv b l n
  have hle : cmpV (rootTo b l n).1 v ≤ 0 := by
    rcases hk with ⟨_, rfl⟩ | ⟨k1, k2, ho, rfl⟩
    · exact h4
    · have := h5 (k - 1).toNat (by omega) ho
      rwa [show ((k - 1).toNat : Int) + 1 = k by omega] at this
  have hge : cmpV v (rootTo b l n).1 ≤ 0 := by
    by_cases hz : (rootTo b l n).2 = 0
    · rw [h2 hz]; exact h0
    · obtain ⟨_, ho, he⟩ := h3 hz
      have := h ((rootTo b l n).2 - 1).toNat (by omega) ho
      rw [show (((rootTo b l n).2 - 1).toNat : Int) + 1 = (rootTo b l n).2 by omega] at this
      rw [he]; exact this
  have heq : (rootTo b l n).1 = v := (cmpV_zero _ _).1 (by have := cmpV_neg (rootTo b l n).1 v; omega)
  have ho1 : (rootTo b l n).1.o = (rootTo b l n).2 := by
    by_cases hz : (rootTo b l n).2 = 0
    · rw [h2 hz, hz]; rfl
    · rw [(h3 hz).2.2]; rfl
  have ho2 : v.o = k := by
    rcases hk with ⟨rfl, rfl⟩ | ⟨_, _, _, rfl⟩ <;> rfl
  ext1
  · exact heq
  · show (rootTo b l n).2 = k
    rw [← ho1, ← ho2, heq]
theorem rolesTo_get (b : Int) (l : List View) : ∀ n i : Nat, i < n → (rolesTo b l n).getD i 0 = roleOf b (rootTo b l l.length).1 (rootTo b l l.length).2 (l.getD i W0) (i + 1)
  | 0, i, h => by omega
  | n + 1, i, h => by
    have hl := rolesTo_len b l n
    simp only [rolesTo]
    by_cases hin : i = n
    · subst hin
      simp [hl]
    · rw [← rolesTo_get b l n i (by omega)]
      simp only [List.getD_eq_getElem?_getD]
      rw [List.getElem?_append_left (by omega)]
theorem role_four {b : Int} {best : Vec} {at_ : Int} {x : View} {port : Int} : roleOf b best at_ x port = 4 ↔ x.up = true ∧ port = at_ := by
  unfold roleOf
  cases x.up <;> by_cases h : port = at_ <;> simp [h]
  repeat' split
  all_goals simp
theorem role_zero {b : Int} {best : Vec} {at_ : Int} {x : View} {port : Int} : roleOf b best at_ x port = 0 ↔ x.up = false := by
  unfold roleOf
  cases x.up <;> by_cases h : port = at_ <;> simp [h]
  repeat' split
  all_goals simp
theorem role_still {b : Int} {best : Vec} {at_ : Int} {x : View} {port : Int} (ht : x.told = false) (h : port ≠ at_) : roleOf b best at_ x port = if x.up = false then 0 else 3 := by
  unfold roleOf
  simp [h, ht]
end Go.Proofs.Ytpegpojgdiolkaa

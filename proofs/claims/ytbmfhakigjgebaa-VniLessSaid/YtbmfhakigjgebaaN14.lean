/- DERIVED. The law VniLess: plain facts. No condition. -/
import Derived.Test.YtbmfhakigjgebaaN13
namespace Go.Proofs.Ytbmfhakigjgebaa
open Go.RowKit Go.Sx Go.Proofs.YtbmfhakigjgebaaTy Go.Proofs.YtbmfhakigjgebaaOp
set_option linter.unusedVariables false
set_option linter.unusedSimpArgs false
set_option maxRecDepth 100000
attribute [local irreducible] Oper.wp Code.wp wpList wpAnyH Calls bodyPost Exit.then Exit.inBlock Code.rounds
set_option maxHeartbeats 2000000
def mk (k : Nat) : Seg := ⟨k + 1, k, none, 0, []⟩
def many (n : Nat) : List Seg := (List.range n).map mk
theorem many_len (n : Nat) : (many n).length = n := by simp [many]
theorem many_succ (n : Nat) : many (n + 1) = many n ++ [mk n] := by simp [many, List.range_succ]
theorem many_mem {n : Nat} {x : Seg} (h : x ∈ many n) : ∃ k, k < n ∧ x = mk k := by
  obtain ⟨k, hk, e⟩ := List.mem_map.1 h
  exact ⟨k, List.mem_range.1 hk, e.symm⟩
theorem many_R {n : Nat} (h : n ≤ 300) (w : World) : ∀ x ∈ many n, SegR w x := fun x hx => by
  obtain ⟨k, hk, rfl⟩ := many_mem hx
  refine ⟨Rd.nil, by show 0 ≤ 1073741824; decide, Nat.le_refl _, fun p hp => by simp [mk] at hp, ?_, ?_⟩
  · simp only [mk, Lit.wf, Bool.and_eq_true, decide_eq_true_eq]
    have h1 : IntKind.i64.min = -9223372036854775808 := by decide
    have h2 : IntKind.i64.max = 9223372036854775807 := by decide
    rw [h1, h2]
    exact ⟨decide_eq_true (by omega), decide_eq_true (by omega)⟩
  · simp only [mk, Lit.wf, Bool.and_eq_true, decide_eq_true_eq]
    have h1 : IntKind.i64.min = -9223372036854775808 := by decide
    have h2 : IntKind.i64.max = 9223372036854775807 := by decide
    rw [h1, h2]
    exact ⟨decide_eq_true (by omega), decide_eq_true (by omega)⟩
theorem nodup_map_of {l : List Nat} {f : Nat → Int} (hf : ∀ a b, f a = f b → a = b) (h : l.Nodup) : (l.map f).Nodup := by
  rw [List.Nodup, List.pairwise_map]
  exact h.imp fun hne e => hne (hf _ _ e)
theorem chk_many : chk 1 (many 256) = 0 := by
  unfold chk
  rw [if_neg, if_pos]
  · refine ⟨by decide, ?_, ?_, ?_⟩
    · rw [List.all_eq_true]
      intro x hx
      obtain ⟨k, hk, rfl⟩ := many_mem hx
      simp [rightB, mk]
      exact ⟨⟨decide_eq_true (by omega), decide_eq_true (by omega)⟩, decide_eq_true (by omega)⟩
    · rw [many, List.map_map]
      exact nodup_map_of (f := Seg.vid ∘ mk) (fun a b h => by simp [mk] at h; omega) List.nodup_range
    · rw [many, List.map_map]
      exact nodup_map_of (f := Seg.vni ∘ mk) (fun a b h => by simp [mk] at h; omega) List.nodup_range
  · rw [many_len]
    rintro (h | h)
    · omega
    · rw [List.find?_isSome] at h
      obtain ⟨x, hx, hb⟩ := h
      obtain ⟨k, hk, rfl⟩ := many_mem hx
      simp [bigP, mk] at hb
theorem chk_many2 : chk 1 (many 257) = 2 := by
  unfold chk
  rw [if_pos (.inl (by rw [many_len]; decide))]
theorem no_big {l : List Seg} (h : (l.find? bigP).isSome = false) : ∀ x ∈ l, ¬ bigP x = true := by
  rw [Option.isSome_eq_false_iff, Option.isNone_iff_eq_none, List.find?_eq_none] at h
  exact h
theorem chk_less {own : Int} {l m : List Seg} (h : chk own l = 0) (hs : m.Sublist l) : chk own m = 0 := by
  obtain ⟨h1, h2, h3, h4, h5, h6⟩ := chk_zero h
  unfold chk
  rw [if_neg, if_pos]
  · refine ⟨h1, ?_, h3.sublist (hs.map _), h4.sublist (hs.map _)⟩
    rw [List.all_eq_true] at h2 ⊢
    exact fun x hx => h2 x (hs.subset hx)
  · have := hs.length_le
    rintro (h | h)
    · omega
    · rw [List.find?_isSome] at h
      obtain ⟨x, hx, hb⟩ := h
      exact no_big h6 x (hs.subset hx) hb
theorem chk_more {own : Int} {l : List Seg} {x : Seg} (h : chk own l = 0) (hx : x ∈ l) (hl : l.length ≤ 12) : chk own (l ++ [x]) = 210 := by
  obtain ⟨h1, h2, h3, h4, h5, h6⟩ := chk_zero h
  unfold chk
  rw [if_neg, if_neg]
  · rintro ⟨_, _, hv, _⟩
    rw [List.map_append, List.nodup_append] at hv
    exact hv.2.2 x.vid (List.mem_map_of_mem hx) x.vid (by simp) rfl
  · rw [List.length_append, List.length_singleton]
    rintro (h | h)
    · omega
    · rw [List.find?_isSome] at h
      obtain ⟨y, hy, hb⟩ := h
      rcases List.mem_append.1 hy with hy | hy
      · exact no_big h6 y hy hb
      · simp only [List.mem_singleton] at hy
        subst hy
        exact no_big h6 y hx hb
end Go.Proofs.Ytbmfhakigjgebaa

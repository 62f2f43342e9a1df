/- DERIVED. Layer 10: forms of the contracts with values. No condition. -/
import Derived.Test.YtbhddlllpgfgiaaA13
namespace Go.Proofs.Ytbhddlllpgfgiaa
open Go.RowKit Go.Sx Go.Proofs.YtbhddlllpgfgiaaTy
set_option linter.unusedVariables false
set_option linter.unusedSimpArgs false
set_option maxRecDepth 100000
attribute [local irreducible] Oper.wp Code.wp wpList wpAnyH Calls bodyPost Exit.then Exit.inBlock Code.rounds
set_option maxHeartbeats 1000000
theorem inv_dec {room : Int} {l : List En} (h1 : l.Pairwise fun x y => x.k < y.k) (h2 : ∀ x ∈ l, 0 ≤ x.t ∧ x.t ≤ 1099511627776) (h3 : (l.length : Int) ≤ room) : Inv room l := ⟨h1, h2, h3⟩
deriving instance DecidableEq for En
theorem put_v (g : Nat) (l l2 : List En) (c room life k v now : Int) (u0 w0 : World) (L : List Asn) (h : putT room life l k v now = (c, l2)) (hI : Inv room l) (hS0 : Sep u0 w0 (Ag g l room life :: L)) (hr : 1 ≤ room ∧ room ≤ 4096) : Calls Try.prog 31 #[.pointer (some ⟨g, 0, none⟩), .int .u64 k, .int .u64 v, .int .i64 now] w0 fun e w' => ∃ r, e = .returned r ∧ r = .int .i64 c ∧ Sep u0 w' (Ag g l2 room life :: L) := by
  have := put_s g l room life k v now u0 w0 L hS0 hr hI
  rw [h] at this
  exact this
theorem fix_v (g : Nat) (l l2 : List En) (c room life k v : Int) (u0 w0 : World) (L : List Asn) (h : fixT room l k v = (c, l2)) (hI : Inv room l) (hS0 : Sep u0 w0 (Ag g l room life :: L)) (hr : 1 ≤ room ∧ room ≤ 4096) : Calls Try.prog 35 #[.pointer (some ⟨g, 0, none⟩), .int .u64 k, .int .u64 v] w0 fun e w' => ∃ r, e = .returned r ∧ r = .int .i64 c ∧ Sep u0 w' (Ag g l2 room life :: L) := by
  have := fix_s g l room life k v u0 w0 L hS0 hr hI
  rw [h] at this
  exact this
theorem get_v (g : Nat) (l : List En) (x : En) (b : Bool) (room life k now : Int) (u0 w0 : World) (L : List Asn) (h : getT life l k now = (x, b)) (hI : Inv room l) (hS0 : Sep u0 w0 (Ag g l room life :: L)) (hr : 1 ≤ room ∧ room ≤ 4096) : Calls Try.prog 26 #[.pointer (some ⟨g, 0, none⟩), .int .u64 k, .int .i64 now] w0 fun e w' => ∃ r, e = .returned r ∧ r = .tuple #[.agg x.cells.toArray, .bool b] ∧ Sep u0 w' (Ag g l room life :: L) := by
  have := get_s g l room life k now u0 w0 L hS0 hr hI
  rw [h] at this
  exact this
theorem drop_v (g : Nat) (l l2 : List En) (b : Bool) (room life k : Int) (u0 w0 : World) (L : List Asn) (h : noKey k l = l2) (hb : decide (0 < (l.length : Int) - l2.length) = b) (hl : l.length ≤ 1073741823) (hS0 : Sep u0 w0 (Ag g l room life :: L)) : Calls Try.prog 37 #[.pointer (some ⟨g, 0, none⟩), .int .u64 k] w0 fun e w' => ∃ r, e = .returned r ∧ r = .bool b ∧ Sep u0 w' (Ag g l2 room life :: L) := by
  have := drop_s g l room life k u0 w0 L hS0 hl
  rw [h, hb] at this
  exact this
theorem okT_in {now : Int} (h : 0 ≤ now ∧ now ≤ 1099511627776) : okT now = true := decide_eq_true h
theorem inv_nil {room : Int} (h : 0 ≤ room) : Inv room [] := ⟨List.Pairwise.nil, fun x hx => by simp at hx, by simpa using h⟩
theorem inv_one {room : Int} {x : En} (h : 1 ≤ room) (ht : 0 ≤ x.t ∧ x.t ≤ 1099511627776) : Inv room [x] := ⟨List.pairwise_singleton _ _, fun y hy => by rw [List.mem_singleton.1 hy]; exact ht, by simpa using h⟩
theorem expire_v (g : Nat) (l l2 : List En) (room life now n : Int) (u0 w0 : World) (L : List Asn) (hok : 0 ≤ now ∧ now ≤ 1099511627776) (h : noOld life now l = l2) (hn : (l.length : Int) - l2.length = n) (hl : l.length ≤ 1073741823) (ht : Times l) (hS0 : Sep u0 w0 (Ag g l room life :: L)) : Calls Try.prog 36 #[.pointer (some ⟨g, 0, none⟩), .int .i64 now] w0 fun e w' => ∃ r, e = .returned r ∧ r = .int .i64 n ∧ Sep u0 w' (Ag g l2 room life :: L) := by
  have := expire_s g l room life now u0 w0 L hS0 hl ht
  rw [okT_in hok, h, if_pos rfl, if_pos rfl, hn] at this
  exact this
theorem new_k (room life : Int) (h : 1 ≤ room ∧ room ≤ 4096 ∧ 1 ≤ life ∧ life ≤ 1099511627776) (w0 : World) : Calls Try.prog 21 #[.int .i64 room, .int .i64 life] w0 fun e w' => ∃ r, e = .returned r ∧ ∃ g, r = .tuple #[.pointer (some ⟨g, 0, none⟩), .int .i64 0] ∧ Sep w0 w' [Ag g [] room life] :=
  (new_s room life w0).mono fun e w' ⟨r, hr, hh⟩ => by
    rcases hh with ⟨hn, _⟩ | ⟨_, g, h1, h2⟩
    · exact absurd h hn
    · exact ⟨r, hr, g, h1, h2⟩
theorem new_n (room life : Int) (h : ¬ (1 ≤ room ∧ room ≤ 4096 ∧ 1 ≤ life ∧ life ≤ 1099511627776)) (w0 : World) : Calls Try.prog 21 #[.int .i64 room, .int .i64 life] w0 fun e w' => ∃ r, e = .returned r ∧ r = .tuple #[.pointer none, .int .i64 1] ∧ Sep w0 w' [] :=
  (new_s room life w0).mono fun e w' ⟨r, hr, hh⟩ => by
    rcases hh with ⟨_, h1, h2⟩ | ⟨hk, _⟩
    · exact ⟨r, hr, h1, h2⟩
    · exact absurd hk h
end Go.Proofs.Ytbhddlllpgfgiaa

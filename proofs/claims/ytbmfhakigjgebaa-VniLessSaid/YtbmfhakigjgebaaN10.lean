/- DERIVED. The law VniTells. No condition. -/
import Derived.Test.YtbmfhakigjgebaaN9
import Derived.Test.YtbmfhakigjgebaaOp
namespace Go.Proofs.Ytbmfhakigjgebaa
open Go.RowKit Go.Sx Go.Proofs.YtbmfhakigjgebaaTy Go.Proofs.YtbmfhakigjgebaaOp
set_option linter.unusedVariables false
set_option linter.unusedSimpArgs false
set_option maxRecDepth 100000
attribute [local irreducible] Oper.wp Code.wp wpList wpAnyH Calls bodyPost Exit.then Exit.inBlock Code.rounds
set_option maxHeartbeats 1000000
def toldS (l : List Seg) (p : Seg → Bool) : Seg := (l.find? p).getD S0
def toldB (l : List Seg) (p : Seg → Bool) : Bool := (l.find? p).isSome
theorem S0_R (w : World) : SegR w S0 := ⟨Rd.nil, by decide, by decide, fun p h => by simp [S0] at h, rfl, rfl⟩
theorem toldS_R {l : List Seg} {p : Seg → Bool} {w : World} (hX : ∀ x ∈ l, SegR w x) : SegR w (toldS l p) := by
  unfold toldS
  cases h : l.find? p with
  | none => exact S0_R w
  | some x => exact hX x (find_mem h)
theorem Told.both {l : List Seg} {p : Seg → Bool} {w0 w' : World} {r : Value} (h : Told l p w0 w' r) : ∃ A' c', r = .tuple #[.agg #[.int .i64 (toldS l p).vid, .int .i64 (toldS l p).vni, .slice A' (toldS l p).ps.length c'], .bool (toldB l p)] ∧ Sep w0 w' [row 22 1 (.slice A' (toldS l p).ps.length c') (toldS l p).ps.length ((toldS l p).ps.flatMap (kn .u32))] := by
  unfold toldS toldB
  rcases h with ⟨y, A', c', h1, h2, h3⟩ | ⟨h1, h2, h3⟩
  · rw [h1]
    exact ⟨A', c', h2, h3⟩
  · rw [h1]
    exact ⟨none, 0, h2, h3.nil_row⟩
theorem RefTold.both {l : List Seg} {p : Seg → Bool} {r : Value} (h : RefTold l p r) : r = .tuple #[.agg #[.int .i64 (toldS l p).vid, .int .i64 (toldS l p).vni, .slice (toldS l p).A (toldS l p).ps.length (toldS l p).c], .bool (toldB l p)] := by
  unfold toldS toldB
  rcases h with ⟨y, h1, h2⟩ | ⟨h1, h2⟩
  · rw [h1]
    exact h2
  · rw [h1]
    exact h2
theorem of_u (A : Option Addr) (c n : Nat) (l : List Seg) (v : Int) (y : Seg) (b : Bool) (w0 : World) (hn : n = l.length) (hy : toldS l (isVid v) = y) (hb : toldB l (isVid v) = b) (hR : Rd w0 A (l.flatMap Seg.cells)) (hX : ∀ x ∈ l, SegR w0 x) (hl : l.length ≤ 9223372036854775806) : Calls Try.prog 8 #[.slice A n c, .int .i64 v] w0 fun e w' => ∃ r, e = .returned r ∧ ∃ A' c', r = .tuple #[.agg #[.int .i64 y.vid, .int .i64 y.vni, .slice A' y.ps.length c'], .bool b] ∧ Sep w0 w' [row 22 1 (.slice A' y.ps.length c') y.ps.length (y.ps.flatMap (kn .u32))] := by
  subst hn hy hb
  exact (of_s A c l v w0 hR hX hl).mono fun e w' ⟨r, h1, h2⟩ => ⟨r, h1, h2.both⟩
theorem by_u (A : Option Addr) (c n : Nat) (l : List Seg) (v : Int) (y : Seg) (b : Bool) (w0 : World) (hn : n = l.length) (hy : toldS l (isVni v) = y) (hb : toldB l (isVni v) = b) (hR : Rd w0 A (l.flatMap Seg.cells)) (hX : ∀ x ∈ l, SegR w0 x) (hl : l.length ≤ 9223372036854775806) : Calls Try.prog 10 #[.slice A n c, .int .i64 v] w0 fun e w' => ∃ r, e = .returned r ∧ ∃ A' c', r = .tuple #[.agg #[.int .i64 y.vid, .int .i64 y.vni, .slice A' y.ps.length c'], .bool b] ∧ Sep w0 w' [row 22 1 (.slice A' y.ps.length c') y.ps.length (y.ps.flatMap (kn .u32))] := by
  subst hn hy hb
  exact (by_s A c l v w0 hR hX hl).mono fun e w' ⟨r, h1, h2⟩ => ⟨r, h1, h2.both⟩
theorem refof_u (A : Option Addr) (c n : Nat) (l : List Seg) (v : Int) (y : Seg) (b : Bool) (w0 : World) (hn : n = l.length) (hy : toldS l (isVid v) = y) (hb : toldB l (isVid v) = b) (hR : Rd w0 A (l.flatMap Seg.cells)) (hX : ∀ x ∈ l, SegR w0 x) (hl : l.length ≤ 9223372036854775806) : Calls Try.prog 9 #[.slice A n c, .int .i64 v] w0 fun e w' => ∃ r, e = .returned r ∧ r = .tuple #[.agg #[.int .i64 y.vid, .int .i64 y.vni, .slice y.A y.ps.length y.c], .bool b] ∧ Sep w0 w' [] := by
  subst hn hy hb
  exact (refof_s A c l v w0 hR hl).mono fun e w' ⟨r, h1, h2, h3⟩ => ⟨r, h1, h2.both, h3⟩
theorem refby_u (A : Option Addr) (c n : Nat) (l : List Seg) (v : Int) (y : Seg) (b : Bool) (w0 : World) (hn : n = l.length) (hy : toldS l (isVni v) = y) (hb : toldB l (isVni v) = b) (hR : Rd w0 A (l.flatMap Seg.cells)) (hX : ∀ x ∈ l, SegR w0 x) (hl : l.length ≤ 9223372036854775806) : Calls Try.prog 11 #[.slice A n c, .int .i64 v] w0 fun e w' => ∃ r, e = .returned r ∧ r = .tuple #[.agg #[.int .i64 y.vid, .int .i64 y.vni, .slice y.A y.ps.length y.c], .bool b] ∧ Sep w0 w' [] := by
  subst hn hy hb
  exact (refby_s A c l v w0 hR hl).mono fun e w' ⟨r, h1, h2, h3⟩ => ⟨r, h1, h2.both, h3⟩
theorem refpeer_v (A : Option Addr) (c n : Nat) (l : List Seg) (v u : Int) (r0 : Bool) (w0 : World) (hn : n = l.length) (hr : peerOf l v u = r0) (hR : Rd w0 A (l.flatMap Seg.cells)) (hX : ∀ x ∈ l, SegR w0 x) (hl : l.length ≤ 9223372036854775806) : Calls Try.prog 14 #[.slice A n c, .int .i64 v, .int .u32 u] w0 fun e w' => ∃ r, e = .returned r ∧ r = .bool r0 ∧ Sep w0 w' [] := by
  subst hn hr
  exact refpeer_s A c l v u w0 hR hX hl
theorem refcheck_v (own : Int) (A : Option Addr) (c n : Nat) (l : List Seg) (r0 : Int) (w0 : World) (how : 0 ≤ own) (hn : n = l.length) (hr : chk own l = r0) (hR : Rd w0 A (l.flatMap Seg.cells)) (hX : ∀ x ∈ l, SegR w0 x) (hl : l.length ≤ 9223372036854775806) : Calls Try.prog 16 #[.int .u32 own, .slice A n c] w0 fun e w' => ∃ r, e = .returned r ∧ r = .int .i64 r0 ∧ Sep w0 w' [] := by
  subst hn hr
  exact refcheck_s own A c l w0 how hR hX hl
theorem same_y (y : Seg) (A B : Option Addr) (c c2 : Nat) (w0 : World) (hR : Rd w0 A (y.ps.flatMap (kn .u32))) (hR2 : Rd w0 B (y.ps.flatMap (kn .u32))) (hl : y.ps.length ≤ 9223372036854775806) :
    Calls Try.prog 12 #[.agg #[.int .i64 y.vid, .int .i64 y.vni, .slice A y.ps.length c], .agg #[.int .i64 y.vid, .int .i64 y.vni, .slice B y.ps.length c2]] w0 fun e w' => ∃ r, e = .returned r ∧ r = .bool true ∧ Sep w0 w' [] := by
  have := same_s y.vid y.vni y.vid y.vni A B c c2 y.ps y.ps w0 hR hR2 hl hl
  rw [decide_eq_true ⟨rfl, rfl, rfl⟩] at this
  exact this
end Go.Proofs.Ytbmfhakigjgebaa

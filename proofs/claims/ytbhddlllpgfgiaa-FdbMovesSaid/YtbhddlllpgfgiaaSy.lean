/- DERIVED. Slices of slices, cut rows, copy, cap, a slice held against nil. No condition. -/
import Derived.Test.YtbhddlllpgfgiaaSw
namespace Go.Sx
open Go.RowKit
set_option linter.unusedVariables false
set_option linter.unusedSimpArgs false
/-- Where a slice of a slice begins. -/
def subA (A : Option Addr) (q cap sz : Nat) : Option Addr := if cap = q then A else A.map (·.add (q * sz))
section
variable {P : Program} {w w0 : World} {L L' : List Asn}
theorem subA_zero (A : Option Addr) (cap sz : Nat) : subA A 0 cap sz = A := by
  unfold subA
  split
  · rfl
  · cases A <;> simp [Addr.add]
theorem Rd.sub {A : Option Addr} {xs : List Value} {n cap sz : Nat} (h : Rd w A xs) (hl : xs.length = n * sz) (q : Nat) (hq : q ≤ n) (hn : n ≤ cap) : Rd w (subA A q cap sz) (xs.drop (q * sz)) := by
  unfold subA
  split
  · have : xs.drop (q * sz) = [] := List.drop_eq_nil_of_le (by rw [hl, show n = q by omega]; exact Nat.le_refl _)
    rw [this]; exact Rd.nil
  · intro j u hj
    rw [List.getElem?_drop] at hj
    obtain ⟨a, rfl, hc⟩ := h _ _ hj
    exact ⟨_, rfl, by rw [Addr.add_add]; exact hc⟩
theorem oRow.cut {base : Nat} {e : TypeId} {sz n c : Nat} {A : Option Addr} {xs : List Value} (h : oRow w base e sz (.slice A n c) n xs) {k k' : Nat} (hkn : k ≤ n) (hkk : k ≤ k') (hkc : k' ≤ c) : oRow w base e sz (.slice A k k') k (xs.take (k * sz)) := by
  have hle : k * sz ≤ n * sz := Nat.mul_le_mul_right _ hkn
  refine ⟨by rw [List.length_take, h.1, Nat.min_eq_left hle], ?_⟩
  rcases h.2 with ⟨hv, hn⟩ | ⟨g, cap, cur, hv, hb, hg, hnc, hcm, hcs, ht⟩
  · cases hv
    exact .inl ⟨by rw [show k = 0 by omega, show k' = 0 by omega], by omega⟩
  · cases hv
    exact .inr ⟨g, k', cur, rfl, hb, hg, hkk, by omega, Nat.le_trans (Nat.mul_le_mul_right _ hkc) hcs, by rw [← ht, List.take_take, Nat.min_eq_left hle]⟩
/-- An owned row, cut. -/
theorem Sep.row_cut {e : TypeId} {sz n c : Nat} {A : Option Addr} {xs : List Value} (hS : Sep w0 w L) (k k' : Nat) (hkn : k ≤ n) (hkk : k ≤ k') (hkc : k' ≤ c) (hp : Pull (row e sz (.slice A n c) n xs) L L' := by repeat (first | exact Pull.here | apply Pull.there)) : Sep w0 w (row e sz (.slice A k k') k (xs.take (k * sz)) :: L') := by
  have h := hS.pull hp
  obtain ⟨F, ⟨F1, F2, hF, hd, ⟨hA, hA2⟩, hL⟩, hr⟩ := h.own
  refine ⟨h.below, F, ⟨F1, F2, hF, hd, ⟨hA.cut hkn hkk hkc, fun q => ?_⟩, hL⟩, hr⟩
  rw [hA2 q]
  cases A <;> rfl
theorem Sep.row_cap {e : TypeId} {sz n c : Nat} {A : Option Addr} {xs : List Value} (hS : Sep w0 w L) (hp : Pull (row e sz (.slice A n c) n xs) L L' := by repeat (first | exact Pull.here | apply Pull.there)) : n ≤ c ∧ c ≤ maxLen ∧ xs.length = n * sz := by
  have h := hS.row_at hp
  rcases h.2 with ⟨hv, hn⟩ | ⟨g, cap, cur, hv, hb, hg, hnc, hcm, hcs, ht⟩
  · cases hv; exact ⟨Nat.le_refl _, Nat.zero_le _, h.1⟩
  · cases hv; exact ⟨hnc, hcm, h.1⟩
end
section
variable {P : Program} {o : Oper} {a : Act} {w w0 : World} {Q : Exit → Act → World → Prop} {n : Nat} {env : List (Nat × Value)} {L L' : List Asn} {K : Act → World → Prop}
/-- x[l:]. -/
theorem qsL {t e : TypeId} {sz : Nat} {x y : Operand} {A : Option Addr} {len cap : Nat} {kd : IntKind} {l : Int} (q : Nat) {d : Tmp} (hE : Env a n env) (k : ∀ a', Env a' n ((d, .slice (subA A q cap sz) (len - q) (cap - q)) :: env) → K a' w)
    (ho : o.op = .slice t x (some y) none none := by exact rfl) (T : SliceTy P t e sz := by infer_instance) (hx : opv env x = some (.slice A len cap) := by exact rfl) (hy : opv env y = some (.int kd l) := by exact rfl) (hq : l = (q : Int) := by omega) (hc : q ≤ len := by omega) (hd : o.dst = some d := by exact rfl) (hlt : Nat.blt d n = true := by exact rfl) : o.wp P a w K Q := by
  subst hq
  obtain ⟨i, hi, hs⟩ := info_of T.h2
  have e1 := T.h1
  have he : P.elem t = e := by simp [Program.elem, e1]
  have hsi : (sizeOf (P.elem t)).run P w = .ok i.size w := by rw [he]; simp [sizeOf, typeInfo, hi]
  have hr := run_slice_l (P := P) w t A len cap (elem_of T.h1) kd (q : Int) (by omega) (by omega)
  unfold Oper.wp execOp
  simp only [ho, Option.map_some, Option.map_none, hE.eval hx, hE.eval hy]
  simp only [Sem.run_bind, hr, hsi, hs, Result.andThen_ok, sliced, Int.toNat_natCast, Sem.run_pure, run_sliceAt_slice w t _ _ _ _ (elem_of T.h1)]
  exact k _ (hE.putS _ hd hlt)
/-- x[l:h]. -/
theorem qsLH {t e : TypeId} {sz : Nat} {x y z : Operand} {A : Option Addr} {len cap : Nat} {kd kd' : IntKind} {l h : Int} (q m : Nat) {d : Tmp} (hE : Env a n env) (k : ∀ a', Env a' n ((d, .slice (subA A q cap sz) (m - q) (cap - q)) :: env) → K a' w)
    (ho : o.op = .slice t x (some y) (some z) none := by exact rfl) (T : SliceTy P t e sz := by infer_instance) (hx : opv env x = some (.slice A len cap) := by exact rfl) (hy : opv env y = some (.int kd l) := by exact rfl) (hz : opv env z = some (.int kd' h) := by exact rfl) (hq : l = (q : Int) := by omega) (hm : h = (m : Int) := by omega) (hc : q ≤ m := by omega) (hc2 : m ≤ cap := by omega) (hd : o.dst = some d := by exact rfl) (hlt : Nat.blt d n = true := by exact rfl) : o.wp P a w K Q := by
  subst hq hm
  obtain ⟨i, hi, hs⟩ := info_of T.h2
  have e1 := T.h1
  have he : P.elem t = e := by simp [Program.elem, e1]
  have hsi : (sizeOf (P.elem t)).run P w = .ok i.size w := by rw [he]; simp [sizeOf, typeInfo, hi]
  have hr := run_slice_lh (P := P) w t A len cap (elem_of T.h1) kd kd' (q : Int) (m : Int) (by omega) (by omega) (by omega)
  unfold Oper.wp execOp
  simp only [ho, Option.map_some, Option.map_none, hE.eval hx, hE.eval hy, hE.eval hz]
  simp only [Sem.run_bind, hr, hsi, hs, Result.andThen_ok, sliced, Int.toNat_natCast, Sem.run_pure, run_sliceAt_slice w t _ _ _ _ (elem_of T.h1)]
  exact k _ (hE.putS _ hd hlt)
/-- x[l:h:m]. -/
theorem qsLHM {t e : TypeId} {sz : Nat} {x y z u : Operand} {A : Option Addr} {len cap : Nat} {kd kd' kd2 : IntKind} {l h m : Int} (q r s : Nat) {d : Tmp} (hE : Env a n env) (k : ∀ a', Env a' n ((d, .slice (subA A q s sz) (r - q) (s - q)) :: env) → K a' w)
    (ho : o.op = .slice t x (some y) (some z) (some u) := by exact rfl) (T : SliceTy P t e sz := by infer_instance) (hx : opv env x = some (.slice A len cap) := by exact rfl) (hy : opv env y = some (.int kd l) := by exact rfl) (hz : opv env z = some (.int kd' h) := by exact rfl) (hu : opv env u = some (.int kd2 m) := by exact rfl) (hq : l = (q : Int) := by omega) (hm : h = (r : Int) := by omega) (hs : m = (s : Int) := by omega) (hc : q ≤ r := by omega) (hc1 : r ≤ s := by omega) (hc2 : s ≤ cap := by omega) (hd : o.dst = some d := by exact rfl) (hlt : Nat.blt d n = true := by exact rfl) : o.wp P a w K Q := by
  subst hq hm hs
  obtain ⟨i, hi, hs⟩ := info_of T.h2
  have e1 := T.h1
  have he : P.elem t = e := by simp [Program.elem, e1]
  have hsi : (sizeOf (P.elem t)).run P w = .ok i.size w := by rw [he]; simp [sizeOf, typeInfo, hi]
  have hr := run_slice_lhm (P := P) w t A len cap (elem_of T.h1) kd kd' kd2 (q : Int) (r : Int) (s : Int) (by omega) (by omega) (by omega) (by omega)
  unfold Oper.wp execOp
  simp only [ho, Option.map_some, Option.map_none, hE.eval hx, hE.eval hy, hE.eval hz, hE.eval hu]
  simp only [Sem.run_bind, hr, hsi, hs, Result.andThen_ok, sliced, Int.toNat_natCast, Sem.run_pure, run_sliceAt_slice w t _ _ _ _ (elem_of T.h1)]
  exact k _ (hE.putS _ hd hlt)
/-- x[:h:m]. -/
theorem qsHM {t e : TypeId} {sz : Nat} {x y z : Operand} {A : Option Addr} {len cap : Nat} {kd kd' : IntKind} {h m : Int} (q r : Nat) {d : Tmp} (hE : Env a n env) (k : ∀ a', Env a' n ((d, .slice A q r) :: env) → K a' w)
    (ho : o.op = .slice t x none (some y) (some z) := by exact rfl) (T : SliceTy P t e sz := by infer_instance) (hx : opv env x = some (.slice A len cap) := by exact rfl) (hy : opv env y = some (.int kd h) := by exact rfl) (hz : opv env z = some (.int kd' m) := by exact rfl) (hq : h = (q : Int) := by omega) (hm : m = (r : Int) := by omega) (hc : q ≤ r := by omega) (hc2 : r ≤ cap := by omega) (hd : o.dst = some d := by exact rfl) (hlt : Nat.blt d n = true := by exact rfl) : o.wp P a w K Q := by
  subst hq hm
  obtain ⟨i, hi, hs⟩ := info_of T.h2
  have e1 := T.h1
  have he : P.elem t = e := by simp [Program.elem, e1]
  have hsi : (sizeOf (P.elem t)).run P w = .ok i.size w := by rw [he]; simp [sizeOf, typeInfo, hi]
  have hr := run_slice_hm (P := P) w t A len cap (elem_of T.h1) kd kd' (q : Int) (r : Int) (by omega) (by omega) (by omega)
  have e2 : (if r = 0 then A else A.map fun b => b.add (0 * i.size)) = A := by cases A <;> simp [Addr.add]
  unfold Oper.wp execOp
  simp only [ho, Option.map_some, Option.map_none, hE.eval hx, hE.eval hy, hE.eval hz]
  simp only [Sem.run_bind, hr, hsi, Result.andThen_ok, sliced, e2, Nat.sub_zero, Int.toNat_natCast, Sem.run_pure, run_sliceAt_slice w t _ _ _ _ (elem_of T.h1)]
  exact k _ (hE.putS _ hd hlt)
/-- cap. -/
theorem qcap {t : TypeId} {x : Operand} {ad : Option Addr} {len cap : Nat} {e sz : Nat} {d : Tmp} (hE : Env a n env) (k : ∀ a', Env a' n ((d, .int .i64 cap) :: env) → K a' w) (ho : o.op = .call { callee := .builtin .cap, args := #[x], argTypes := #[t] } := by exact rfl) (T : SliceTy P t e sz := by infer_instance) (hx : opv env x = some (.slice ad len cap) := by exact rfl) (hd : o.dst = some d := by exact rfl) (hlt : Nat.blt d n = true := by exact rfl) : o.wp P a w K Q := by
  have e1 := T.h1
  unfold Oper.wp execOp
  simp only [ho, resolve, invoke, builtin, Sem.run_bind, Sem.run_pure, Result.andThen_ok, List.map_toArray, List.map_cons, List.map_nil, hE.eval hx]
  have hr : (Builtin.cap_ #[t] o.type #[.slice ad len cap]).run P w = .ok (.int .i64 cap) w := by simp [Builtin.cap_, run_underlying e1, goInt]
  rw [hr]
  exact k _ (hE.putS _ hd hlt)
/-- A slice held against nil. -/
theorem qnil {t t' : TypeId} {x y : Operand} {A : Option Addr} {len cap c1 c2 : Nat} {e sz : Nat} {d : Tmp} (hE : Env a n env) (k : ∀ a', Env a' n ((d, .bool A.isNone) :: env) → K a' w) (ho : o.op = .binOp .eql t x y t' := by exact rfl) (T : SliceTy P t e sz := by infer_instance) (hx : opv env x = some (.slice A len cap) := by exact rfl) (hy : opv env y = some (.slice none c1 c2) := by exact rfl) (hd : o.dst = some d := by exact rfl) (hlt : Nat.blt d n = true := by exact rfl) : o.wp P a w K Q := by
  have e1 := T.h1
  refine o_val hE ?_ hd hlt k
  simp only [execOp, ho, hE.eval hx, hE.eval hy]
  have hd' : Op.maxDepth = 9999 + 1 := rfl
  have hq : (Op.equalIn Op.maxDepth t (.slice A len cap) (.slice none c1 c2)).run P w = .ok A.isNone w := by
    rw [hd']
    unfold Op.equalIn
    cases A <;> simp [run_underlying e1]
  cases A <;> simp [eqGuard, binOp, Op.equal, hq]
/-- append, to a part of an owned row. -/
theorem qapc {s x : Operand} {t e : TypeId} {sz k k' q c m c2 N : Nat} {A B : Option Addr} {xs news ys : List Value} {d : Tmp} (hE : Env a n env) (hS : Sep w0 w L) (hnews : Rd w B news) (h1 : ∀ u ∈ news, u.oneCell' = true)
    (kk : ∀ A' c' a' w', Env a' n ((d, .slice A' N c') :: env) → Sep w0 w' (row e sz (.slice A' N c') N ys :: L') → K a' w')
    (ho : o.op = .call { callee := .builtin .append, args := #[s, x], argTypes := #[t, t] } := by exact rfl) (T : AppTy P t e sz := by infer_instance) (hs : opv env s = some (.slice A k k') := by exact rfl) (hx : opv env x = some (.slice B m c2) := by exact rfl)
    (hp : Pull (row e sz (.slice A q c) q xs) L L' := by repeat (first | exact Pull.here | apply Pull.there)) (hkn : k ≤ q := by omega) (hkk : k ≤ k' := by omega) (hkc : k' ≤ c := by omega)
    (hl : news.length = m * sz := by first | rfl | (simp [ints]; done) | (simp [ints]; omega)) (hN : k + m = N := by omega) (hb : N ≤ 1073741824 := by omega)
    (hY : xs.take (k * sz) ++ news = ys := by exact rfl) (hd : o.dst = some d := by exact rfl) (hlt : Nat.blt d n = true := by exact rfl) : o.wp P a w K Q :=
  qap hE (hS.row_cut k k' hkn hkk hkc hp) hnews h1 kk ho T hs hx Pull.here hl hN hb hY hd hlt
end
end Go.Sx

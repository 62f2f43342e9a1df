/- DERIVED. append, slices of slices and of strings, min, max. No condition. -/
import Derived.Test.YtbhddlllpgfgiaaSr
namespace Go.Sx
open Go.RowKit
set_option linter.unusedVariables false
set_option linter.unusedSimpArgs false
class AppTy (P : Program) (t : TypeId) (e : outParam TypeId) (sz : outParam Nat) : Prop where
  h1 : P.underlying t = some (.slice e)
  h2 : (P.info? e).map (fun i => (i.zero.map (fun z => z.cells.size), i.size, Nat.ble i.bytes 4096)) = some (some sz, sz, true)
  h3 : sz ≠ 0
section
variable {P : Program} {w w0 : World}
/-- What is appended to an owned row: the row that comes of it is the same block or a new one. -/
theorem run_app5 {t ty e : TypeId} {sz : Nat} [T : AppTy P t e sz] {v : Value} {n : Nat} {xs : List Value} (hown : oRow w 0 e sz v n xs) {B : Option Addr} {m c : Nat} {news : List Value} (hl : news.length = m * sz) (hnews : Rd w B news) (h1 : ∀ u ∈ news, u.oneCell' = true) (hb : n + m ≤ 1073741824) :
    ∃ A' c' w', (Builtin.append_ #[t, t] ty #[v, .slice B m c]).run P w = .ok (.slice A' (n + m) c') w' ∧ oRow w' 0 e sz (.slice A' (n + m) c') (n + m) (xs ++ news) ∧ w.grownBy w' v.ownBlock ∧
      ((Value.slice A' (n + m) c').ownBlock = none ∨ (Value.slice A' (n + m) c').ownBlock = v.ownBlock ∨ ∃ b, (Value.slice A' (n + m) c').ownBlock = some b ∧ w.heap.size ≤ b) ∧ ∀ A c2, v = .slice A n c2 → n + m ≤ c2 → A' = A ∧ c' = c2 := by
  have ht := T.h1
  have h2 := T.h2
  have h3 := T.h3
  cases hi : P.info? e with
  | none => rw [hi] at h2; simp at h2
  | some i =>
  rw [hi] at h2
  simp only [Option.map_some, Option.some.injEq, Prod.mk.injEq] at h2
  obtain ⟨hz', hsz, hby⟩ := h2
  have hby : i.bytes ≤ 4096 := Nat.le_of_ble_eq_true hby
  cases hz : i.zero with
  | none => rw [hz] at hz'; simp at hz'
  | some z =>
  rw [hz] at hz'
  simp only [Option.map_some, Option.some.injEq] at hz'
  subst hsz
  have hmax : n + m ≤ maxLen := by simp only [maxLen]; omega
  have hlen : (xs ++ news).length = (n + m) * i.size := by rw [List.length_append, hown.1, hl, Nat.add_mul]
  have hbytes : (n + m) * i.bytes ≤ 140737488355328 := Nat.le_trans (Nat.mul_le_mul hb hby) (by decide)
  by_cases hm : m = 0
  · subst hm
    have hn : news = [] := List.eq_nil_of_length_eq_zero (by simpa using hl)
    subst hn
    rcases hown.2 with ⟨rfl, rfl⟩ | ⟨g, cap, cur, rfl, hbg, hg, hnc, hcm, hcs, htake⟩
    · refine ⟨none, 0, w, ?_, ?_, ⟨rfl, rfl, rfl, Nat.le_refl _, fun _ _ _ => rfl⟩, .inl rfl, fun A c2 e _ => by cases e; exact ⟨rfl, rfl⟩⟩
      · have e0 : (Builtin.firstCells i.size 0 (.slice B 0 c)).run P w = .ok #[] w := by cases B <;> simp [Builtin.firstCells, loadCells, loadCellsFrom]
        cases B <;> simp [Builtin.append_, run_underlying ht, sizeOf, typeInfo, hi, Builtin.lenOf, Builtin.firstCells, loadCells, loadCellsFrom, e0]
      · simpa using hown
    · refine ⟨_, cap, w, ?_, by simpa using hown, ⟨rfl, rfl, rfl, Nat.le_refl _, fun _ _ _ => rfl⟩, .inr (.inl rfl), fun A c2 e _ => by cases e; exact ⟨rfl, rfl⟩⟩
      have e0 : (Builtin.firstCells i.size 0 (.slice B 0 c)).run P w = .ok #[] w := by cases B <;> simp [Builtin.firstCells, loadCells, loadCellsFrom]
      simp [Builtin.append_, run_underlying ht, sizeOf, typeInfo, hi, Builtin.lenOf, hnc, e0, storeCells]
  · have hpos : 0 < news.length := by rw [hl]; exact Nat.mul_pos (Nat.pos_of_ne_zero hm) (Nat.pos_of_ne_zero h3)
    have hB := hnews.some hpos
    have hn' : ∀ j u, news[j]? = some u → w.cell? ((adr B).add j) = some u := hnews.at_
    rw [hB]
    have grown : ∀ (old : Nat), old < n + m → ∀ (row : Option Nat),
        oRow (w.drew.alloc (.cells (xs.toArray ++ news.toArray ++ Builtin.zeroCells z.cells (grownCap w (n + m) old e - (n + m))) e)) 0 e i.size
          (.slice (some ⟨w.heap.size, 0, none⟩) (n + m) (grownCap w (n + m) old e)) (n + m) (xs ++ news) ∧
        w.grownBy (w.drew.alloc (.cells (xs.toArray ++ news.toArray ++ Builtin.zeroCells z.cells (grownCap w (n + m) old e - (n + m))) e)) row := by
      intro old ho row
      have hge := grownCap_ge w (n + m) old e
      have hcm : grownCap w (n + m) old e ≤ maxLen := grownCap_le_maxLen w (n + m) old e hmax
      refine ⟨⟨hlen, .inr ⟨w.heap.size, _, _, rfl, Nat.zero_le _, heap_alloc_new w.drew _, hge, hcm, ?_, ?_⟩⟩, ⟨rfl, rfl, rfl, by simp, fun k hk _ => by first | exact Go.heap_alloc_old w.drew _ k hk | exact heap_alloc_old w.drew _ hk⟩⟩
      · simp only [Array.size_append, List.size_toArray, size_zeroCells, hz', hown.1, hl, ← Nat.add_mul]
        refine Nat.mul_le_mul_right _ ?_
        omega
      · simp only [Array.toList_append, List.append_assoc]
        rw [← List.append_assoc, ← hlen]
        exact List.take_left
    rcases hown.2 with ⟨rfl, rfl⟩ | ⟨g, cap, cur, rfl, hbg, hg, hnc, hcm, hcs, htake⟩
    · have hx : xs = [] := List.eq_nil_of_length_eq_zero (by simpa using hown.1)
      subst hx
      have hr := run_append_nil (P := P) w t ty e i z ht hi hz (adr B) m c news hl hn' (by omega) (by omega) (by have := hbytes; simp only [Nat.zero_add] at this; omega)
      have hgr := grown 0 (by omega) (Value.ownBlock (.slice none 0 0))
      simp only [Nat.zero_add, List.nil_append, Array.empty_append] at hgr ⊢
      exact ⟨_, _, _, hr, hgr.1, hgr.2, .inr (.inr ⟨_, rfl, Nat.le_refl _⟩), fun A c2 e h => by cases e; omega⟩
    · by_cases hroom : n + m ≤ cap
      · have hfit : n * i.size + news.length ≤ cur.size := Nat.le_trans (by rw [hl, ← Nat.add_mul]; exact Nat.mul_le_mul_right _ hroom) hcs
        have hr := run_append_room (P := P) w t ty e i ht hi g n cap cur hg (adr B) m c news hl hn' h1 hroom hfit
        refine ⟨_, _, _, hr, ⟨hlen, .inr ⟨g, cap, _, rfl, hbg, setRow_heap w g cur _ e _ hg, hroom, hcm, ?_, ?_⟩⟩, ⟨rfl, rfl, rfl, by simp, fun k _ hk => setRow_other w g k _ (fun e => hk (by simp [Value.ownBlock, e]))⟩, .inr (.inl rfl), fun A c2 e _ => by cases e; exact ⟨rfl, rfl⟩⟩
        · simp only [List.size_toArray, List.length_append, List.length_take, List.length_drop, Array.length_toList]
          omega
        · rw [htake, ← hlen]
          exact List.take_left
      · have holds : ∀ j u, xs[j]? = some u → w.cell? ((⟨g, 0, none⟩ : Addr).add j) = some u := hown.cells (g := g) rfl
        have hr := run_append_grow (P := P) w t ty e i z ht hi hz ⟨g, 0, none⟩ n cap xs hown.1 holds (adr B) m c news hl hn' (by omega) (by omega) (growslice_fits (by omega) hbytes)
        have hgr := grown cap (by omega) (Value.ownBlock (.slice (some ⟨g, 0, none⟩) n cap))
        exact ⟨_, _, _, hr, hgr.1, hgr.2, .inr (.inr ⟨_, rfl, Nat.le_refl _⟩), fun A c2 e h => by cases e; exact absurd h hroom⟩
theorem run_app {t ty e : TypeId} {sz : Nat} [T : AppTy P t e sz] {v : Value} {n : Nat} {xs : List Value} (hown : oRow w 0 e sz v n xs) {B : Option Addr} {m c : Nat} {news : List Value} (hl : news.length = m * sz) (hnews : Rd w B news) (h1 : ∀ u ∈ news, u.oneCell' = true) (hb : n + m ≤ 1073741824) :
    ∃ A' c' w', (Builtin.append_ #[t, t] ty #[v, .slice B m c]).run P w = .ok (.slice A' (n + m) c') w' ∧ oRow w' 0 e sz (.slice A' (n + m) c') (n + m) (xs ++ news) ∧ w.grownBy w' v.ownBlock ∧
      ((Value.slice A' (n + m) c').ownBlock = none ∨ (Value.slice A' (n + m) c').ownBlock = v.ownBlock ∨ ∃ b, (Value.slice A' (n + m) c').ownBlock = some b ∧ w.heap.size ≤ b) := by
  obtain ⟨A', c', w', a1, a2, a3, a4, _⟩ := run_app5 (P := P) (t := t) (ty := ty) hown (c := c) hl hnews h1 hb
  exact ⟨A', c', w', a1, a2, a3, a4⟩
/-- A row reads as its cells. -/
theorem Rd.row {L L' : List Asn} {e : TypeId} {sz n c : Nat} {A : Option Addr} {xs : List Value} (hS : Sep w0 w L) (hp : Pull (row e sz (.slice A n c) n xs) L L' := by repeat (first | exact Pull.here | apply Pull.there)) : Rd w A xs := by
  have h := hS.row_at hp
  intro j u hj
  rcases h.2 with ⟨hv, rfl⟩ | ⟨g, cap, cur, hv, _, hg, _, _, _, htake⟩
  · have hx : xs = [] := List.eq_nil_of_length_eq_zero (by simpa using h.1)
    subst hx
    cases hj
  · cases hv
    exact ⟨_, rfl, h.cells rfl j u hj⟩
theorem Rd.take {A : Option Addr} {cells : List Value} (h : Rd w A cells) (k : Nat) : Rd w A (cells.take k) := fun j u hj => by
  rw [List.getElem?_take] at hj
  split at hj
  · exact h j u hj
  · cases hj
theorem Rd.nil {A : Option Addr} : Rd w A [] := fun j u hj => by cases hj
theorem At.pre {ad : Addr} {xs ys : List Value} (h : At w ad (xs ++ ys)) : At w ad xs := fun j u hj => h j u (by rw [List.getElem?_append_left (List.getElem?_eq_some_iff.1 hj).1]; exact hj)
theorem flat_at {α : Type} {f : α → List Value} {sz : Nat} (hf : ∀ x, (f x).length = sz) {ad : Addr} {l : List α} (h : At w ad (l.flatMap f)) (i : Int) (h0 : 0 ≤ i) (h1 : i < (l.length : Int)) (df : α) : At w (ad.add (i.toNat * sz)) (f (l.getD i.toNat df)) := by
  obtain ⟨k, rfl⟩ := Int.eq_ofNat_of_zero_le h0
  simp only [Int.ofNat_eq_natCast, Int.toNat_natCast]
  have hk : k < l.length := by simpa using h1
  have e : l = l.take k ++ (l[k] :: l.drop (k + 1)) := by rw [← List.drop_eq_getElem_cons hk, List.take_append_drop]
  have hlen : ((l.take k).flatMap f).length = k * sz := by
    have : ∀ (q : List α), (q.flatMap f).length = q.length * sz := fun q => by
      induction q with
      | nil => simp
      | cons x q ih => simp only [List.flatMap_cons, List.length_append, List.length_cons, hf, ih, Nat.add_mul]; omega
    rw [this, List.length_take, Nat.min_eq_left (Nat.le_of_lt hk)]
  have hg : l.getD k df = l[k] := by simp [hk]
  rw [hg]
  intro j u hj
  have hjs : j < sz := by have := (List.getElem?_eq_some_iff.1 hj).1; rwa [hf] at this
  have e2 : (l.flatMap f)[k * sz + j]? = some u := by
    rw [e, List.flatMap_append, List.getElem?_append_right (by omega), hlen, List.flatMap_cons, List.getElem?_append_left (by rw [hf]; omega), show k * sz + j - k * sz = j by omega]
    exact hj
  have := h _ _ e2
  rwa [← Addr.add_add] at this
theorem Sep.only {L L' : List Asn} {x : Asn} (hS : Sep w0 w L) (hp : Pull x L L' := by repeat (first | exact Pull.here | apply Pull.there)) : Sep w0 w [x] := by
  obtain ⟨F, ⟨F1, F2, hF, hd, hA, hL⟩, hr⟩ := (hS.pull hp).own
  exact ⟨hS.below, F1, ⟨F1, fun _ => False, fun k => by simp, fun _ _ h => h, hA, fun _ h => h⟩, fun k hk => hr k ((hF k).2 (.inl hk))⟩
theorem ints_one (xs : List Int) : ∀ u ∈ ints xs, u.oneCell' = true := fun u hu => by
  obtain ⟨_, _, rfl⟩ := List.mem_map.1 hu
  rfl
theorem ints_take (xs : List Int) (k : Nat) : (ints xs).take k = ints (xs.take k) := by simp [ints]
theorem ints_append (xs ys : List Int) : ints xs ++ ints ys = ints (xs ++ ys) := by simp [ints]
end
section
variable {P : Program} {o : Oper} {a : Act} {w w0 : World} {Q : Exit → Act → World → Prop} {n : Nat} {env : List (Nat × Value)} {L L' : List Asn} {K : Act → World → Prop}
theorem qap {s x : Operand} {t e : TypeId} {sz k c m c2 N : Nat} {A B : Option Addr} {xs news ys : List Value} {d : Tmp} (hE : Env a n env) (hS : Sep w0 w L) (hnews : Rd w B news) (h1 : ∀ u ∈ news, u.oneCell' = true)
    (kk : ∀ A' c' a' w', Env a' n ((d, .slice A' N c') :: env) → Sep w0 w' (row e sz (.slice A' N c') N ys :: L') → K a' w')
    (ho : o.op = .call { callee := .builtin .append, args := #[s, x], argTypes := #[t, t] } := by exact rfl) (T : AppTy P t e sz := by infer_instance) (hs : opv env s = some (.slice A k c) := by exact rfl) (hx : opv env x = some (.slice B m c2) := by exact rfl)
    (hp : Pull (row e sz (.slice A k c) k xs) L L' := by repeat (first | exact Pull.here | apply Pull.there))
    (hl : news.length = m * sz := by first | rfl | (simp [ints]; done) | (simp [ints]; omega)) (hN : k + m = N := by first | omega | (simp only [List.length_take, List.length_append, List.length_cons, List.length_nil]; omega)) (hb : N ≤ 1073741824 := by first | omega | (simp only [List.length_take, List.length_append, List.length_cons, List.length_nil]; omega))
    (hY : xs ++ news = ys := by first | rfl | exact List.nil_append _ | exact ints_append _ _) (hd : o.dst = some d := by exact rfl) (hlt : Nat.blt d n = true := by exact rfl) : o.wp P a w K Q := by
  subst hN
  subst hY
  obtain ⟨A', c', w', hr, hw, hg, hat⟩ := run_app (P := P) (t := t) (ty := o.type) (hS.row_at hp) (c := c2) hl hnews h1 hb
  unfold Oper.wp execOp
  simp only [ho, resolve, invoke, builtin, Sem.run_bind, Sem.run_pure, Result.andThen_ok, List.map_toArray, List.map_cons, List.map_nil, hE.eval hs, hE.eval hx, hr]
  exact kk A' c' _ w' (hE.putS _ hd hlt) (Sep.grow (hS.pull hp) hw hg hat)
/-- append, where there is room. -/
theorem qapR {s x : Operand} {t e : TypeId} {sz k c m c2 N : Nat} {A B : Option Addr} {xs news ys : List Value} {d : Tmp} (hE : Env a n env) (hS : Sep w0 w L) (hnews : Rd w B news) (h1 : ∀ u ∈ news, u.oneCell' = true)
    (kk : ∀ a' w', Env a' n ((d, .slice A N c) :: env) → Sep w0 w' (row e sz (.slice A N c) N ys :: L') → K a' w')
    (ho : o.op = .call { callee := .builtin .append, args := #[s, x], argTypes := #[t, t] } := by exact rfl) (T : AppTy P t e sz := by infer_instance) (hs : opv env s = some (.slice A k c) := by exact rfl) (hx : opv env x = some (.slice B m c2) := by exact rfl)
    (hp : Pull (row e sz (.slice A k c) k xs) L L' := by repeat (first | exact Pull.here | apply Pull.there))
    (hl : news.length = m * sz := by first | rfl | (simp [ints]; done) | (simp [ints]; omega)) (hN : k + m = N := by omega) (hb : N ≤ 1073741824 := by omega) (hfit : N ≤ c := by omega)
    (hY : xs ++ news = ys := by first | rfl | exact List.nil_append _ | exact ints_append _ _) (hd : o.dst = some d := by exact rfl) (hlt : Nat.blt d n = true := by exact rfl) : o.wp P a w K Q := by
  subst hN
  subst hY
  obtain ⟨A', c', w', hr, hw, hg, hat, hin⟩ := run_app5 (P := P) (t := t) (ty := o.type) (hS.row_at hp) (c := c2) hl hnews h1 hb
  obtain ⟨rfl, rfl⟩ := hin A c rfl hfit
  unfold Oper.wp execOp
  simp only [ho, resolve, invoke, builtin, Sem.run_bind, Sem.run_pure, Result.andThen_ok, List.map_toArray, List.map_cons, List.map_nil, hE.eval hs, hE.eval hx, hr]
  exact kk _ w' (hE.putS _ hd hlt) (Sep.grow (hS.pull hp) hw hg hat)
theorem qmin {x y : Operand} {kd k' : IntKind} {i j : Int} {ts : Array TypeId} {d : Tmp} (hE : Env a n env) (k : ∀ a', Env a' n ((d, .int kd (min i j)) :: env) → K a' w) (ho : o.op = .call { callee := .builtin .min, args := #[x, y], argTypes := ts } := by exact rfl) (hx : opv env x = some (.int kd i) := by exact rfl) (hy : opv env y = some (.int k' j) := by exact rfl) (hd : o.dst = some d := by exact rfl) (hlt : Nat.blt d n = true := by exact rfl) : o.wp P a w K Q := by
  have e : (if j < i then j else i) = min i j := by omega
  unfold Oper.wp execOp
  simp only [ho, resolve, invoke, builtin, Sem.run_bind, Sem.run_pure, Result.andThen_ok, List.map_toArray, List.map_cons, List.map_nil, hE.eval hx, hE.eval hy, run_min_int2, e]
  exact k _ (hE.putS _ hd hlt)
theorem qmax {x y : Operand} {kd k' : IntKind} {i j : Int} {ts : Array TypeId} {d : Tmp} (hE : Env a n env) (k : ∀ a', Env a' n ((d, .int kd (max i j)) :: env) → K a' w) (ho : o.op = .call { callee := .builtin .max, args := #[x, y], argTypes := ts } := by exact rfl) (hx : opv env x = some (.int kd i) := by exact rfl) (hy : opv env y = some (.int k' j) := by exact rfl) (hd : o.dst = some d := by exact rfl) (hlt : Nat.blt d n = true := by exact rfl) : o.wp P a w K Q := by
  have e : (if j > i then j else i) = max i j := by omega
  unfold Oper.wp execOp
  simp only [ho, resolve, invoke, builtin, Sem.run_bind, Sem.run_pure, Result.andThen_ok, List.map_toArray, List.map_cons, List.map_nil, hE.eval hx, hE.eval hy, run_max_int2, e]
  exact k _ (hE.putS _ hd hlt)
theorem elem_of {t e : TypeId} (h : P.underlying t = some (.slice e)) : P.underlying t = some (.slice (P.elem t)) := by simp [Program.elem, h]
/-- x[:h]. -/
theorem qsh {t e : TypeId} {sz : Nat} {x y : Operand} {A : Option Addr} {len cap : Nat} {kd : IntKind} {h : Int} (q : Nat) {d : Tmp} (hE : Env a n env) (k : ∀ a', Env a' n ((d, .slice A q cap) :: env) → K a' w)
    (ho : o.op = .slice t x none (some y) none := by exact rfl) (T : SliceTy P t e sz := by infer_instance) (hx : opv env x = some (.slice A len cap) := by exact rfl) (hy : opv env y = some (.int kd h) := by exact rfl) (hq : h = (q : Int) := by first | omega | (simp only [List.length_take]; omega)) (hc : q ≤ cap := by first | omega | (simp only [List.length_take]; omega)) (hd : o.dst = some d := by exact rfl) (hlt : Nat.blt d n = true := by exact rfl) : o.wp P a w K Q := by
  subst hq
  obtain ⟨i, hi, hs⟩ := info_of T.h2
  have e1 := T.h1
  have he : P.elem t = e := by simp [Program.elem, e1]
  have hsi : (sizeOf (P.elem t)).run P w = .ok i.size w := by rw [he]; simp [sizeOf, typeInfo, hi]
  have e2 : (if cap = 0 then A else A.map fun b => b.add (0 * i.size)) = A := by cases A <;> simp [Addr.add]
  unfold Oper.wp execOp
  simp only [ho, Option.map_some, Option.map_none, hE.eval hx, hE.eval hy]
  have hr := run_slice_h (P := P) w t A len cap (elem_of T.h1) kd (q : Int) (by omega) (by omega)
  simp only [Sem.run_bind, hr, hsi, Result.andThen_ok, sliced, e2, Nat.sub_zero, Int.toNat_natCast, Sem.run_pure, run_sliceAt_slice w t _ _ _ _ (elem_of T.h1)]
  exact k _ (hE.putS _ hd hlt)
theorem qLs {α : Type} {f : α → List Value} {l : List α} {df : α} {ty m : TypeId} {x : Operand} {ad : Addr} {i : Int} {us : List Value} {d : Tmp} (hE : Env a n env) (hS : Sep w0 w L) (hf : ∀ x, (f x).length = m) (hA : At w0 ad (l.flatMap f)) (hus : f (l.getD i.toNat df) = us) (k : ∀ a', Env a' n ((d, .agg us.toArray) :: env) → K a' w)
    (ho : o.op = .load ty x := by exact rfl) (T : TyInfo P ty true m := by infer_instance) (hx : opv env x = some (.pointer (some (ad.add (i.toNat * m)))) := by exact rfl) (h0 : 0 ≤ i := by omega) (h1 : i < (l.length : Int) := by omega) (hd : o.dst = some d := by exact rfl) (hlt : Nat.blt d n = true := by exact rfl) : o.wp P a w K Q := by
  subst hus
  exact q00 hE hS (flat_at hf hA i h0 h1 df) k ho T hx (by rw [List.take_of_length_le (by rw [hf]; exact Nat.le_refl _)]) (hf _) hd hlt
theorem y_load0i {G : List (Nat × List Value × TypeId)} {ty : TypeId} {x : Operand} {ad : Addr} {xs : List Int} {i : Int} (hA : At w0 ad (ints xs)) (ho : o.op = .load ty x := by exact rfl) (T : TyInfo P ty false 1 := by infer_instance) (hx : opv env x = some (.pointer (some (ad.add (i.toNat * 1)))) := by exact rfl) (h0 : 0 ≤ i := by omega) (h1 : i < (xs.length : Int) := by omega) : Y P env (SS w0 G) o (.int .i64 (xs.getD i.toNat 0)) := y_load0 (ints_at hA i h0 h1) ho T hx
/-- s[:h] of a string. -/
theorem qssh {t : TypeId} {x y : Operand} {s : ByteArray} {kd : IntKind} {h : Int} {d : Tmp} (hE : Env a n env) (k : ∀ a', Env a' n ((d, .string (s.extract 0 h.toNat)) :: env) → K a' w)
    (ho : o.op = .slice t x none (some y) none := by exact rfl) (T : StrTy P t := by infer_instance) (hx : opv env x = some (.string s) := by exact rfl) (hy : opv env y = some (.int kd h) := by exact rfl) (h0 : 0 ≤ h := by omega) (h1 : h ≤ (s.size : Int) := by omega) (hd : o.dst = some d := by exact rfl) (hlt : Nat.blt d n = true := by exact rfl) : o.wp P a w K Q := by
  unfold Oper.wp execOp
  simp only [ho, Option.map_some, Option.map_none, hE.eval hx, hE.eval hy]
  simp only [Sem.run_bind, run_sliceAt_string w t _ _ _ _ T.h, run_slice_string_h (P := P) w t s T.h kd h h0 h1, Result.andThen_ok, Sem.run_pure]
  exact k _ (hE.putS _ hd hlt)
end
end Go.Sx

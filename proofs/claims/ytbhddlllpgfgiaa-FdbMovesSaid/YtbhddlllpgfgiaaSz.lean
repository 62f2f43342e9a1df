/- DERIVED. copy into an owned row, append of zeros that grows, slices.overlaps of two rows. No condition. -/
import Derived.Test.YtbhddlllpgfgiaaSy
import Derived.Lib.AppendZerosOnto
import Derived.Lib.Overlaps
import Derived.Laws.CopyRow
namespace Go.Sx
open Go.RowKit
set_option linter.unusedVariables false
set_option linter.unusedSimpArgs false
/-- slices.overlaps at a slice type. -/
class OvTy (P : Program) (f : FuncId) (t : outParam TypeId) : Prop where
  h : ∃ fn tR, P.funcs[f]? = some fn ∧ (fn.name == "runtime.NumGoroutine") = false ∧ fn.body.isNone = true ∧ Extern.findNext fn = none ∧ Extern.find fn = some (Extern.SlicesOverlaps.overlaps #[t, t] #[tR])
section
variable {P : Program} {o : Oper} {a : Act} {w w0 : World} {Q : Exit → Act → World → Prop} {n : Nat} {env : List (Nat × Value)} {L L' : List Asn} {K : Act → World → Prop}
theorem setRow_row {e : TypeId} {sz N c g k : Nat} {xs us : List Value} (hS : Sep w0 w (row e sz (.slice (some ⟨g, 0, none⟩) N c) N xs :: L)) (hf : k + us.length ≤ xs.length) : ∃ cur, w.heap[g]? = some (.cells cur e (0, 0)) ∧ k + us.length ≤ cur.size ∧
    Sep w0 (w.setRow g (putL cur.toList k us).toArray) (row e sz (.slice (some ⟨g, 0, none⟩) N c) N (putL xs k us) :: L) := by
  have hrow := hS.row_at Pull.here
  have hxl := hrow.1
  rcases hrow.2 with ⟨hv, _⟩ | ⟨g', cap, cur, hv, hbg, hg, hnc, hcm, hcs, htake⟩
  · cases hv
  · cases hv
    have hcu : cur.toList.length = cur.size := Array.length_toList
    have hle : xs.length ≤ cur.size := by rw [hxl]; exact Nat.le_trans (Nat.mul_le_mul_right _ hnc) hcs
    have hcl : (putL cur.toList k us).length = cur.size := by rw [putL_length (by rw [hcu]; omega)]; exact hcu
    have hxc : xs = cur.toList.take xs.length := by rw [hxl]; exact htake.symm
    refine ⟨cur, hg, by omega, ?_⟩
    refine Sep.turn (M := [row e sz (.slice (some ⟨g, 0, none⟩) N c) N (putL xs k us)]) hS rfl rfl rfl (by simp) fun F hA hF => ⟨fun q _ hq => setRow_other w g q _ (fun e => hq ((hA.2 q).2 (by simp [Value.ownBlock, e]))), fun q => q = g, ⟨fun q => q = g, fun _ => False, fun q => by simp, fun _ _ h => h, ⟨⟨?_, .inr ⟨g, c, _, rfl, hbg, setRow_heap w g cur _ e _ hg, hnc, hcm, ?_, ?_⟩⟩, fun q => by simp [Value.ownBlock, eq_comm]⟩, fun _ h => h⟩, fun q hq => ?_⟩
    · rw [putL_length hf]; exact hxl
    · rw [List.size_toArray, hcl]; exact hcs
    · show (putL cur.toList k us).take (N * sz) = putL xs k us
      rw [← hxl]
      conv => rhs; rw [hxc]
      unfold putL
      rw [List.take_append, List.take_append, List.take_take, List.take_take, List.length_append, List.length_take, hcu]
      rw [Nat.min_eq_left (show k ≤ cur.size by omega), Nat.min_eq_right (show k ≤ xs.length by omega), List.take_of_length_le (show us.length ≤ xs.length - k by omega), List.drop_take, Nat.min_eq_left (show k ≤ xs.length by omega)]
    · subst hq
      have h1 := (hA.2 q).2 (by simp [Value.ownBlock])
      exact ⟨.inl h1, by have := hF q h1; simpa using this⟩
/-- copy, into an owned row from its q-th element on. -/
theorem qcp {s x : Operand} {t e : TypeId} {sz N c dl dc m c2 : Nat} (q cnt : Nat) {A B : Option Addr} {xs news ys : List Value} {d : Tmp} (hE : Env a n env) (hS : Sep w0 w L) (hnews : Rd w B news) (h1 : ∀ u ∈ news.take (cnt * sz), u.oneCell' = true)
    (kk : ∀ a' w', Env a' n ((d, .int .i64 cnt) :: env) → Sep w0 w' (row e sz (.slice A N c) N ys :: L') → K a' w')
    (hl : news.length = m * sz) (hsz : 1 ≤ sz) (hpos : 0 < cnt) (hqc : q < c) (hfit : q + cnt ≤ N) (hcnt : min m dl = cnt) (hY : putL xs (q * sz) (news.take (cnt * sz)) = ys)
    (ho : o.op = .call { callee := .builtin .copy, args := #[s, x], argTypes := #[t, t] } := by exact rfl) (T : SliceTy P t e sz := by infer_instance) (hs : opv env s = some (.slice (subA A q c sz) dl dc) := by exact rfl) (hx : opv env x = some (.slice B m c2) := by exact rfl)
    (hp : Pull (row e sz (.slice A N c) N xs) L L' := by repeat (first | exact Pull.here | apply Pull.there)) (hd : o.dst = some d := by exact rfl) (hlt : Nat.blt d n = true := by exact rfl) : o.wp P a w K Q := by
  have hS1 := hS.pull hp
  have hrow := hS1.row_at Pull.here
  rcases hrow.2 with ⟨hv, h0⟩ | ⟨g, cap, cur0, hv, _, _, _, _, _, _⟩
  · exfalso; omega
  · cases hv
    have hxl := hrow.1
    have hcm : cnt ≤ m := by omega
    have hcz : 0 < cnt * sz := Nat.mul_pos hpos hsz
    have hmz : cnt * sz ≤ m * sz := Nat.mul_le_mul_right _ hcm
    have hus : (news.take (cnt * sz)).length = cnt * sz := by rw [List.length_take, hl]; omega
    have hNz : (q + cnt) * sz ≤ N * sz := Nat.mul_le_mul_right _ hfit
    obtain ⟨cur, hg, hcs, hS2⟩ := setRow_row (k := q * sz) (us := news.take (cnt * sz)) hS1 (by rw [hus, hxl, ← Nat.add_mul]; exact hNz)
    have hD : subA (some (⟨g, 0, none⟩ : Addr)) q c sz = some ⟨g, q * sz, none⟩ := by
      unfold subA
      rw [if_neg (by omega)]
      by_cases hk : q * sz = 0 <;> simp [Addr.add, hk]
    have hB := (hnews.take (cnt * sz)).some (by omega)
    rw [hD] at hs
    rw [hB] at hx
    have hsrc : ∀ j v, (news.take (cnt * sz))[j]? = some v → w.cell? ((adr B).add j) = some v := (hnews.take (cnt * sz)).at_
    have e1 := T.h1
    obtain ⟨i, hi, hsi⟩ := info_of T.h2
    have hfc := run_firstCells_some (P := P) w i.size cnt (adr B) m c2 (news.take (cnt * sz)) (by rw [hus, hsi]) hsrc
    have hst := run_storeCells_at P g (q * sz) e (news.take (cnt * sz)) 0 cur w hg (by simpa using hcs) h1
    subst hY
    have hmin : Nat.min m dl = cnt := hcnt
    have hr : (Builtin.copy_ #[t, t] o.type #[.slice (some ⟨g, q * sz, none⟩) dl dc, .slice (some (adr B)) m c2]).run P w = .ok (.int .i64 cnt) (w.setRow g (putL cur.toList (q * sz) (news.take (cnt * sz))).toArray) := by
      simp only [Nat.add_zero] at hst
      simp [Builtin.copy_, run_underlying e1, Builtin.lenOf, sizeOf, typeInfo, hi, hmin, hfc, hst, goInt, putL]
    unfold Oper.wp execOp
    simp only [ho, resolve, invoke, builtin, Sem.run_bind, Sem.run_pure, Result.andThen_ok, List.map_toArray, List.map_cons, List.map_nil, hE.eval hs, hE.eval hx, hr]
    exact kk _ _ (hE.putS _ hd hlt) hS2
theorem zeroL (z : Array Value) : ∀ l : Nat, List.map (fun i => z[i % z.size]!) (List.range (l * z.size)) = (List.replicate l z.toList).flatten
  | 0 => by simp
  | l + 1 => by
    rw [show (l + 1) * z.size = z.size + l * z.size by rw [Nat.add_mul]; omega, List.range_add, List.map_append, List.map_map, List.replicate_succ, List.flatten_cons, ← zeroL z l]
    congr 1
    · apply List.ext_getElem
      · simp
      · intro j h1 h2
        simp only [List.length_map, List.length_range] at h1
        simp [Nat.mod_eq_of_lt h1, h1]
    · apply List.map_congr_left
      intro i _
      simp [Nat.add_mod_left]
theorem flat_rep {α : Type} (k : Nat) (zs : List α) : ((List.replicate k zs).flatten).length = k * zs.length := by simp
/-- clear, of an owned row from its q-th element on. -/
theorem qclr {s : Operand} {t e : TypeId} {sz N c dl dc : Nat} (q cnt : Nat) {A : Option Addr} {xs ys zs : List Value} (hE : Env a n env) (hS : Sep w0 w L)
    (kk : ∀ w', Sep w0 w' (row e sz (.slice A N c) N ys :: L') → K a w')
    (hsz : 1 ≤ sz) (hdl : dl = cnt) (hqc : cnt = 0 ∨ q < c) (hfit : q + cnt ≤ N) (hY : putL xs (q * sz) (List.replicate cnt zs).flatten = ys)
    (ho : o.op = .call { callee := .builtin .clear, args := #[s], argTypes := #[t] } := by exact rfl) (T : AppTy P t e sz := by infer_instance) (Z : ZeroTy P e zs := by infer_instance) (hs : opv env s = some (.slice (subA A q c sz) dl dc) := by exact rfl)
    (hp : Pull (row e sz (.slice A N c) N xs) L L' := by repeat (first | exact Pull.here | apply Pull.there)) (h1 : zs.all Value.oneCell' = true := by exact rfl) (hd : o.dst = none := by exact rfl) : o.wp P a w K Q := by
  subst hdl
  have hS1 := hS.pull hp
  have hrow := hS1.row_at Pull.here
  have hxl := hrow.1
  have ht := T.h1
  by_cases h0 : dl = 0
  · subst h0
    have hys : ys = xs := by
      rw [← hY]
      simp [putL]
    have hr : (Builtin.clear_ #[t] o.type #[.slice (subA A q c sz) 0 dc]).run P w = .ok (.tuple #[]) w := by
      cases h : subA A q c sz <;> simp [Builtin.clear_, run_underlying ht]
    unfold Oper.wp execOp
    simp only [ho, resolve, invoke, builtin, Sem.run_bind, Sem.run_pure, Result.andThen_ok, List.map_toArray, List.map_cons, List.map_nil, hE.eval hs, hr]
    show K (a.put o.dst (.tuple #[])) w
    rw [show a.put o.dst (.tuple #[]) = a by rw [hd]; rfl]
    refine kk _ ?_
    rw [hys]
    exact hS1
  · have h2 := T.h2
    have h3 := T.h3
    cases hi : P.info? e with
    | none => rw [hi] at h2; simp at h2
    | some i =>
    rw [hi] at h2
    simp only [Option.map_some, Option.some.injEq, Prod.mk.injEq] at h2
    obtain ⟨hz', hszz, hby⟩ := h2
    have hZ := Z.h
    rw [hi] at hZ
    simp only [Option.map_some, Option.some.injEq] at hZ
    cases hz : i.zero with
    | none => rw [hz] at hz'; simp at hz'
    | some z =>
    rw [hz] at hz' hZ
    simp only [Option.map_some, Option.some.injEq] at hz' hZ
    rcases hrow.2 with ⟨hv, h0⟩ | ⟨g, cap, cur0, hv, _, _, _, _, _, _⟩
    · exfalso; omega
    · cases hv
      have hzl : (Builtin.zeroCells z.cells dl).toList = (List.replicate dl zs).flatten := by
        rw [← hZ, ← zeroL]
        simp [Builtin.zeroCells]
      have hzs : zs.length = sz := by
        rw [← hZ, Array.length_toList]
        omega
      have hus : ((List.replicate dl zs).flatten).length = dl * sz := by rw [flat_rep, hzs]
      have hNz : (q + dl) * sz ≤ N * sz := Nat.mul_le_mul_right _ hfit
      obtain ⟨cur, hg, hcs, hS2⟩ := setRow_row (k := q * sz) (us := (List.replicate dl zs).flatten) hS1 (by rw [hus, hxl, ← Nat.add_mul]; exact hNz)
      have hD : subA (some (⟨g, 0, none⟩ : Addr)) q c sz = some ⟨g, q * sz, none⟩ := by
        unfold subA
        rw [if_neg (by omega)]
        by_cases hk : q * sz = 0 <;> simp [Addr.add, hk]
      rw [hD] at hs
      have hst := run_storeCells_at P g (q * sz) e ((List.replicate dl zs).flatten) 0 cur w hg (by simpa using hcs) (fun u hu => by
        obtain ⟨l, hl, hu⟩ := List.mem_flatten.1 hu
        rw [List.eq_of_mem_replicate hl] at hu
        exact List.all_eq_true.1 h1 u hu)
      subst hY
      obtain ⟨m, rfl⟩ : ∃ m, dl = m + 1 := ⟨dl - 1, by omega⟩
      have hr : (Builtin.clear_ #[t] o.type #[.slice (some ⟨g, q * sz, none⟩) (m + 1) dc]).run P w = .ok (.tuple #[]) (w.setRow g (putL cur.toList (q * sz) (List.replicate (m + 1) zs).flatten).toArray) := by
        simp only [Nat.add_zero] at hst
        simp [Builtin.clear_, run_underlying ht, zeroValue, typeInfo, hi, hz, hzl, hst, putL]
      unfold Oper.wp execOp
      simp only [ho, resolve, invoke, builtin, Sem.run_bind, Sem.run_pure, Result.andThen_ok, List.map_toArray, List.map_cons, List.map_nil, hE.eval hs, hr]
      show K (a.put o.dst (.tuple #[])) _
      rw [show a.put o.dst (.tuple #[]) = a by rw [hd]; rfl]
      exact kk _ hS2
/-- append(x[:k], make(S, l)...), where there is no room. -/
theorem qapm {s x : Operand} {t ti e : TypeId} {sz k cap l N : Nat} {kd : IntKind} {v : Int} {A : Option Addr} {olds zs : List Value} {d : Tmp} (hE : Env a n env) (hS : Sep w0 w L) (hold : Rd w A olds)
    (kk : ∀ g c' a' w', Env a' n ((d, .slice (some ⟨g, 0, none⟩) N c') :: env) → Sep w0 w' (row e sz (.slice (some ⟨g, 0, none⟩) N c') N (olds ++ (List.replicate l zs).flatten) :: L) → K a' w')
    (hl : olds.length = k * sz) (hv : v = (l : Int)) (hpos : 0 < l) (hg : cap < k + l) (hN : k + l = N) (hb : N ≤ 1073741824)
    (ho : o.op = .call { callee := .builtin .append, args := #[s, x], argTypes := #[t, ti] } := by exact rfl) (T : AppTy P t e sz := by infer_instance) (Z : ZeroTy P e zs := by infer_instance) (I : IntTy P ti .i64 := by infer_instance) (hs : opv env s = some (.slice A k cap) := by exact rfl) (hx : opv env x = some (.int kd v) := by exact rfl)
    (hd : o.dst = some d := by exact rfl) (hlt : Nat.blt d n = true := by exact rfl) : o.wp P a w K Q := by
  subst hv hN
  have ht := T.h1
  have h2 := T.h2
  have h3 := T.h3
  cases hi : P.info? e with
  | none => rw [hi] at h2; simp at h2
  | some i =>
  rw [hi] at h2
  simp only [Option.map_some, Option.some.injEq, Prod.mk.injEq] at h2
  obtain ⟨hz', hsz, hby⟩ := h2
  have hby : i.bytes ≤ 4096 := Nat.le_of_ble_eq_true hby
  have hZ := Z.h
  rw [hi] at hZ
  simp only [Option.map_some, Option.some.injEq] at hZ
  cases hz : i.zero with
  | none => rw [hz] at hz'; simp at hz'
  | some z =>
  rw [hz] at hz' hZ
  simp only [Option.map_some, Option.some.injEq] at hz' hZ
  subst hsz
  have hmax : k + l ≤ maxLen := by simp only [maxLen]; omega
  have hbytes : (k + l) * i.bytes ≤ 140737488355328 := Nat.le_trans (Nat.mul_le_mul hb hby) (by decide)
  have hlb : l * i.bytes ≤ (k + l) * i.bytes := Nat.mul_le_mul_right _ (by omega)
  have hof : (Builtin.firstCells i.size k (.slice A k cap)).run P w.drew = .ok olds.toArray w.drew := by
    by_cases ho0 : olds.length = 0
    · have : olds = [] := List.eq_nil_of_length_eq_zero ho0
      subst this
      have hk0 : k * i.size = 0 := by rw [← hl]; rfl
      cases A with
      | none => exact run_firstCells_none _ _ _ _ _
      | some b => exact run_firstCells_some (P := P) w.drew i.size k b k cap [] (by rw [hk0]; rfl) (fun j v hj => by simp at hj)
    · rw [hold.some (by omega)]
      exact run_firstCells_some (P := P) w.drew i.size k (adr A) k cap olds hl (fun j v hj => hold.at_ j v hj)
  have hr := Go.Lib.run_append_grow_zeros (P := P) w t ti o.type e i z kd .i64 ht I.h hi hz A k cap olds hof l hpos (Nat.pos_of_ne_zero h3) hg (by omega) (by omega) (growslice_fits hg hbytes)
  unfold Oper.wp execOp
  simp only [ho, resolve, invoke, builtin, Sem.run_bind, Sem.run_pure, Result.andThen_ok, List.map_toArray, List.map_cons, List.map_nil, hE.eval hs, hE.eval hx, hr]
  refine kk _ _ _ _ (hE.putS _ hd hlt) ?_
  have hge := grownCap_ge w (k + l) cap e
  have hcm : grownCap w (k + l) cap e ≤ maxLen := grownCap_le_maxLen w (k + l) cap e hmax
  have hzl : (Builtin.zeroCells z.cells l).toList = (List.replicate l zs).flatten := by
    rw [← hZ, ← zeroL]
    simp [Builtin.zeroCells]
  have hnew := Sep.new (A := row e i.size (.slice (some ⟨w.drew.heap.size, 0, none⟩) (k + l) (grownCap w (k + l) cap e)) (k + l) (olds ++ (List.replicate l zs).flatten)) (hS.drew) (.cells (olds.toArray ++ Builtin.zeroCells z.cells l ++ Builtin.zeroCells z.cells (grownCap w (k + l) cap e - (k + l))) e) fun w' hw' => ?_
  · exact hnew
  · have hlen : (olds ++ (List.replicate l zs).flatten).length = (k + l) * i.size := by
      rw [List.length_append, hl, ← hzl, Array.length_toList, size_zeroCells, hz', Nat.add_mul]
    refine ⟨⟨hlen, .inr ⟨w.drew.heap.size, _, _, rfl, Nat.zero_le _, hw', hge, hcm, ?_, ?_⟩⟩, fun q => by simp [Value.ownBlock, eq_comm]⟩
    · simp only [Array.size_append, List.size_toArray, size_zeroCells, hz', hl, ← Nat.add_mul]
      exact Nat.mul_le_mul_right _ (by omega)
    · simp only [Array.toList_append, hzl]
      rw [← hlen]
      exact List.take_left
/-- slices.overlaps of two rows that lie apart. -/
theorem qov {f : FuncId} {x y : Operand} {t e : TypeId} {sz la ca lb cb : Nat} {ts : Array TypeId} {p q : Addr} {d : Tmp} (hE : Env a n env) (hap : p.block ≠ q.block ∧ ∃ t1 c1 t2 c2, w.heap[p.block]? = some (.cells c1 t1 (0, 0)) ∧ w.heap[q.block]? = some (.cells c2 t2 (0, 0)) ∧ c2.size ≠ 0)
    (k : ∀ a', Env a' n ((d, .bool false) :: env) → K a' w) (ho : o.op = .call { callee := .value (.func f), args := #[x, y], argTypes := ts } := by exact rfl) (V : OvTy P f t := by infer_instance) (T : SliceTy P t e sz := by infer_instance) (hx : opv env x = some (.slice (some p) la ca) := by exact rfl) (hy : opv env y = some (.slice (some q) lb cb) := by exact rfl) (hd : o.dst = some d := by exact rfl) (hlt : Nat.blt d n = true := by exact rfl) : o.wp P a w K Q := by
  obtain ⟨fn, tR, hf, hname, hb, hn, he⟩ := V.h
  have e1 := T.h1
  obtain ⟨i, hi, hsi⟩ := info_of T.h2
  have hz : ∀ w, (sizeOf e).run P w = .ok sz w := fun w => by simp [sizeOf, typeInfo, hi, hsi]
  obtain ⟨hne, t1, c1, t2, c2, h1, h2, h3⟩ := hap
  have hr : (Extern.SlicesOverlaps.overlaps #[t, t] #[tR] #[.slice (some p) la ca, .slice (some q) lb cb]).run P w = .ok (.bool false) w :=
    Go.Lib.run_overlaps_apart w t tR e e1 sz hz p q la ca lb cb hne t1 t2 c1.size c2.size (by simp [World.shape?, h1]) (by simp [World.shape?, h2]) h3 (by simp [World.frozen?, h1]) (by simp [World.frozen?, h1])
  have hcf := run_callFunc_extern hf hname hb hn he #[.slice (some p) la ca, .slice (some q) lb cb] w
  rw [hr] at hcf
  have hev : a.eval (.func f) = .func (.func f) #[] #[] := rfl
  have hrr : (execOp a.eval o).run P w = .ok (.value (.bool false)) w := by
    simp [execOp, ho, resolve, hev, Deferred.ofValue, invoke, hE.eval hx, hE.eval hy, hcf]
  unfold Oper.wp
  rw [hrr]
  exact k _ (hE.putS _ hd hlt)
theorem subA_some {A : Option Addr} (q cap sz : Nat) (h : A ≠ none) : ∃ b, subA A q cap sz = some b := by
  unfold subA
  cases A with
  | none => exact absurd rfl h
  | some a => split <;> exact ⟨_, rfl⟩
theorem subA_block {A : Option Addr} {q cap sz : Nat} {b : Addr} (h : subA A q cap sz = some b) : ∃ a, A = some a ∧ a.block = b.block := by
  unfold subA at h
  split at h
  · exact ⟨b, h, rfl⟩
  · cases A with
    | none => cases h
    | some a => exact ⟨a, rfl, by simp at h; subst h; simp [Addr.add]; split <;> rfl⟩
theorem Sep.rows_apart {e e' : TypeId} {sz sz' m c m2 c2 : Nat} {A B : Option Addr} {xs ys : List Value} (hS : Sep w0 w (row e sz (.slice A m c) m xs :: row e' sz' (.slice B m2 c2) m2 ys :: L)) (hpos : 0 < c2 * sz') (q : Nat) :
    ∀ p r, A = some p → subA B q c2 sz' = some r → p.block ≠ r.block ∧ ∃ t1 c1 t2 c2, w.heap[p.block]? = some (.cells c1 t1 (0, 0)) ∧ w.heap[r.block]? = some (.cells c2 t2 (0, 0)) ∧ c2.size ≠ 0 := by
  intro p r hp hr
  obtain ⟨b, rfl, hb⟩ := subA_block hr
  subst hp
  rw [← hb]
  obtain ⟨F, ⟨F1, F2, hF, hd, ⟨hA, hA2⟩, F3, F4, hG, he, ⟨hB, hB2⟩, hL⟩, hrr⟩ := hS.own
  refine ⟨fun hbb => hd p.block ((hA2 _).2 rfl) ((hG _).2 (.inl ((hB2 _).2 (by simp [Value.ownBlock, hbb])))), ?_⟩
  rcases hA.2 with ⟨hv, _⟩ | ⟨g, cap, cur, hv, _, hg, _, _, _, _⟩
  · cases hv
  · rcases hB.2 with ⟨hv2, _⟩ | ⟨g2, cap2, cur2, hv2, _, hg2, _, _, hcs2, _⟩
    · cases hv2
    · cases hv; cases hv2
      exact ⟨_, _, _, _, hg, hg2, by omega⟩
end
end Go.Sx

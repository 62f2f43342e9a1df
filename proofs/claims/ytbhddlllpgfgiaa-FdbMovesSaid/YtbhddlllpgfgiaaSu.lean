/- DERIVED. Equality of structs and arrays, indices of arrays, loops of few rounds, conversions of numbers. No condition. -/
import Derived.Test.YtbhddlllpgfgiaaSt
import Derived.ChangeKeysEq
import Derived.LoopN
namespace Go.Sx
open Go.RowKit
open Classical
set_option linter.unusedVariables false
set_option linter.unusedSimpArgs false
inductive Sh where
  | i (k : IntKind) | b | s
  deriving DecidableEq
def shOf : Value → Option Sh
  | .int k _ => some (.i k)
  | .bool _ => some .b
  | .string _ => some .s
  | _ => none
def valOf : Bool → List Value → Value
  | true, cs => .agg cs.toArray
  | false, cs => cs.headD undef
section
variable {P : Program}
/-- Values of this type, of these kinds of cells, are equal when their cells are. -/
def EqAt' (P : Program) (m : Nat) (t : TypeId) (agg : Bool) (sh : List (Option Sh)) : Prop := ∀ (d : Nat) (w : World) (cs ds : List Value), cs.map shOf = sh → ds.map shOf = sh → (Op.equalIn (d + m) t (valOf agg cs) (valOf agg ds)).run P w = .ok (decide (cs = ds)) w
theorem EqAt'.mono {m m' : Nat} {t : TypeId} {agg : Bool} {sh : List (Option Sh)} (h : EqAt' P m t agg sh) (hm : Nat.ble m m' = true) : EqAt' P m' t agg sh := fun d w cs ds h1 h2 => by
  have hm := Nat.le_of_ble_eq_true hm
  have := h (d + (m' - m)) w cs ds h1 h2
  rwa [show d + (m' - m) + m = d + m' by omega] at this
theorem sh_one {cs : List Value} {k : Option Sh} (h : cs.map shOf = [k]) : ∃ v, cs = [v] ∧ shOf v = k := by
  match cs, h with
  | [v], h => exact ⟨v, rfl, by simpa using h⟩
theorem eqat_int {t : TypeId} {k : IntKind} (hu : P.underlying t = some (.int k)) : EqAt' P 1 t false [some (.i k)] := fun d w cs ds h1 h2 => by
  obtain ⟨u, rfl, hu1⟩ := sh_one h1
  obtain ⟨v, rfl, hv1⟩ := sh_one h2
  cases u <;> simp [shOf] at hu1
  cases v <;> simp [shOf] at hv1
  subst hu1; subst hv1
  simp only [valOf, List.headD_cons]
  rw [run_equalIn_int w d t _ _ _ _ hu]
  congr 1
  rw [Bool.eq_iff_iff]
  simp
theorem eqat_bool {t : TypeId} (hu : P.underlying t = some .bool) : EqAt' P 1 t false [some .b] := fun d w cs ds h1 h2 => by
  obtain ⟨u, rfl, hu1⟩ := sh_one h1
  obtain ⟨v, rfl, hv1⟩ := sh_one h2
  cases u <;> simp [shOf] at hu1
  cases v <;> simp [shOf] at hv1
  rename_i a b
  simp only [valOf, List.headD_cons]
  rw [run_equalIn_bool w d t a b hu]
  by_cases h : a = b <;> simp [h]
theorem bytes_toList_inj {a b : ByteArray} (h : a.toList = b.toList) : a = b := by
  rw [ByteArray.toList_eq, ByteArray.toList_eq] at h
  obtain ⟨⟨x⟩⟩ := a
  obtain ⟨⟨y⟩⟩ := b
  simp at h
  rw [h]
theorem eqat_string {t : TypeId} (hu : P.underlying t = some .string) : EqAt' P 1 t false [some .s] := fun d w cs ds h1 h2 => by
  obtain ⟨u, rfl, hu1⟩ := sh_one h1
  obtain ⟨v, rfl, hv1⟩ := sh_one h2
  cases u <;> simp [shOf] at hu1
  cases v <;> simp [shOf] at hv1
  rename_i a b
  simp only [valOf, List.headD_cons]
  rw [run_equalIn_string w d t a b hu]
  by_cases h : a = b
  · simp [h]
  · have : a.toList ≠ b.toList := fun e => h (bytes_toList_inj e)
    simp [h, this]
theorem run_part {t : TypeId} {agg : Bool} {m : Nat} [T : TyInfo P t agg m] {xs : Array Value} {off : Nat} {c rest : List Value} (h : xs.toList.drop off = c ++ rest) (hc : c.length = m) (hone : agg = false → m = 1) (w : World) : (part t xs off).run P w = .ok (valOf agg c) w := by
  have h1 := T.h1
  obtain ⟨i, hi, hs⟩ := info_of T.h2
  cases hu : P.underlying t with
  | none => rw [hu] at h1; simp at h1
  | some d =>
    rw [hu] at h1
    simp only [Option.map_some, Option.some.injEq] at h1
    have ha : (isAgg t).run P w = .ok agg w := by
      subst h1
      cases d <;> simp [isAgg, run_underlying hu]
    have hsz : (sizeOf t).run P w = .ok i.size w := by simp [sizeOf, typeInfo, hi]
    unfold part
    simp only [Sem.run_bind, ha, Result.andThen_ok]
    cases agg with
    | true =>
      simp only [if_true, Sem.run_bind, hsz, Result.andThen_ok, Sem.run_pure, valOf]
      congr 2
      apply Array.toList_inj.1
      rw [Array.toList_extract]
      simp [List.extract, h, hs, ← hc]
    | false =>
      have hm := hone rfl
      subst hm
      match c, hc with
      | [v], _ =>
        have e : xs[off]? = some v := by
          have : (xs.toList.drop off)[0]? = some v := by rw [h]; rfl
          rw [List.getElem?_drop] at this
          simpa using this
        simp [e, valOf]
class EqTy (P : Program) (t : TypeId) (agg : outParam Bool) (sh : outParam (List (Option Sh))) (m : outParam Nat) : Prop where
  h : EqAt' P m t agg sh
/-- The fields, in their order. -/
inductive FieldsEq (P : Program) (m : Nat) : List Field → Nat → List (Option Sh) → Prop
  | nil {off : Nat} : FieldsEq P m [] off []
  | cons {f : Field} {fs : List Field} {off : Nat} {agg : Bool} {m' : Nat} {sh1 sh2 : List (Option Sh)} (hn : f.name ≠ "_") (ho : f.offset = off) (E : EqTy P f.type agg sh1 m') (hm : Nat.ble m' m = true) (T : TyInfo P f.type agg sh1.length) (h1 : (agg || Nat.beq sh1.length 1) = true) (r : FieldsEq P m fs (off + sh1.length) sh2) : FieldsEq P m (f :: fs) off (sh1 ++ sh2)
theorem sh_split {cs : List Value} {a b : List (Option Sh)} (h : cs.map shOf = a ++ b) : ∃ c r, cs = c ++ r ∧ c.map shOf = a ∧ r.map shOf = b ∧ c.length = a.length := by
  refine ⟨cs.take a.length, cs.drop a.length, (List.take_append_drop _ _).symm, ?_, ?_, ?_⟩
  · rw [List.map_take, h, List.take_left]
  · rw [List.map_drop, h, List.drop_left]
  · have : (cs.map shOf).length = a.length + b.length := by rw [h, List.length_append]
    rw [List.length_map] at this
    rw [List.length_take]; omega
theorem one_of {agg : Bool} {n : Nat} (h : (agg || Nat.beq n 1) = true) : agg = false → n = 1 := fun e => by subst e; simpa using h
theorem FieldsEq.run {m : Nat} {fs : List Field} {off : Nat} {sh : List (Option Sh)} (h : FieldsEq P m fs off sh) (d : Nat) (w : World) {xs ys : Array Value} (h1 : (xs.toList.drop off).map shOf = sh) (h2 : (ys.toList.drop off).map shOf = sh) :
    (Op.eqFields (d + m) xs ys fs).run P w = .ok (decide (xs.toList.drop off = ys.toList.drop off)) w := by
  induction h with
  | nil =>
    simp only [List.map_eq_nil_iff] at h1 h2
    rw [h1, h2]
    simp [Op.eqFields]
  | @cons f fs off agg m' sh1 sh2 hn ho E hm T hone r ih =>
    obtain ⟨c, r1, e1, hc, hr1, hl1⟩ := sh_split h1
    obtain ⟨c', r2, e2, hc', hr2, hl2⟩ := sh_split h2
    subst ho
    have p1 := run_part (P := P) (T := T) e1 hl1 (one_of hone) w
    have p2 := run_part (P := P) (T := T) e2 hl2 (one_of hone) w
    have q := (E.h.mono hm) d w c c' hc hc'
    have d1 : xs.toList.drop (f.offset + sh1.length) = r1 := by rw [← List.drop_drop, e1, ← hl1, List.drop_left]
    have d2 : ys.toList.drop (f.offset + sh1.length) = r2 := by rw [← List.drop_drop, e2, ← hl2, List.drop_left]
    have ih := ih (by rw [d1]; exact hr1) (by rw [d2]; exact hr2)
    rw [d1, d2] at ih
    have hsp : (c ++ r1 = c' ++ r2) ↔ (c = c' ∧ r1 = r2) := ⟨fun e => List.append_inj e (hl1.trans hl2.symm), fun ⟨a, b⟩ => by rw [a, b]⟩
    simp only [Op.eqFields, hn, ne_eq, not_false_eq_true, if_true, Sem.run_bind, p1, p2, q, Result.andThen_ok]
    by_cases hcc : c = c'
    · simp only [hcc, decide_true, Bool.not_true, Bool.false_eq_true, if_false, ih]
      congr 1
      rw [Bool.eq_iff_iff, decide_eq_true_eq, decide_eq_true_eq, e1, e2, hcc]
      exact ⟨fun e => by rw [e], fun e => List.append_cancel_left e⟩
    · have hne : ¬ (c ++ r1 = c' ++ r2) := fun e => hcc (hsp.1 e).1
      simp only [hcc, decide_false, Bool.not_false, if_true, Sem.run_pure]
      congr 1
      symm
      rw [decide_eq_false_iff_not, e1, e2]
      exact hne
theorem eqat_struct {t : TypeId} {fs : Array Field} {m : Nat} {sh : List (Option Sh)} (hu : P.underlying t = some (.struct fs)) (hp : P.stoodInHeld t = false) (h : FieldsEq P m fs.toList 0 sh) : EqAt' P (m + 1) t true sh := fun d w cs ds h1 h2 => by
  have hfs : P.fieldsOf t = fs := by simp [Program.fieldsOf, hu]
  simp only [valOf]
  rw [show d + (m + 1) = (d + m) + 1 from rfl, run_equalIn_struct w (d + m) t _ _ (by rw [hfs]; exact hu) hp, hfs, h.run d w (by simpa using h1) (by simpa using h2)]
  simp
theorem items_run {t e : TypeId} {agg : Bool} {m : Nat} {sh : List (Option Sh)} (E : EqAt' P m e agg sh) (T : TyInfo P e agg sh.length) (hone : agg = false → sh.length = 1) (d : Nat) (w : World) (xs ys : Array Value) : ∀ (n k : Nat),
    (xs.toList.drop (k * sh.length)).map shOf = (List.replicate n sh).flatten → (ys.toList.drop (k * sh.length)).map shOf = (List.replicate n sh).flatten →
    (Op.eqItems (d + m) e sh.length xs ys (List.range' k n)).run P w = .ok (decide (xs.toList.drop (k * sh.length) = ys.toList.drop (k * sh.length))) w
  | 0, k, h1, h2 => by
    simp only [List.replicate_zero, List.flatten_nil, List.map_eq_nil_iff] at h1 h2
    rw [h1, h2]
    simp [Op.eqItems]
  | n + 1, k, h1, h2 => by
    rw [List.replicate_succ, List.flatten_cons] at h1 h2
    obtain ⟨c, r1, e1, hc, hr1, hl1⟩ := sh_split h1
    obtain ⟨c', r2, e2, hc', hr2, hl2⟩ := sh_split h2
    have p1 := run_part (P := P) (T := T) e1 hl1 hone w
    have p2 := run_part (P := P) (T := T) e2 hl2 hone w
    have q := E d w c c' hc hc'
    have d1 : xs.toList.drop ((k + 1) * sh.length) = r1 := by rw [Nat.add_mul, Nat.one_mul, ← List.drop_drop, e1, ← hl1, List.drop_left]
    have d2 : ys.toList.drop ((k + 1) * sh.length) = r2 := by rw [Nat.add_mul, Nat.one_mul, ← List.drop_drop, e2, ← hl2, List.drop_left]
    have ih := items_run (t := t) E T hone d w xs ys n (k + 1) (by rw [d1]; exact hr1) (by rw [d2]; exact hr2)
    rw [d1, d2] at ih
    simp only [List.range'_succ, Op.eqItems, Sem.run_bind, p1, p2, q, Result.andThen_ok]
    by_cases hcc : c = c'
    · simp only [hcc, decide_true, Bool.not_true, Bool.false_eq_true, if_false, ih]
      congr 1
      rw [Bool.eq_iff_iff, decide_eq_true_eq, decide_eq_true_eq, e1, e2, hcc]
      exact ⟨fun e => by rw [e], fun e => List.append_cancel_left e⟩
    · have hne : ¬ (c ++ r1 = c' ++ r2) := fun e => hcc (List.append_inj e (hl1.trans hl2.symm)).1
      simp only [hcc, decide_false, Bool.not_false, if_true, Sem.run_pure]
      congr 1
      symm
      rw [decide_eq_false_iff_not, e1, e2]
      exact hne
theorem eqat_array {t e : TypeId} {n m : Nat} {agg : Bool} {sh sh' : List (Option Sh)} (hu : P.underlying t = some (.array n e)) (E : EqTy P e agg sh m) (T : TyInfo P e agg sh.length) (hone : (agg || Nat.beq sh.length 1) = true) (hs : sh' = (List.replicate n sh).flatten) : EqAt' P (m + 1) t true sh' := fun d w cs ds h1 h2 => by
  subst hs
  obtain ⟨i, hi, hs⟩ := info_of T.h2
  have hc : P.cellsOf e = sh.length := by simp [Program.cellsOf, hi, hs]
  simp only [valOf]
  rw [show d + (m + 1) = (d + m) + 1 from rfl, run_equalIn_array w (d + m) _ _ hu hi, hc, List.range_eq_range', items_run (t := t) E.h T (one_of hone) d w _ _ n 0 (by simpa using h1) (by simpa using h2)]
  simp
class NoGuard (P : Program) (t : TypeId) : Prop where
  h : P.eqGuardType P.depth t = false
theorem run_equal_agg {t : TypeId} {m : Nat} {sh : List (Option Sh)} (E : EqTy P t true sh m) (hm : Nat.ble m 10000 = true) {cs ds : List Value} (h1 : cs.map shOf = sh) (h2 : ds.map shOf = sh) (w : World) : (Op.equalIn 10000 t (.agg cs.toArray) (.agg ds.toArray)).run P w = .ok (decide (cs = ds)) w := by
  have := (E.h.mono hm) 0 w cs ds h1 h2
  simpa [valOf] using this
theorem bin_eql_agg {t : TypeId} {x y : Operand} {m : Nat} {sh : List (Option Sh)} [E : EqTy P t true sh m] [G : NoGuard P t] {cs ds : List Value} (hm : Nat.ble m 10000 = true := by rfl) (h1 : cs.map shOf = sh := by rfl) (h2 : ds.map shOf = sh := by rfl) : Bin P .eql t x y (.agg cs.toArray) (.agg ds.toArray) (.bool (decide (cs = ds))) := fun w => by
  simp only [Sem.run_bind, run_eqGuard_agg w .eql t x y _ _ G.h, Result.andThen_ok, run_eql_struct, run_equal_agg E hm h1 h2]
theorem bin_neq_agg {t : TypeId} {x y : Operand} {m : Nat} {sh : List (Option Sh)} [E : EqTy P t true sh m] [G : NoGuard P t] {cs ds : List Value} (hm : Nat.ble m 10000 = true := by rfl) (h1 : cs.map shOf = sh := by rfl) (h2 : ds.map shOf = sh := by rfl) : Bin P .neq t x y (.agg cs.toArray) (.agg ds.toArray) (.bool (!(decide (cs = ds)))) := fun w => by
  simp only [Sem.run_bind, run_eqGuard_agg w .neq t x y _ _ G.h, Result.andThen_ok, run_neq_struct, run_equal_agg E hm h1 h2]
class ArrTy (P : Program) (t : TypeId) (n : outParam Nat) (e : outParam TypeId) (agg : outParam Bool) (sz : outParam Nat) : Prop where
  h1 : P.underlying t = some (.array n e)
  h2 : TyInfo P e agg sz
  h3 : agg = false → sz = 1
class IntTy (P : Program) (t : TypeId) (k : outParam IntKind) : Prop where
  h : P.underlying t = some (.int k)
end
section
variable {P : Program} {o : Oper} {a : Act} {w w0 : World} {Q : Exit → Act → World → Prop} {n : Nat} {env : List (Nat × Value)} {L L' : List Asn} {K : Act → World → Prop} {G : List (Nat × List Value × TypeId)}
theorem run_ix {t e : TypeId} {len sz : Nat} {agg : Bool} (T : ArrTy P t len e agg sz) {cs c : List Value} {i : Int} {kd : IntKind} (h0 : 0 ≤ i) (h1 : i < (len : Int)) (hc : (cs.drop (i.toNat * sz)).take sz = c) (hl : c.length = sz) (w : World) : (Instr.index t (.agg cs.toArray) (.int kd i)).run P w = .ok (valOf agg c) w := by
  have T2 := T.h2
  obtain ⟨q, hq, hs⟩ := info_of T2.h2
  have hsz : (sizeOf e).run P w = .ok q.size w := by simp [sizeOf, typeInfo, hq]
  have hp := run_part (P := P) (T := T2) (xs := cs.toArray) (off := i.toNat * sz) (c := c) (rest := cs.drop (i.toNat * sz + sz)) (by rw [← hc]; simp [← List.drop_drop]) hl T.h3 w
  simp only [Instr.index, asIntOf, Sem.run_bind, Sem.run_pure, Result.andThen_ok, run_underlying T.h1, h0, h1, and_self, if_true, hsz, hs, hp]
theorem qix {t e : TypeId} {len sz : Nat} {x y : Operand} {cs c : List Value} {i : Int} {kd : IntKind} {d : Tmp} (hE : Env a n env) (k : ∀ a', Env a' n ((d, .agg c.toArray) :: env) → K a' w) (ho : o.op = .index t x y := by exact rfl) (T : ArrTy P t len e true sz := by infer_instance) (hx : opv env x = some (.agg cs.toArray) := by exact rfl) (hy : opv env y = some (.int kd i) := by exact rfl)
    (h0 : 0 ≤ i := by omega) (h1 : i < (len : Int) := by omega) (hc : (cs.drop (i.toNat * sz)).take sz = c := by exact rfl) (hl : c.length = sz := by exact rfl) (hd : o.dst = some d := by exact rfl) (hlt : Nat.blt d n = true := by exact rfl) : o.wp P a w K Q := by
  unfold Oper.wp execOp
  simp only [ho, hE.eval hx, hE.eval hy]
  rw [Sem.run_bind, run_ix T h0 h1 hc hl w]
  exact k _ (hE.putS _ hd hlt)
theorem qix1 {t e : TypeId} {len : Nat} {x y : Operand} {cs : List Value} {v : Value} {i : Int} {kd : IntKind} {d : Tmp} (hE : Env a n env) (k : ∀ a', Env a' n ((d, v) :: env) → K a' w) (ho : o.op = .index t x y := by exact rfl) (T : ArrTy P t len e false 1 := by infer_instance) (hx : opv env x = some (.agg cs.toArray) := by exact rfl) (hy : opv env y = some (.int kd i) := by exact rfl)
    (h0 : 0 ≤ i := by omega) (h1 : i < (len : Int) := by omega) (hc : (cs.drop (i.toNat * 1)).take 1 = [v] := by exact rfl) (hd : o.dst = some d := by exact rfl) (hlt : Nat.blt d n = true := by exact rfl) : o.wp P a w K Q := by
  unfold Oper.wp execOp
  simp only [ho, hE.eval hx, hE.eval hy]
  rw [Sem.run_bind, run_ix T h0 h1 hc rfl w]
  exact k _ (hE.putS _ hd hlt)
/-- An array's element in a block. -/
theorem qia {t e : TypeId} {len sz : Nat} {agg : Bool} {x y : Operand} {g q : Nat} {i : Int} {kd : IntKind} {d : Tmp} (hE : Env a n env) (k : ∀ a', Env a' n ((d, .pointer (some ⟨g, q + i.toNat * sz, none⟩)) :: env) → K a' w) (ho : o.op = .indexAddr t x y := by exact rfl) (T : ArrTy P t len e agg sz := by infer_instance) (hx : opv env x = some (.pointer (some ⟨g, q, none⟩)) := by exact rfl) (hy : opv env y = some (.int kd i) := by exact rfl)
    (h0 : 0 ≤ i := by omega) (h1 : i < (len : Int) := by omega) (hd : o.dst = some d := by exact rfl) (hlt : Nat.blt d n = true := by exact rfl) : o.wp P a w K Q := by
  have T2 := T.h2
  obtain ⟨u, hq, hs⟩ := info_of T2.h2
  have e1 := T.h1
  have he : P.elem t = e := by simp [Program.elem, e1]
  have hn : P.arrayLen t = len := by simp [Program.arrayLen, e1]
  have hsz : (sizeOf e).run P w = .ok u.size w := by simp [sizeOf, typeInfo, hq]
  unfold Oper.wp execOp
  simp only [ho, hE.eval hx, hE.eval hy]
  rw [Sem.run_bind, run_indexAt_array w t _ kd i (by rw [he, hn]; exact e1), hn, if_pos ⟨h0, h1⟩, he, hsz]
  simp only [Result.andThen_ok, hs, Addr.add_lit]
  exact k _ (hE.putS _ hd hlt)
theorem run_buildA {ty e : TypeId} {len sz : Nat} {agg : Bool} {zs cs : List Value} [Z : ZeroTy P ty zs] (T : ArrTy P ty len e agg sz) {ps : Array (Nat × Value)} (h : bld ((List.range len).map fun i => (i * sz, sz)) zs ps.toList = some cs) (w : World) : (Instr.build ty ps).run P w = .ok (.agg cs.toArray) w := by
  have T2 := T.h2
  obtain ⟨q, hq', hs⟩ := info_of T2.h2
  have hz := Z.h
  cases hi : P.info? ty with
  | none => rw [hi] at hz; simp at hz
  | some i =>
    rw [hi] at hz
    simp only [Option.map_some, Option.some.injEq] at hz
    cases hq : i.zero with
    | none => rw [hq] at hz; simp at hz
    | some z =>
      rw [hq] at hz
      simp only [Option.map_some, Option.some.injEq] at hz
      have hzv : (zeroValue ty).run P w = .ok z w := by simp [zeroValue, typeInfo, hi, hq]
      have hsz : (sizeOf e).run P w = .ok sz w := by simp [sizeOf, typeInfo, hq', hs]
      have hf := fill_of (fun i => some (i * sz, sz)) ((List.range len).map fun i => (i * sz, sz)) (fun i x hx => by
        rw [List.getElem?_map] at hx
        cases hq : (List.range len)[i]? with
        | none => rw [hq] at hx; simp at hx
        | some q =>
          rw [hq] at hx
          have := (List.getElem?_eq_some_iff.1 hq)
          obtain ⟨hlt', e⟩ := this
          simp at e
          subst e
          simpa using hx) ps.toList zs cs h
      have hzc : z.cells = zs.toArray := by rw [← hz]
      unfold Instr.build
      rw [Sem.run_bind, hzv]
      simp only [Result.andThen_ok]
      rw [Sem.run_bind, run_underlying T.h1]
      simp only [Result.andThen_ok]
      rw [Sem.run_bind, hsz]
      simp only [Result.andThen_ok, hzc, hf]
      rfl
theorem y_buildA {S : World → Prop} {ty e : TypeId} {len sz : Nat} {agg : Bool} {zs cs cs' : List Value} {ps : Array (Nat × Operand)} {vs : List (Nat × Value)} (ho : o.op = .build ty ps := by exact rfl) (Z : ZeroTy P ty zs := by infer_instance) (T : ArrTy P ty len e agg sz := by infer_instance) (hp : partsOf env ps.toList = some vs := by exact rfl) (hb : bld ((List.range len).map fun i => (i * sz, sz)) zs vs = some cs := by exact rfl) (hn : cs = cs' := by (try simp only [cellsL_agg, cellsL_int, cellsL_bool, cellsL_string, cellsL_slice, cellsL_pointer, cellsL_map, cellsL_func, cellsL_nilFunc, cellsL_iface, cellsL_nilIface, putL, List.length_cons, List.length_nil, List.take_succ_cons, List.take_zero, List.take_nil, List.drop_succ_cons, List.drop_zero, List.drop_nil, List.nil_append, List.cons_append, List.append_nil, Nat.reduceAdd, Nat.add_zero, Nat.zero_add]); first | done | rfl) : Y P env S o (.agg cs'.toArray) := fun a n w hE _ => by
  subst hn
  have hm : (ps.map fun (i, x) => (i, a.eval x)) = vs.toArray := by
    have := hE.parts hp
    apply Array.toList_inj.1
    simpa using this
  have hr := run_buildA (P := P) (ty := ty) T (ps := vs.toArray) hb w
  simp only [execOp, ho, hm]
  rw [Sem.run_bind, hr]; rfl
theorem qbA {ty e : TypeId} {len sz : Nat} {agg : Bool} {zs cs cs' : List Value} {ps : Array (Nat × Operand)} {vs : List (Nat × Value)} {d : Tmp} (hE : Env a n env) (k : ∀ a', Env a' n ((d, .agg cs'.toArray) :: env) → K a' w) (ho : o.op = .build ty ps := by exact rfl) (Z : ZeroTy P ty zs := by infer_instance) (T : ArrTy P ty len e agg sz := by infer_instance) (hp : partsOf env ps.toList = some vs := by exact rfl) (hb : bld ((List.range len).map fun i => (i * sz, sz)) zs vs = some cs := by exact rfl) (hn : cs = cs' := by (try simp only [cellsL_agg, cellsL_int, cellsL_bool, cellsL_string, cellsL_slice, cellsL_pointer, cellsL_map, cellsL_func, cellsL_nilFunc, cellsL_iface, cellsL_nilIface, putL, List.length_cons, List.length_nil, List.take_succ_cons, List.take_zero, List.take_nil, List.drop_succ_cons, List.drop_zero, List.drop_nil, List.nil_append, List.cons_append, List.append_nil, Nat.reduceAdd, Nat.add_zero, Nat.zero_add]); first | done | rfl) (hd : o.dst = some d := by exact rfl) (hlt : Nat.blt d n = true := by exact rfl) : o.wp P a w K Q :=
  o_val hE (y_buildA (S := fun _ => True) ho Z T hp hb hn a n w hE trivial) hd hlt k
theorem y_ix {S : World → Prop} {t e : TypeId} {len sz : Nat} {x y : Operand} {cs c : List Value} {i : Int} {kd : IntKind} (ho : o.op = .index t x y := by exact rfl) (T : ArrTy P t len e true sz := by infer_instance) (hx : opv env x = some (.agg cs.toArray) := by exact rfl) (hy : opv env y = some (.int kd i) := by exact rfl)
    (h0 : 0 ≤ i := by omega) (h1 : i < (len : Int) := by omega) (hc : (cs.drop (i.toNat * sz)).take sz = c := by exact rfl) (hl : c.length = sz := by exact rfl) : Y P env S o (.agg c.toArray) := fun a n w hE _ => by
  simp only [execOp, ho, hE.eval hx, hE.eval hy]
  rw [Sem.run_bind, run_ix T h0 h1 hc hl w]; rfl
theorem y_ix1 {S : World → Prop} {t e : TypeId} {len : Nat} {x y : Operand} {cs : List Value} {v : Value} {i : Int} {kd : IntKind} (ho : o.op = .index t x y := by exact rfl) (T : ArrTy P t len e false 1 := by infer_instance) (hx : opv env x = some (.agg cs.toArray) := by exact rfl) (hy : opv env y = some (.int kd i) := by exact rfl)
    (h0 : 0 ≤ i := by omega) (h1 : i < (len : Int) := by omega) (hc : (cs.drop (i.toNat * 1)).take 1 = [v] := by exact rfl) : Y P env S o v := fun a n w hE _ => by
  simp only [execOp, ho, hE.eval hx, hE.eval hy]
  rw [Sem.run_bind, run_ix T h0 h1 hc rfl w]; rfl
theorem y_ia {S : World → Prop} {t e : TypeId} {len sz : Nat} {agg : Bool} {x y : Operand} {g q : Nat} {i : Int} {kd : IntKind} (ho : o.op = .indexAddr t x y := by exact rfl) (T : ArrTy P t len e agg sz := by infer_instance) (hx : opv env x = some (.pointer (some ⟨g, q, none⟩)) := by exact rfl) (hy : opv env y = some (.int kd i) := by exact rfl)
    (h0 : 0 ≤ i := by omega) (h1 : i < (len : Int) := by omega) : Y P env S o (.pointer (some ⟨g, q + i.toNat * sz, none⟩)) := fun a n w hE _ => by
  have T2 := T.h2
  obtain ⟨u, hq, hs⟩ := info_of T2.h2
  have e1 := T.h1
  have he : P.elem t = e := by simp [Program.elem, e1]
  have hn : P.arrayLen t = len := by simp [Program.arrayLen, e1]
  have hsz : (sizeOf e).run P w = .ok u.size w := by simp [sizeOf, typeInfo, hq]
  simp only [execOp, ho, hE.eval hx, hE.eval hy]
  rw [Sem.run_bind, run_indexAt_array w t _ kd i (by rw [he, hn]; exact e1), hn, if_pos ⟨h0, h1⟩, he, hsz]
  simp only [Result.andThen_ok, hs, Addr.add_lit]
  rfl
theorem y_cv {S : World → Prop} {t t' : TypeId} {kd k2 : IntKind} {x : Operand} {v : Int} (ho : o.op = .convert t t' x := by exact rfl) (T : IntTy P t' k2 := by infer_instance) (T1 : IntTy P t kd := by infer_instance) (hx : opv env x = some (.int kd v) := by exact rfl) : Y P env S o (.int k2 (k2.wrap v)) := fun a n w hE _ => by
  have hk : P.intKind t' = k2 := by simp [Program.intKind, T.h]
  have h1 : (P.underlying t).isSome = true := by rw [T1.h]; rfl
  simp only [execOp, ho, hE.eval hx]
  rw [Sem.run_bind, run_convert_int w t t' kd v h1 (by rw [hk]; exact T.h), hk]; rfl
theorem qbE {t t' : TypeId} {x y : Operand} {cs ds : List Value} {m : Nat} {sh : List (Option Sh)} {d : Tmp} (hE : Env a n env) (k : ∀ a', Env a' n ((d, .bool (decide (cs = ds))) :: env) → K a' w) (ho : o.op = .binOp .eql t x y t' := by exact rfl) (E : EqTy P t true sh m := by infer_instance) (G' : NoGuard P t := by infer_instance) (hx : opv env x = some (.agg cs.toArray) := by exact rfl) (hy : opv env y = some (.agg ds.toArray) := by exact rfl) (hm : Nat.ble m 10000 = true := by exact rfl) (h1 : cs.map shOf = sh := by exact rfl) (h2 : ds.map shOf = sh := by exact rfl) (hd : o.dst = some d := by exact rfl) (hlt : Nat.blt d n = true := by exact rfl) : o.wp P a w K Q :=
  o_bin hE ho hx hy (bin_eql_agg hm h1 h2) hd hlt k
theorem qbN {t t' : TypeId} {x y : Operand} {cs ds : List Value} {m : Nat} {sh : List (Option Sh)} {d : Tmp} (hE : Env a n env) (k : ∀ a', Env a' n ((d, .bool (!(decide (cs = ds)))) :: env) → K a' w) (ho : o.op = .binOp .neq t x y t' := by exact rfl) (E : EqTy P t true sh m := by infer_instance) (G' : NoGuard P t := by infer_instance) (hx : opv env x = some (.agg cs.toArray) := by exact rfl) (hy : opv env y = some (.agg ds.toArray) := by exact rfl) (hm : Nat.ble m 10000 = true := by exact rfl) (h1 : cs.map shOf = sh := by exact rfl) (h2 : ds.map shOf = sh := by exact rfl) (hd : o.dst = some d := by exact rfl) (hlt : Nat.blt d n = true := by exact rfl) : o.wp P a w K Q :=
  o_bin hE ho hx hy (bin_neq_agg hm h1 h2) hd hlt k
theorem y_binE {S : World → Prop} {t t' : TypeId} {x y : Operand} {cs ds : List Value} {m : Nat} {sh : List (Option Sh)} (ho : o.op = .binOp .eql t x y t' := by exact rfl) (E : EqTy P t true sh m := by infer_instance) (G' : NoGuard P t := by infer_instance) (hx : opv env x = some (.agg cs.toArray) := by exact rfl) (hy : opv env y = some (.agg ds.toArray) := by exact rfl) (hm : Nat.ble m 10000 = true := by exact rfl) (h1 : cs.map shOf = sh := by exact rfl) (h2 : ds.map shOf = sh := by exact rfl) : Y P env S o (.bool (decide (cs = ds))) := y_bin ho hx hy (bin_eql_agg hm h1 h2)
theorem y_binN {S : World → Prop} {t t' : TypeId} {x y : Operand} {cs ds : List Value} {m : Nat} {sh : List (Option Sh)} (ho : o.op = .binOp .neq t x y t' := by exact rfl) (E : EqTy P t true sh m := by infer_instance) (G' : NoGuard P t := by infer_instance) (hx : opv env x = some (.agg cs.toArray) := by exact rfl) (hy : opv env y = some (.agg ds.toArray) := by exact rfl) (hm : Nat.ble m 10000 = true := by exact rfl) (h1 : cs.map shOf = sh := by exact rfl) (h2 : ds.map shOf = sh := by exact rfl) : Y P env S o (.bool (!(decide (cs = ds)))) := y_bin ho hx hy (bin_neq_agg hm h1 h2)
theorem qcv {t t' : TypeId} {kd k2 : IntKind} {x : Operand} {v : Int} {d : Tmp} (hE : Env a n env) (k : ∀ a', Env a' n ((d, .int k2 (k2.wrap v)) :: env) → K a' w) (ho : o.op = .convert t t' x := by exact rfl) (T : IntTy P t' k2 := by infer_instance) (T1 : IntTy P t kd := by infer_instance) (hx : opv env x = some (.int kd v) := by exact rfl) (hd : o.dst = some d := by exact rfl) (hlt : Nat.blt d n = true := by exact rfl) : o.wp P a w K Q := by
  have hk : P.intKind t' = k2 := by simp [Program.intKind, T.h]
  have h1 : (P.underlying t).isSome = true := by rw [T1.h]; rfl
  unfold Oper.wp execOp
  simp only [ho, hE.eval hx]
  rw [Sem.run_bind, run_convert_int w t t' kd v h1 (by rw [hk]; exact T.h), hk]
  exact k _ (hE.putS _ hd hlt)
theorem run_field {t ft : TypeId} {f off m : Nat} {agg : Bool} {fs : Array Field} {fd : Field} (hu : P.underlying t = some (.struct fs)) (hf : fs[f]? = some fd) (ho : fd.offset = off) (ht : fd.type = ft) (T : TyInfo P ft agg m) (hone : agg = false → m = 1) {cs c : List Value} (hc : (cs.drop off).take m = c) (hl : c.length = m) (w : World) : (Instr.field t (.agg cs.toArray) f).run P w = .ok (valOf agg c) w := by
  subst ho; subst ht
  have hp := run_part (P := P) (T := T) (xs := cs.toArray) (off := fd.offset) (c := c) (rest := cs.drop (fd.offset + m)) (by rw [← hc]; simp [← List.drop_drop]) hl hone w
  simp [Instr.field, run_underlying hu, hf, hp, asAgg]
class FldTy (P : Program) (t : TypeId) (f : Nat) (off : outParam Nat) (agg : outParam Bool) (m : outParam Nat) : Prop where
  h : ∃ fs fd, P.underlying t = some (.struct fs) ∧ fs[f]? = some fd ∧ fd.offset = off ∧ TyInfo P fd.type agg m
  h1 : (agg || Nat.beq m 1) = true
theorem qfd {t : TypeId} {f off m : Nat} {x : Operand} {cs c : List Value} {d : Tmp} (hE : Env a n env) (k : ∀ a', Env a' n ((d, .agg c.toArray) :: env) → K a' w) (ho : o.op = .field t x f := by exact rfl) (T : FldTy P t f off true m := by infer_instance) (hx : opv env x = some (.agg cs.toArray) := by exact rfl) (hc : (cs.drop off).take m = c := by exact rfl) (hl : c.length = m := by exact rfl) (hd : o.dst = some d := by exact rfl) (hlt : Nat.blt d n = true := by exact rfl) : o.wp P a w K Q := by
  obtain ⟨fs, fd, hu, hf, h1, h2⟩ := T.h
  unfold Oper.wp execOp
  simp only [ho, hE.eval hx]
  rw [Sem.run_bind, run_field hu hf h1 rfl h2 (one_of T.h1) hc hl w]
  exact k _ (hE.putS _ hd hlt)
theorem qfd1 {t : TypeId} {f off : Nat} {x : Operand} {cs : List Value} {v : Value} {d : Tmp} (hE : Env a n env) (k : ∀ a', Env a' n ((d, v) :: env) → K a' w) (ho : o.op = .field t x f := by exact rfl) (T : FldTy P t f off false 1 := by infer_instance) (hx : opv env x = some (.agg cs.toArray) := by exact rfl) (hc : (cs.drop off).take 1 = [v] := by exact rfl) (hd : o.dst = some d := by exact rfl) (hlt : Nat.blt d n = true := by exact rfl) : o.wp P a w K Q := by
  obtain ⟨fs, fd, hu, hf, h1, h2⟩ := T.h
  unfold Oper.wp execOp
  simp only [ho, hE.eval hx]
  rw [Sem.run_bind, run_field hu hf h1 rfl h2 (one_of T.h1) hc rfl w]
  exact k _ (hE.putS _ hd hlt)
theorem y_fd {S : World → Prop} {t : TypeId} {f off m : Nat} {x : Operand} {cs c : List Value} (ho : o.op = .field t x f := by exact rfl) (T : FldTy P t f off true m := by infer_instance) (hx : opv env x = some (.agg cs.toArray) := by exact rfl) (hc : (cs.drop off).take m = c := by exact rfl) (hl : c.length = m := by exact rfl) : Y P env S o (.agg c.toArray) := fun a n w hE _ => by
  obtain ⟨fs, fd, hu, hf, h1, h2⟩ := T.h
  simp only [execOp, ho, hE.eval hx]
  rw [Sem.run_bind, run_field hu hf h1 rfl h2 (one_of T.h1) hc hl w]; rfl
theorem y_fd1 {S : World → Prop} {t : TypeId} {f off : Nat} {x : Operand} {cs : List Value} {v : Value} (ho : o.op = .field t x f := by exact rfl) (T : FldTy P t f off false 1 := by infer_instance) (hx : opv env x = some (.agg cs.toArray) := by exact rfl) (hc : (cs.drop off).take 1 = [v] := by exact rfl) : Y P env S o v := fun a n w hE _ => by
  obtain ⟨fs, fd, hu, hf, h1, h2⟩ := T.h
  simp only [execOp, ho, hE.eval hx]
  rw [Sem.run_bind, run_field hu hf h1 rfl h2 (one_of T.h1) hc rfl w]; rfl
theorem y_load0s {α : Type} {f : α → List Value} {l : List α} {df : α} {ty m : TypeId} {x : Operand} {ad : Addr} {i : Int} {us : List Value} (hf : ∀ x, (f x).length = m) (hA : At w0 ad (l.flatMap f)) (hus : f (l.getD i.toNat df) = us)
    (ho : o.op = .load ty x := by exact rfl) (T : TyInfo P ty true m := by infer_instance) (hx : opv env x = some (.pointer (some (ad.add (i.toNat * m)))) := by exact rfl) (h0 : 0 ≤ i := by omega) (h1 : i < (l.length : Int) := by omega) : Y P env (SS w0 G) o (.agg us.toArray) := by
  subst hus
  exact y_loadA0 (flat_at hf hA i h0 h1 df) ho T hx (by rw [List.take_of_length_le (by rw [hf]; exact Nat.le_refl _)]) (hf _)
/-- An element of an owned row. -/
theorem qlr {ty e : TypeId} {x : Operand} {A : Option Addr} {N c : Nat} {i : Int} {xs : List Value} {v : Value} {d : Tmp} (hE : Env a n env) (hS : Sep w0 w L) (k : ∀ a', Env a' n ((d, v) :: env) → K a' w) (ho : o.op = .load ty x := by exact rfl) (T : TyInfo P ty false 1 := by infer_instance) (hx : opv env x = some (.pointer (some ((adr A).add (i.toNat * 1)))) := by exact rfl)
    (hp : Pull (row e 1 (.slice A N c) N xs) L L' := by repeat (first | exact Pull.here | apply Pull.there)) (hv : xs[i.toNat * 1]? = some v := by exact rfl) (hd : o.dst = some d := by exact rfl) (hlt : Nat.blt d n = true := by exact rfl) : o.wp P a w K Q := by
  have hA := ((Rd.row hS hp).at_).drop (i.toNat * 1)
  have hlt' : i.toNat * 1 < xs.length := (List.getElem?_eq_some_iff.1 hv).1
  have e1 : xs.drop (i.toNat * 1) = v :: xs.drop (i.toNat * 1 + 1) := by rw [← (List.getElem?_eq_some_iff.1 hv).2]; exact List.drop_eq_getElem_cons hlt'
  rw [e1] at hA
  have h := run_loadAt (P := P) (ty := ty) (us := [v]) hA rfl rfl (fun _ => rfl)
  exact o_val hE (by simp only [execOp, ho, hE.eval hx]; rw [Sem.run_bind, h]; rfl) hd hlt k
/-- A cut behind a drawn region. -/
theorem c_midr {id : Nat} {ops : Array Oper} {c2 : Code} {I : Act → World → Prop} (h1 : (Code.region id ops true).wp P (Exit.then I Q) a w) (h2 : ∀ a w, I a w → c2.wp P Q a w) : ((Code.region id ops true).seq c2).wp P Q a w :=
  wp_seq (Code.wp_mono (fun e a w h => by cases e <;> first | exact h2 _ _ h | exact h) h1)
inductive Sub : List Asn → List Asn → Prop
  | nil {L : List Asn} : Sub L []
  | cons {x : Asn} {L L' M : List Asn} (h : Pull x L L') (r : Sub L' M) : Sub L (x :: M)
theorem SepL.sub {w : World} : ∀ {L M : List Asn} {F : Foot}, Sub L M → SepL w L F → ∃ F', SepL w M F' ∧ ∀ k, F' k → F k
  | _, [], F, _, _ => ⟨fun _ => False, fun _ h => h, fun _ h => h.elim⟩
  | L, x :: M, F, .cons h r, hL => by
    obtain ⟨F1, F2, hF, hd, hA, hR⟩ := SepL.pull h hL
    obtain ⟨F', hM, hs⟩ := SepL.sub r hR
    exact ⟨fun k => F1 k ∨ F' k, ⟨F1, F', fun k => Iff.rfl, fun k h1 h2 => hd k h1 (hs k h2), hA, hM⟩, fun k hk => (hF k).2 (hk.imp id (hs k))⟩
theorem Sep.sub {w0 w : World} {L M : List Asn} (h : Sep w0 w L) (s : Sub L M := by repeat (first | exact Sub.nil | (apply Sub.cons; (repeat (first | exact Pull.here | apply Pull.there))))) : Sep w0 w M := by
  obtain ⟨F, hL, hr⟩ := h.own
  obtain ⟨F', hM, hs⟩ := SepL.sub s hL
  exact ⟨h.below, F', hM, fun k hk => hr k (hs k hk)⟩
theorem rg_e3 {ops : Array Oper} {listed : Array Bool} {fuel : Nat} (i j k : Nat) (hr : Region.ready .any ops listed = [i, j, k])
    (h1 : ∀ K : Act → World → Prop, (∀ a' w', SS w0 G w' → wpAnyH P .any ops Q (SS w0 G) fuel (listed.setIfInBounds i true) a' w' → K a' w') → wpOp P ops Q i K a w)
    (h2 : ∀ K : Act → World → Prop, (∀ a' w', SS w0 G w' → wpAnyH P .any ops Q (SS w0 G) fuel (listed.setIfInBounds j true) a' w' → K a' w') → wpOp P ops Q j K a w)
    (h3 : ∀ K : Act → World → Prop, (∀ a' w', SS w0 G w' → wpAnyH P .any ops Q (SS w0 G) fuel (listed.setIfInBounds k true) a' w' → K a' w') → wpOp P ops Q k K a w) : wpAnyH P .any ops Q (SS w0 G) (fuel + 1) listed a w :=
  wpAnyH_all hr (by simp) fun q hq => by
    simp only [List.mem_cons, List.not_mem_nil, or_false] at hq
    rcases hq with rfl | rfl | rfl
    · exact h1 _ (fun a' w' h1 h2 => ⟨h1, h2⟩)
    · exact h2 _ (fun a' w' h1 h2 => ⟨h1, h2⟩)
    · exact h3 _ (fun a' w' h1 h2 => ⟨h1, h2⟩)
/-- A loop of at most k rounds, round by round. -/
theorem c_unroll {c : Code} (k : Nat) (h : Code.rounds P c Q k a w) : (Code.loop c).wp P Q a w := wp_loop_rounds k h
theorem c_rnd {c : Code} {k : Nat} (h : c.wp P (Exit.then (Code.rounds P c Q k) Q) a w) : Code.rounds P c Q (k + 1) a w := h
end
end Go.Sx

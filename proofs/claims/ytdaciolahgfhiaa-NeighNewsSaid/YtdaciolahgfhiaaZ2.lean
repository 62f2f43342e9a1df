/- DERIVED. Texts Sm, Ty, A1, A2, A3, A4, A5, A6, A7, A8, A9, A10 of this session, put together by a program of it (merge.py). No condition. -/
import Derived.Maps.Own
import Derived.Maps.Views
import Derived.Test.YtdaciolahgfhiaaProg
import Derived.KernelRfl
import Derived.Test.YtdaciolahgfhiaaZ1
/- DERIVED. Maps with keys of an integer kind, as functions; calls of function values. No condition. -/
namespace Go.Sx
open Go.RowKit
set_option linter.unusedVariables false
set_option linter.unusedSimpArgs false
/-- How a map's value reads: as itself. -/
def asIs (v : Value) : Option (DataW (Option Value) × List MemPlace) := some (.held (some v), [])
/-- The block b is a map of at most n entries, that has these. -/
def mapOwn (P : Program) (k : TypeId) (q : IntKind) (w : World) (b n : Nat) (f : Int → Option Value) : Prop :=
  ∃ D, w.ownsMap P k asIs b n D ∧ ∀ x, D.atKey (.int q x) (.held none) = .held (f x)
def mpA (P : Program) (k : TypeId) (q : IntKind) (b n : Nat) (f : Int → Option Value) : Asn where
  P w F := mapOwn P k q w b n f ∧ ∀ i, F i ↔ i = b
  move := by
    rintro w w' F ⟨⟨D, ⟨es, clock, hb, h1, h2, h3⟩, h⟩, hF⟩ hm
    exact ⟨⟨D, ⟨es, clock, (hm b ((hF b).2 rfl)).trans hb, h1, h2, h3⟩, h⟩, hF⟩
class MapTy (P : Program) (t : TypeId) (k e : outParam TypeId) (q : outParam IntKind) (z : outParam Value) : Prop where
  h1 : P.underlying t = some (.map k e)
  h2 : P.underlying k = some (.int q)
  h3 : (P.info? e).map (·.zero) = some (some z)
theorem mp_zero {P : Program} {t k e : TypeId} {q : IntKind} {z : Value} (T : MapTy P t k e q z) (w : World) : (zeroValue e).run P w = .ok z w := by
  have h := T.h3
  cases hi : P.info? e with
  | none => rw [hi] at h; simp at h
  | some i =>
    rw [hi] at h
    have hz : i.zero = some z := by simpa using h
    simp [zeroValue, typeInfo, hi, hz]
section
variable {P : Program} {o : Oper} {a : Act} {w w0 : World} {Q : Exit → Act → World → Prop} {n : Nat} {env : List (Nat × Value)} {L L' : List Asn} {K : Act → World → Prop}
theorem Sep.map_at {k : TypeId} {q : IntKind} {b m : Nat} {f : Int → Option Value} (h : Sep w0 w L) (hp : Pull (mpA P k q b m f) L L' := by repeat (first | exact Pull.here | apply Pull.there)) : mapOwn P k q w b m f := by
  obtain ⟨F, ⟨F1, F2, _, _, hA, _⟩, _⟩ := (h.pull hp).own
  exact hA.1
/-- A new map. -/
theorem qmk {t k e : TypeId} {q : IntKind} {z : Value} {d : Tmp} (hE : Env a n env) (hS : Sep w0 w L) (kk : ∀ b a' w', Env a' n ((d, .map (some b)) :: env) → Sep w0 w' (mpA P k q b 0 (fun _ => none) :: L) → K a' w') (ho : o.op = .makeMap t none := by exact rfl) (T : MapTy P t k e q z := by infer_instance) (hd : o.dst = some d := by exact rfl) (hlt : Nat.blt d n = true := by exact rfl) : o.wp P a w K Q := by
  have hr : (execOp a.eval o).run P w = .ok (.value (.map (some w.heap.size))) (w.alloc (.map #[] 0)) := by
    simp [execOp, ho, run_makeMap]
  unfold Oper.wp
  rw [hr]
  refine kk _ _ _ (hE.putS _ hd hlt) (hS.new _ fun w' hw => ⟨⟨.map [], ⟨#[], 0, hw, ⟨by simp, MapKept.stamped_empty 0, by simp⟩, Nat.le_refl _, rfl⟩, fun x => rfl⟩, fun _ => Iff.rfl⟩)
theorem look_at {t k e : TypeId} {q : IntKind} {z : Value} (T : MapTy P t k e q z) {b m : Nat} {f : Int → Option Value} (h : mapOwn P k q w b m f) {x : Int} (hx : (Lit.int q x).wf = true) (c : Bool) :
    (Instr.lookup t (.map (some b)) (.int q x) c).run P w = .ok (if c then .tuple #[(f x).getD z, .bool (f x).isSome] else (f x).getD z) w := by
  obtain ⟨D, ⟨es, clock, hb, F, _, rfl⟩, hD⟩ := h
  have hkey := Maps.keyOf_int_mk T.h2 hx
  rcases Maps.fit_look c (Maps.int_keyed T.h2) T.h1 (mp_zero T w) hb F hkey with ⟨hrun, _, hat⟩ | ⟨e0, y, _, _, hrun, hRv, hat, _⟩
  · have h1 := (hat (.held none)).symm.trans (hD x)
    have h2 : f x = none := by injection h1 with h1; exact h1.symm
    rw [hrun, h2]
    rfl
  · have h1 := (hat (.held none)).symm.trans (hD x)
    have h3 : y = (.held (some e0.val), []) := by
      have : asIs e0.val = some y := hRv
      exact (Option.some.inj this).symm
    subst h3
    have h2 : f x = some e0.val := by injection h1 with h1; exact h1.symm
    rw [hrun, h2]
    rfl
/-- m[k]. -/
theorem qlk {t k e : TypeId} {q : IntKind} {z v : Value} {m x : Operand} {b N : Nat} {f : Int → Option Value} {i : Int} {d : Tmp} (hE : Env a n env) (hS : Sep w0 w L) (hx : (Lit.int q i).wf = true) (hv : (f i).getD z = v) (kk : ∀ a', Env a' n ((d, v) :: env) → K a' w) (ho : o.op = .lookup t m x false := by exact rfl) (T : MapTy P t k e q z := by infer_instance)
    (hm : opv env m = some (.map (some b)) := by exact rfl) (hi : opv env x = some (.int q i) := by exact rfl) (hp : Pull (mpA P k q b N f) L L' := by repeat (first | exact Pull.here | apply Pull.there)) (hd : o.dst = some d := by exact rfl) (hlt : Nat.blt d n = true := by exact rfl) : o.wp P a w K Q := by
  subst hv
  exact o_val hE (by simp [execOp, ho, hE.eval hm, hE.eval hi, look_at T (hS.map_at hp) hx]) hd hlt kk
/-- m[k], and whether it is there. -/
theorem qlk2 {t k e : TypeId} {q : IntKind} {z v : Value} {c : Bool} {m x : Operand} {b N : Nat} {f : Int → Option Value} {i : Int} {d : Tmp} (hE : Env a n env) (hS : Sep w0 w L) (hx : (Lit.int q i).wf = true) (hv : (f i).getD z = v) (hc : (f i).isSome = c) (kk : ∀ a', Env a' n ((d, .tuple #[v, .bool c]) :: env) → K a' w) (ho : o.op = .lookup t m x true := by exact rfl) (T : MapTy P t k e q z := by infer_instance)
    (hm : opv env m = some (.map (some b)) := by exact rfl) (hi : opv env x = some (.int q i) := by exact rfl) (hp : Pull (mpA P k q b N f) L L' := by repeat (first | exact Pull.here | apply Pull.there)) (hd : o.dst = some d := by exact rfl) (hlt : Nat.blt d n = true := by exact rfl) : o.wp P a w K Q := by
  subst hv hc
  exact o_val hE (by simp [execOp, ho, hE.eval hm, hE.eval hi, look_at T (hS.map_at hp) hx]) hd hlt kk
def fput (f : Int → Option Value) (i : Int) (v : Value) : Int → Option Value := fun x => if x = i then some v else f x
/-- m[k] = v. -/
theorem qup {t k e : TypeId} {q : IntKind} {z v : Value} {m x y : Operand} {b N : Nat} {f : Int → Option Value} {i : Int} (hE : Env a n env) (hS : Sep w0 w L) (hx : (Lit.int q i).wf = true) (kk : ∀ w', Sep w0 w' (mpA P k q b (N + 1) (fput f i v) :: L') → K a w') (ho : o.op = .mapUpdate t m x y := by exact rfl) (T : MapTy P t k e q z := by infer_instance)
    (hm : opv env m = some (.map (some b)) := by exact rfl) (hi : opv env x = some (.int q i) := by exact rfl) (hy : opv env y = some v := by exact rfl) (hp : Pull (mpA P k q b N f) L L' := by repeat (first | exact Pull.here | apply Pull.there)) (hN : N < maxLen := by first | omega | (unfold maxLen; omega)) (hd : o.dst = none := by exact rfl) : o.wp P a w K Q := by
  obtain ⟨D, hown, hD⟩ := hS.map_at hp
  have hkey := Maps.keyOf_int_mk T.h2 hx
  obtain ⟨w', hrun, hown', hg⟩ := hown.update (Maps.int_keyed T.h2) T.h1 hN hkey (rfl : asIs v = some _)
  have hr : (execOp a.eval o).run P w = .ok .skip w' ∨ (execOp a.eval o).run P w = .ok (.value undef) w' := by
    first
    | exact .inl (by simp [execOp, ho, hE.eval hm, hE.eval hi, hE.eval hy, hrun])
    | exact .inr (by simp [execOp, ho, hE.eval hm, hE.eval hi, hE.eval hy, hrun])
  have hf : ∀ x, (D.put (.int q i) (.held (some v))).atKey (.int q x) (.held none) = .held (fput f i v x) := fun x => by
    have hmD : Maps.IsMap D := by
      obtain ⟨es, clock, _, _, _, rfl⟩ := hown
      exact ⟨_, rfl⟩
    unfold fput
    by_cases e : x = i
    · subst e
      rw [if_pos rfl, Maps.atKey_put_same hmD ((Maps.int_keyed T.h2).key hkey)]
    · rw [if_neg e, Maps.atKey_put_other (fun h => e (by injection h)), hD]
  have hlt : b < w.heap.size := hown.lt
  have hS' : Sep w0 w' (mpA P k q b (N + 1) (fput f i v) :: L') := by
    refine Sep.turn (M := [mpA P k q b (N + 1) (fput f i v)]) (hS.pull hp) hg.os hg.tape hg.output hg.size fun F hA hF => ⟨fun j hj hn => hg.block j hj (fun e => hn ((hA.2 j).2 (by injection e))), fun j => j = b, ⟨fun j => j = b, fun _ => False, fun j => by simp, fun _ _ h => h, ⟨⟨_, hown', hf⟩, fun j => Iff.rfl⟩, fun _ h => h⟩, fun j hj => ?_⟩
    subst hj
    exact ⟨.inl ((hA.2 _).2 rfl), hown'.lt⟩
  have e : ∀ u, a.put o.dst u = a := fun u => by rw [hd]; rfl
  unfold Oper.wp
  rcases hr with hr | hr
  · rw [hr]
    show K (a.put o.dst undef) w'
    rw [e]
    exact kk w' hS'
  · rw [hr]
    show K (a.put o.dst undef) w'
    rw [e]
    exact kk w' hS'
/-- A function value. -/
theorem qmf2 {f : FuncId} {A B : Array Operand} {va vb : List Value} {d : Tmp} (hE : Env a n env) (k : ∀ a', Env a' n ((d, .func (.func f) va.toArray vb.toArray) :: env) → K a' w) (ho : o.op = .makeFunc (.func f) A B := by exact rfl) (ha : argsOf env A.toList = some va := by exact rfl) (hb : argsOf env B.toList = some vb := by exact rfl) (hd : o.dst = some d := by exact rfl) (hlt : Nat.blt d n = true := by exact rfl) : o.wp P a w K Q := by
  have e1 : A.map a.eval = va.toArray := Array.toList_inj.1 (by simpa using hE.args ha)
  have e2 : B.map a.eval = vb.toArray := Array.toList_inj.1 (by simpa using hE.args hb)
  refine o_makeFunc hE ho e1 e2 ?_ hd hlt k
  rfl
/-- A call of a function value. -/
theorem qcF {f : FuncId} {x : Operand} {cs : List Value} {ars : Array Operand} {ts : Array TypeId} {vs : List Value} {R : Value → World → Prop} {d : Tmp} (hE : Env a n env) (hc : Calls P f (vs ++ cs).toArray w fun e w' => ∃ v, e = .returned v ∧ R v w') (kk : ∀ v a' w', R v w' → Env a' n ((d, v) :: env) → K a' w') (ho : o.op = .call { callee := .value x, args := ars, argTypes := ts } := by exact rfl)
    (hx : opv env x = some (.func (.func f) #[] cs.toArray) := by exact rfl) (F : FnTy P f := by infer_instance) (ha : argsOf env ars.toList = some vs := by exact rfl) (hd : o.dst = some d := by exact rfl) (hlt : Nat.blt d n = true := by exact rfl) : o.wp P a w K Q := by
  obtain ⟨fn, hf, hn, hb⟩ := F.h
  have hm : ars.map a.eval = vs.toArray := Array.toList_inj.1 (by simpa using hE.args ha)
  have hr : (execOp a.eval o).run P w = .ok (.enter f (vs ++ cs).toArray) w := by
    have hb' : fn.body ≠ none := by intro h; rw [h] at hb; simp at hb
    have hn' : fn.name ≠ "runtime.NumGoroutine" := by simpa using hn
    simp [execOp, ho, resolve, hm, hE.eval hx, Deferred.ofValue, invoke, callFunc, program, Sem.run, hf, hn', hb']
  unfold Oper.wp
  rw [hr]
  refine Calls.mono hc ?_
  rintro e w' ⟨v, rfl, hR⟩
  exact kk v _ w' hR (hE.putS v hd hlt)
end
end Go.Sx
/- DERIVED. Written by a program of this session (ty.py): what the walk asks of this seat's types and functions. -/
namespace Go.Proofs.YtdaciolahgfhiaaTy
open Go.Sx
set_option maxRecDepth 100000
instance : TyInfo Try.prog 1 false 1 := ⟨by kernel_rfl, by kernel_rfl⟩
instance : ZeroTy Try.prog 1 [.nilFunc] := ⟨by kernel_rfl⟩
instance : TyInfo Try.prog 2 false 1 := ⟨by kernel_rfl, by kernel_rfl⟩
instance : ZeroTy Try.prog 2 [.int .i64 0] := ⟨by kernel_rfl⟩
instance : IntTy Try.prog 2 .i64 := ⟨Try.underlying2⟩
instance : TyInfo Try.prog 3 false 1 := ⟨by kernel_rfl, by kernel_rfl⟩
instance : ZeroTy Try.prog 3 [.int .i64 0] := ⟨by kernel_rfl⟩
instance : IntTy Try.prog 3 .i64 := ⟨Try.underlying3⟩
instance : TyInfo Try.prog 4 false 1 := ⟨by kernel_rfl, by kernel_rfl⟩
instance : ZeroTy Try.prog 4 [.bool false] := ⟨by kernel_rfl⟩
instance : BoolTy Try.prog 4 := ⟨Try.underlying4⟩
instance : TyInfo Try.prog 5 false 1 := ⟨by kernel_rfl, by kernel_rfl⟩
instance : ZeroTy Try.prog 5 [.int .u8 0] := ⟨by kernel_rfl⟩
instance : IntTy Try.prog 5 .u8 := ⟨Try.underlying5⟩
instance : TyInfo Try.prog 9 false 1 := ⟨by kernel_rfl, by kernel_rfl⟩
instance : ZeroTy Try.prog 9 [.string ⟨#[]⟩] := ⟨by kernel_rfl⟩
instance : StrTy Try.prog 9 := ⟨Try.underlying9⟩
instance : TyInfo Try.prog 12 false 1 := ⟨by kernel_rfl, by kernel_rfl⟩
instance : ZeroTy Try.prog 12 [.int .u64 0] := ⟨by kernel_rfl⟩
instance : IntTy Try.prog 12 .u64 := ⟨Try.underlying12⟩
instance : TyInfo Try.prog 20 false 1 := ⟨by kernel_rfl, by kernel_rfl⟩
instance : ZeroTy Try.prog 20 [.nilIface] := ⟨by kernel_rfl⟩
instance : TyInfo Try.prog 21 false 1 := ⟨by kernel_rfl, by kernel_rfl⟩
instance : ZeroTy Try.prog 21 [.int .i32 0] := ⟨by kernel_rfl⟩
instance : IntTy Try.prog 21 .i32 := ⟨Try.underlying21⟩
instance : TyInfo Try.prog 22 false 1 := ⟨by kernel_rfl, by kernel_rfl⟩
instance : ZeroTy Try.prog 22 [.int .u64 0] := ⟨by kernel_rfl⟩
instance : IntTy Try.prog 22 .u64 := ⟨Try.underlying22⟩
instance : TyInfo Try.prog 23 false 1 := ⟨by kernel_rfl, by kernel_rfl⟩
instance : ZeroTy Try.prog 23 [.int .u32 0] := ⟨by kernel_rfl⟩
instance : IntTy Try.prog 23 .u32 := ⟨Try.underlying23⟩
instance : TyInfo Try.prog 24 true 7 := ⟨by kernel_rfl, by kernel_rfl⟩
instance : ZeroTy Try.prog 24 [.int .u64 0, .int .u32 0, .int .i64 0, .int .i64 0, .int .i64 0, .int .i64 0, .int .i64 0] := ⟨by kernel_rfl⟩
instance : StructTy Try.prog 24 [(0, 1), (1, 1), (2, 1), (3, 1), (4, 1), (5, 1), (6, 1)] := ⟨_, Try.underlying24, by kernel_rfl⟩
instance : FldTy Try.prog 24 0 0 false 1 := ⟨⟨_, _, Try.underlying24, rfl, rfl, ⟨by kernel_rfl, by kernel_rfl⟩⟩, rfl⟩
instance : FieldTy Try.prog 24 0 0 := ⟨_, Try.underlying24, _, rfl, rfl, _, rfl, by decide⟩
instance : FldTy Try.prog 24 1 1 false 1 := ⟨⟨_, _, Try.underlying24, rfl, rfl, ⟨by kernel_rfl, by kernel_rfl⟩⟩, rfl⟩
instance : FieldTy Try.prog 24 1 1 := ⟨_, Try.underlying24, _, rfl, rfl, _, rfl, by decide⟩
instance : FldTy Try.prog 24 2 2 false 1 := ⟨⟨_, _, Try.underlying24, rfl, rfl, ⟨by kernel_rfl, by kernel_rfl⟩⟩, rfl⟩
instance : FieldTy Try.prog 24 2 2 := ⟨_, Try.underlying24, _, rfl, rfl, _, rfl, by decide⟩
instance : FldTy Try.prog 24 3 3 false 1 := ⟨⟨_, _, Try.underlying24, rfl, rfl, ⟨by kernel_rfl, by kernel_rfl⟩⟩, rfl⟩
instance : FieldTy Try.prog 24 3 3 := ⟨_, Try.underlying24, _, rfl, rfl, _, rfl, by decide⟩
instance : FldTy Try.prog 24 4 4 false 1 := ⟨⟨_, _, Try.underlying24, rfl, rfl, ⟨by kernel_rfl, by kernel_rfl⟩⟩, rfl⟩
instance : FieldTy Try.prog 24 4 4 := ⟨_, Try.underlying24, _, rfl, rfl, _, rfl, by decide⟩
instance : FldTy Try.prog 24 5 5 false 1 := ⟨⟨_, _, Try.underlying24, rfl, rfl, ⟨by kernel_rfl, by kernel_rfl⟩⟩, rfl⟩
instance : FieldTy Try.prog 24 5 5 := ⟨_, Try.underlying24, _, rfl, rfl, _, rfl, by decide⟩
instance : FldTy Try.prog 24 6 6 false 1 := ⟨⟨_, _, Try.underlying24, rfl, rfl, ⟨by kernel_rfl, by kernel_rfl⟩⟩, rfl⟩
instance : FieldTy Try.prog 24 6 6 := ⟨_, Try.underlying24, _, rfl, rfl, _, rfl, by decide⟩
instance : TyInfo Try.prog 25 true 7 := ⟨by kernel_rfl, by kernel_rfl⟩
instance : ZeroTy Try.prog 25 [.int .u64 0, .int .u32 0, .int .i64 0, .int .i64 0, .int .i64 0, .int .i64 0, .int .i64 0] := ⟨by kernel_rfl⟩
instance : StructTy Try.prog 25 [(0, 1), (1, 1), (2, 1), (3, 1), (4, 1), (5, 1), (6, 1)] := ⟨_, Try.underlying25, by kernel_rfl⟩
instance : FldTy Try.prog 25 0 0 false 1 := ⟨⟨_, _, Try.underlying25, rfl, rfl, ⟨by kernel_rfl, by kernel_rfl⟩⟩, rfl⟩
instance : FieldTy Try.prog 25 0 0 := ⟨_, Try.underlying25, _, rfl, rfl, _, rfl, by decide⟩
instance : FldTy Try.prog 25 1 1 false 1 := ⟨⟨_, _, Try.underlying25, rfl, rfl, ⟨by kernel_rfl, by kernel_rfl⟩⟩, rfl⟩
instance : FieldTy Try.prog 25 1 1 := ⟨_, Try.underlying25, _, rfl, rfl, _, rfl, by decide⟩
instance : FldTy Try.prog 25 2 2 false 1 := ⟨⟨_, _, Try.underlying25, rfl, rfl, ⟨by kernel_rfl, by kernel_rfl⟩⟩, rfl⟩
instance : FieldTy Try.prog 25 2 2 := ⟨_, Try.underlying25, _, rfl, rfl, _, rfl, by decide⟩
instance : FldTy Try.prog 25 3 3 false 1 := ⟨⟨_, _, Try.underlying25, rfl, rfl, ⟨by kernel_rfl, by kernel_rfl⟩⟩, rfl⟩
instance : FieldTy Try.prog 25 3 3 := ⟨_, Try.underlying25, _, rfl, rfl, _, rfl, by decide⟩
instance : FldTy Try.prog 25 4 4 false 1 := ⟨⟨_, _, Try.underlying25, rfl, rfl, ⟨by kernel_rfl, by kernel_rfl⟩⟩, rfl⟩
instance : FieldTy Try.prog 25 4 4 := ⟨_, Try.underlying25, _, rfl, rfl, _, rfl, by decide⟩
instance : FldTy Try.prog 25 5 5 false 1 := ⟨⟨_, _, Try.underlying25, rfl, rfl, ⟨by kernel_rfl, by kernel_rfl⟩⟩, rfl⟩
instance : FieldTy Try.prog 25 5 5 := ⟨_, Try.underlying25, _, rfl, rfl, _, rfl, by decide⟩
instance : FldTy Try.prog 25 6 6 false 1 := ⟨⟨_, _, Try.underlying25, rfl, rfl, ⟨by kernel_rfl, by kernel_rfl⟩⟩, rfl⟩
instance : FieldTy Try.prog 25 6 6 := ⟨_, Try.underlying25, _, rfl, rfl, _, rfl, by decide⟩
instance : TyInfo Try.prog 26 false 1 := ⟨by kernel_rfl, by kernel_rfl⟩
instance : ZeroTy Try.prog 26 [.pointer none] := ⟨by kernel_rfl⟩
instance : PtrTy Try.prog 26 := ⟨_, Try.underlying26⟩
instance : TyInfo Try.prog 27 false 1 := ⟨by kernel_rfl, by kernel_rfl⟩
instance : ZeroTy Try.prog 27 [.int .i64 0] := ⟨by kernel_rfl⟩
instance : IntTy Try.prog 27 .i64 := ⟨Try.underlying27⟩
instance : TyInfo Try.prog 29 false 1 := ⟨by kernel_rfl, by kernel_rfl⟩
instance : ZeroTy Try.prog 29 [.nilFunc] := ⟨by kernel_rfl⟩
instance : TyInfo Try.prog 30 false 1 := ⟨by kernel_rfl, by kernel_rfl⟩
instance : ZeroTy Try.prog 30 [.pointer none] := ⟨by kernel_rfl⟩
instance : PtrTy Try.prog 30 := ⟨_, Try.underlying30⟩
instance : TyInfo Try.prog 32 false 1 := ⟨by kernel_rfl, by kernel_rfl⟩
instance : ZeroTy Try.prog 32 [.nilFunc] := ⟨by kernel_rfl⟩
instance : TyInfo Try.prog 33 false 1 := ⟨by kernel_rfl, by kernel_rfl⟩
instance : ZeroTy Try.prog 33 [.slice none 0 0] := ⟨by kernel_rfl⟩
instance : SliceTy Try.prog 33 78 2 := ⟨Try.underlying33, by kernel_rfl, by decide⟩
instance : AppTy Try.prog 33 78 2 := ⟨Try.underlying33, by kernel_rfl, by decide⟩
instance : TyInfo Try.prog 34 false 1 := ⟨by kernel_rfl, by kernel_rfl⟩
instance : ZeroTy Try.prog 34 [.nilFunc] := ⟨by kernel_rfl⟩
instance : TyInfo Try.prog 35 false 1 := ⟨by kernel_rfl, by kernel_rfl⟩
instance : ZeroTy Try.prog 35 [.nilFunc] := ⟨by kernel_rfl⟩
instance : TyInfo Try.prog 36 false 1 := ⟨by kernel_rfl, by kernel_rfl⟩
instance : ZeroTy Try.prog 36 [.nilFunc] := ⟨by kernel_rfl⟩
instance : TyInfo Try.prog 37 false 1 := ⟨by kernel_rfl, by kernel_rfl⟩
instance : ZeroTy Try.prog 37 [.nilFunc] := ⟨by kernel_rfl⟩
instance : TyInfo Try.prog 38 false 1 := ⟨by kernel_rfl, by kernel_rfl⟩
instance : ZeroTy Try.prog 38 [.slice none 0 0] := ⟨by kernel_rfl⟩
instance : SliceTy Try.prog 38 43 9 := ⟨Try.underlying38, by kernel_rfl, by decide⟩
instance : AppTy Try.prog 38 43 9 := ⟨Try.underlying38, by kernel_rfl, by decide⟩
instance : TyInfo Try.prog 39 false 1 := ⟨by kernel_rfl, by kernel_rfl⟩
instance : ZeroTy Try.prog 39 [.nilFunc] := ⟨by kernel_rfl⟩
instance : TyInfo Try.prog 40 true 5 := ⟨by kernel_rfl, by kernel_rfl⟩
instance : ZeroTy Try.prog 40 [.int .i64 0, .int .u64 0, .int .u32 0, .int .u64 0, .int .u32 0] := ⟨by kernel_rfl⟩
instance : StructTy Try.prog 40 [(0, 1), (1, 1), (2, 1), (3, 1), (4, 1)] := ⟨_, Try.underlying40, by kernel_rfl⟩
instance : FldTy Try.prog 40 0 0 false 1 := ⟨⟨_, _, Try.underlying40, rfl, rfl, ⟨by kernel_rfl, by kernel_rfl⟩⟩, rfl⟩
instance : FieldTy Try.prog 40 0 0 := ⟨_, Try.underlying40, _, rfl, rfl, _, rfl, by decide⟩
instance : FldTy Try.prog 40 1 1 false 1 := ⟨⟨_, _, Try.underlying40, rfl, rfl, ⟨by kernel_rfl, by kernel_rfl⟩⟩, rfl⟩
instance : FieldTy Try.prog 40 1 1 := ⟨_, Try.underlying40, _, rfl, rfl, _, rfl, by decide⟩
instance : FldTy Try.prog 40 2 2 false 1 := ⟨⟨_, _, Try.underlying40, rfl, rfl, ⟨by kernel_rfl, by kernel_rfl⟩⟩, rfl⟩
instance : FieldTy Try.prog 40 2 2 := ⟨_, Try.underlying40, _, rfl, rfl, _, rfl, by decide⟩
instance : FldTy Try.prog 40 3 3 false 1 := ⟨⟨_, _, Try.underlying40, rfl, rfl, ⟨by kernel_rfl, by kernel_rfl⟩⟩, rfl⟩
instance : FieldTy Try.prog 40 3 3 := ⟨_, Try.underlying40, _, rfl, rfl, _, rfl, by decide⟩
instance : FldTy Try.prog 40 4 4 false 1 := ⟨⟨_, _, Try.underlying40, rfl, rfl, ⟨by kernel_rfl, by kernel_rfl⟩⟩, rfl⟩
instance : FieldTy Try.prog 40 4 4 := ⟨_, Try.underlying40, _, rfl, rfl, _, rfl, by decide⟩
instance : TyInfo Try.prog 41 true 5 := ⟨by kernel_rfl, by kernel_rfl⟩
instance : ZeroTy Try.prog 41 [.int .i64 0, .int .u64 0, .int .u32 0, .int .u64 0, .int .u32 0] := ⟨by kernel_rfl⟩
instance : StructTy Try.prog 41 [(0, 1), (1, 1), (2, 1), (3, 1), (4, 1)] := ⟨_, Try.underlying41, by kernel_rfl⟩
instance : FldTy Try.prog 41 0 0 false 1 := ⟨⟨_, _, Try.underlying41, rfl, rfl, ⟨by kernel_rfl, by kernel_rfl⟩⟩, rfl⟩
instance : FieldTy Try.prog 41 0 0 := ⟨_, Try.underlying41, _, rfl, rfl, _, rfl, by decide⟩
instance : FldTy Try.prog 41 1 1 false 1 := ⟨⟨_, _, Try.underlying41, rfl, rfl, ⟨by kernel_rfl, by kernel_rfl⟩⟩, rfl⟩
instance : FieldTy Try.prog 41 1 1 := ⟨_, Try.underlying41, _, rfl, rfl, _, rfl, by decide⟩
instance : FldTy Try.prog 41 2 2 false 1 := ⟨⟨_, _, Try.underlying41, rfl, rfl, ⟨by kernel_rfl, by kernel_rfl⟩⟩, rfl⟩
instance : FieldTy Try.prog 41 2 2 := ⟨_, Try.underlying41, _, rfl, rfl, _, rfl, by decide⟩
instance : FldTy Try.prog 41 3 3 false 1 := ⟨⟨_, _, Try.underlying41, rfl, rfl, ⟨by kernel_rfl, by kernel_rfl⟩⟩, rfl⟩
instance : FieldTy Try.prog 41 3 3 := ⟨_, Try.underlying41, _, rfl, rfl, _, rfl, by decide⟩
instance : FldTy Try.prog 41 4 4 false 1 := ⟨⟨_, _, Try.underlying41, rfl, rfl, ⟨by kernel_rfl, by kernel_rfl⟩⟩, rfl⟩
instance : FieldTy Try.prog 41 4 4 := ⟨_, Try.underlying41, _, rfl, rfl, _, rfl, by decide⟩
instance : TyInfo Try.prog 42 true 9 := ⟨by kernel_rfl, by kernel_rfl⟩
instance : ZeroTy Try.prog 42 [.int .i64 0, .int .u32 0, .string ⟨#[]⟩, .int .i64 0, .int .u64 0, .int .u32 0, .int .u64 0, .int .u32 0, .int .i64 0] := ⟨by kernel_rfl⟩
instance : StructTy Try.prog 42 [(0, 1), (1, 1), (2, 1), (3, 5), (8, 1)] := ⟨_, Try.underlying42, by kernel_rfl⟩
instance : FldTy Try.prog 42 0 0 false 1 := ⟨⟨_, _, Try.underlying42, rfl, rfl, ⟨by kernel_rfl, by kernel_rfl⟩⟩, rfl⟩
instance : FieldTy Try.prog 42 0 0 := ⟨_, Try.underlying42, _, rfl, rfl, _, rfl, by decide⟩
instance : FldTy Try.prog 42 1 1 false 1 := ⟨⟨_, _, Try.underlying42, rfl, rfl, ⟨by kernel_rfl, by kernel_rfl⟩⟩, rfl⟩
instance : FieldTy Try.prog 42 1 1 := ⟨_, Try.underlying42, _, rfl, rfl, _, rfl, by decide⟩
instance : FldTy Try.prog 42 2 2 false 1 := ⟨⟨_, _, Try.underlying42, rfl, rfl, ⟨by kernel_rfl, by kernel_rfl⟩⟩, rfl⟩
instance : FieldTy Try.prog 42 2 2 := ⟨_, Try.underlying42, _, rfl, rfl, _, rfl, by decide⟩
instance : FldTy Try.prog 42 3 3 true 5 := ⟨⟨_, _, Try.underlying42, rfl, rfl, ⟨by kernel_rfl, by kernel_rfl⟩⟩, rfl⟩
instance : FieldTy Try.prog 42 3 3 := ⟨_, Try.underlying42, _, rfl, rfl, _, rfl, by decide⟩
instance : FldTy Try.prog 42 4 8 false 1 := ⟨⟨_, _, Try.underlying42, rfl, rfl, ⟨by kernel_rfl, by kernel_rfl⟩⟩, rfl⟩
instance : FieldTy Try.prog 42 4 8 := ⟨_, Try.underlying42, _, rfl, rfl, _, rfl, by decide⟩
instance : TyInfo Try.prog 43 true 9 := ⟨by kernel_rfl, by kernel_rfl⟩
instance : ZeroTy Try.prog 43 [.int .i64 0, .int .u32 0, .string ⟨#[]⟩, .int .i64 0, .int .u64 0, .int .u32 0, .int .u64 0, .int .u32 0, .int .i64 0] := ⟨by kernel_rfl⟩
instance : StructTy Try.prog 43 [(0, 1), (1, 1), (2, 1), (3, 5), (8, 1)] := ⟨_, Try.underlying43, by kernel_rfl⟩
instance : FldTy Try.prog 43 0 0 false 1 := ⟨⟨_, _, Try.underlying43, rfl, rfl, ⟨by kernel_rfl, by kernel_rfl⟩⟩, rfl⟩
instance : FieldTy Try.prog 43 0 0 := ⟨_, Try.underlying43, _, rfl, rfl, _, rfl, by decide⟩
instance : FldTy Try.prog 43 1 1 false 1 := ⟨⟨_, _, Try.underlying43, rfl, rfl, ⟨by kernel_rfl, by kernel_rfl⟩⟩, rfl⟩
instance : FieldTy Try.prog 43 1 1 := ⟨_, Try.underlying43, _, rfl, rfl, _, rfl, by decide⟩
instance : FldTy Try.prog 43 2 2 false 1 := ⟨⟨_, _, Try.underlying43, rfl, rfl, ⟨by kernel_rfl, by kernel_rfl⟩⟩, rfl⟩
instance : FieldTy Try.prog 43 2 2 := ⟨_, Try.underlying43, _, rfl, rfl, _, rfl, by decide⟩
instance : FldTy Try.prog 43 3 3 true 5 := ⟨⟨_, _, Try.underlying43, rfl, rfl, ⟨by kernel_rfl, by kernel_rfl⟩⟩, rfl⟩
instance : FieldTy Try.prog 43 3 3 := ⟨_, Try.underlying43, _, rfl, rfl, _, rfl, by decide⟩
instance : FldTy Try.prog 43 4 8 false 1 := ⟨⟨_, _, Try.underlying43, rfl, rfl, ⟨by kernel_rfl, by kernel_rfl⟩⟩, rfl⟩
instance : FieldTy Try.prog 43 4 8 := ⟨_, Try.underlying43, _, rfl, rfl, _, rfl, by decide⟩
instance : TyInfo Try.prog 44 false 1 := ⟨by kernel_rfl, by kernel_rfl⟩
instance : ZeroTy Try.prog 44 [.slice none 0 0] := ⟨by kernel_rfl⟩
instance : SliceTy Try.prog 44 51 8 := ⟨Try.underlying44, by kernel_rfl, by decide⟩
instance : AppTy Try.prog 44 51 8 := ⟨Try.underlying44, by kernel_rfl, by decide⟩
instance : TyInfo Try.prog 45 false 1 := ⟨by kernel_rfl, by kernel_rfl⟩
instance : ZeroTy Try.prog 45 [.nilFunc] := ⟨by kernel_rfl⟩
instance : TyInfo Try.prog 46 false 1 := ⟨by kernel_rfl, by kernel_rfl⟩
instance : ZeroTy Try.prog 46 [.nilFunc] := ⟨by kernel_rfl⟩
instance : TyInfo Try.prog 47 false 1 := ⟨by kernel_rfl, by kernel_rfl⟩
instance : ZeroTy Try.prog 47 [.nilFunc] := ⟨by kernel_rfl⟩
instance : TyInfo Try.prog 48 true 4 := ⟨by kernel_rfl, by kernel_rfl⟩
instance : ZeroTy Try.prog 48 [.bool false, .int .i64 0, .bool false, .int .i64 0] := ⟨by kernel_rfl⟩
instance : StructTy Try.prog 48 [(0, 1), (1, 1), (2, 1), (3, 1)] := ⟨_, Try.underlying48, by kernel_rfl⟩
instance : FldTy Try.prog 48 0 0 false 1 := ⟨⟨_, _, Try.underlying48, rfl, rfl, ⟨by kernel_rfl, by kernel_rfl⟩⟩, rfl⟩
instance : FieldTy Try.prog 48 0 0 := ⟨_, Try.underlying48, _, rfl, rfl, _, rfl, by decide⟩
instance : FldTy Try.prog 48 1 1 false 1 := ⟨⟨_, _, Try.underlying48, rfl, rfl, ⟨by kernel_rfl, by kernel_rfl⟩⟩, rfl⟩
instance : FieldTy Try.prog 48 1 1 := ⟨_, Try.underlying48, _, rfl, rfl, _, rfl, by decide⟩
instance : FldTy Try.prog 48 2 2 false 1 := ⟨⟨_, _, Try.underlying48, rfl, rfl, ⟨by kernel_rfl, by kernel_rfl⟩⟩, rfl⟩
instance : FieldTy Try.prog 48 2 2 := ⟨_, Try.underlying48, _, rfl, rfl, _, rfl, by decide⟩
instance : FldTy Try.prog 48 3 3 false 1 := ⟨⟨_, _, Try.underlying48, rfl, rfl, ⟨by kernel_rfl, by kernel_rfl⟩⟩, rfl⟩
instance : FieldTy Try.prog 48 3 3 := ⟨_, Try.underlying48, _, rfl, rfl, _, rfl, by decide⟩
instance : TyInfo Try.prog 49 true 4 := ⟨by kernel_rfl, by kernel_rfl⟩
instance : ZeroTy Try.prog 49 [.bool false, .int .i64 0, .bool false, .int .i64 0] := ⟨by kernel_rfl⟩
instance : StructTy Try.prog 49 [(0, 1), (1, 1), (2, 1), (3, 1)] := ⟨_, Try.underlying49, by kernel_rfl⟩
instance : FldTy Try.prog 49 0 0 false 1 := ⟨⟨_, _, Try.underlying49, rfl, rfl, ⟨by kernel_rfl, by kernel_rfl⟩⟩, rfl⟩
instance : FieldTy Try.prog 49 0 0 := ⟨_, Try.underlying49, _, rfl, rfl, _, rfl, by decide⟩
instance : FldTy Try.prog 49 1 1 false 1 := ⟨⟨_, _, Try.underlying49, rfl, rfl, ⟨by kernel_rfl, by kernel_rfl⟩⟩, rfl⟩
instance : FieldTy Try.prog 49 1 1 := ⟨_, Try.underlying49, _, rfl, rfl, _, rfl, by decide⟩
instance : FldTy Try.prog 49 2 2 false 1 := ⟨⟨_, _, Try.underlying49, rfl, rfl, ⟨by kernel_rfl, by kernel_rfl⟩⟩, rfl⟩
instance : FieldTy Try.prog 49 2 2 := ⟨_, Try.underlying49, _, rfl, rfl, _, rfl, by decide⟩
instance : FldTy Try.prog 49 3 3 false 1 := ⟨⟨_, _, Try.underlying49, rfl, rfl, ⟨by kernel_rfl, by kernel_rfl⟩⟩, rfl⟩
instance : FieldTy Try.prog 49 3 3 := ⟨_, Try.underlying49, _, rfl, rfl, _, rfl, by decide⟩
instance : TyInfo Try.prog 50 true 8 := ⟨by kernel_rfl, by kernel_rfl⟩
instance : ZeroTy Try.prog 50 [.int .u64 0, .int .u64 0, .bool false, .int .i64 0, .bool false, .int .i64 0, .int .i64 0, .string ⟨#[]⟩] := ⟨by kernel_rfl⟩
instance : StructTy Try.prog 50 [(0, 1), (1, 1), (2, 4), (6, 1), (7, 1)] := ⟨_, Try.underlying50, by kernel_rfl⟩
instance : FldTy Try.prog 50 0 0 false 1 := ⟨⟨_, _, Try.underlying50, rfl, rfl, ⟨by kernel_rfl, by kernel_rfl⟩⟩, rfl⟩
instance : FieldTy Try.prog 50 0 0 := ⟨_, Try.underlying50, _, rfl, rfl, _, rfl, by decide⟩
instance : FldTy Try.prog 50 1 1 false 1 := ⟨⟨_, _, Try.underlying50, rfl, rfl, ⟨by kernel_rfl, by kernel_rfl⟩⟩, rfl⟩
instance : FieldTy Try.prog 50 1 1 := ⟨_, Try.underlying50, _, rfl, rfl, _, rfl, by decide⟩
instance : FldTy Try.prog 50 2 2 true 4 := ⟨⟨_, _, Try.underlying50, rfl, rfl, ⟨by kernel_rfl, by kernel_rfl⟩⟩, rfl⟩
instance : FieldTy Try.prog 50 2 2 := ⟨_, Try.underlying50, _, rfl, rfl, _, rfl, by decide⟩
instance : FldTy Try.prog 50 3 6 false 1 := ⟨⟨_, _, Try.underlying50, rfl, rfl, ⟨by kernel_rfl, by kernel_rfl⟩⟩, rfl⟩
instance : FieldTy Try.prog 50 3 6 := ⟨_, Try.underlying50, _, rfl, rfl, _, rfl, by decide⟩
instance : FldTy Try.prog 50 4 7 false 1 := ⟨⟨_, _, Try.underlying50, rfl, rfl, ⟨by kernel_rfl, by kernel_rfl⟩⟩, rfl⟩
instance : FieldTy Try.prog 50 4 7 := ⟨_, Try.underlying50, _, rfl, rfl, _, rfl, by decide⟩
instance : TyInfo Try.prog 51 true 8 := ⟨by kernel_rfl, by kernel_rfl⟩
instance : ZeroTy Try.prog 51 [.int .u64 0, .int .u64 0, .bool false, .int .i64 0, .bool false, .int .i64 0, .int .i64 0, .string ⟨#[]⟩] := ⟨by kernel_rfl⟩
instance : StructTy Try.prog 51 [(0, 1), (1, 1), (2, 4), (6, 1), (7, 1)] := ⟨_, Try.underlying51, by kernel_rfl⟩
instance : FldTy Try.prog 51 0 0 false 1 := ⟨⟨_, _, Try.underlying51, rfl, rfl, ⟨by kernel_rfl, by kernel_rfl⟩⟩, rfl⟩
instance : FieldTy Try.prog 51 0 0 := ⟨_, Try.underlying51, _, rfl, rfl, _, rfl, by decide⟩
instance : FldTy Try.prog 51 1 1 false 1 := ⟨⟨_, _, Try.underlying51, rfl, rfl, ⟨by kernel_rfl, by kernel_rfl⟩⟩, rfl⟩
instance : FieldTy Try.prog 51 1 1 := ⟨_, Try.underlying51, _, rfl, rfl, _, rfl, by decide⟩
instance : FldTy Try.prog 51 2 2 true 4 := ⟨⟨_, _, Try.underlying51, rfl, rfl, ⟨by kernel_rfl, by kernel_rfl⟩⟩, rfl⟩
instance : FieldTy Try.prog 51 2 2 := ⟨_, Try.underlying51, _, rfl, rfl, _, rfl, by decide⟩
instance : FldTy Try.prog 51 3 6 false 1 := ⟨⟨_, _, Try.underlying51, rfl, rfl, ⟨by kernel_rfl, by kernel_rfl⟩⟩, rfl⟩
instance : FieldTy Try.prog 51 3 6 := ⟨_, Try.underlying51, _, rfl, rfl, _, rfl, by decide⟩
instance : FldTy Try.prog 51 4 7 false 1 := ⟨⟨_, _, Try.underlying51, rfl, rfl, ⟨by kernel_rfl, by kernel_rfl⟩⟩, rfl⟩
instance : FieldTy Try.prog 51 4 7 := ⟨_, Try.underlying51, _, rfl, rfl, _, rfl, by decide⟩
instance : TyInfo Try.prog 52 false 1 := ⟨by kernel_rfl, by kernel_rfl⟩
instance : ZeroTy Try.prog 52 [.nilFunc] := ⟨by kernel_rfl⟩
instance : TyInfo Try.prog 53 false 1 := ⟨by kernel_rfl, by kernel_rfl⟩
instance : ZeroTy Try.prog 53 [.nilFunc] := ⟨by kernel_rfl⟩
instance : TyInfo Try.prog 54 false 1 := ⟨by kernel_rfl, by kernel_rfl⟩
instance : ZeroTy Try.prog 54 [.nilFunc] := ⟨by kernel_rfl⟩
instance : TyInfo Try.prog 55 false 1 := ⟨by kernel_rfl, by kernel_rfl⟩
instance : ZeroTy Try.prog 55 [.nilFunc] := ⟨by kernel_rfl⟩
instance : TyInfo Try.prog 56 false 1 := ⟨by kernel_rfl, by kernel_rfl⟩
instance : ZeroTy Try.prog 56 [.slice none 0 0] := ⟨by kernel_rfl⟩
instance : SliceTy Try.prog 56 3 1 := ⟨Try.underlying56, by kernel_rfl, by decide⟩
instance : AppTy Try.prog 56 3 1 := ⟨Try.underlying56, by kernel_rfl, by decide⟩
instance : TyInfo Try.prog 57 false 1 := ⟨by kernel_rfl, by kernel_rfl⟩
instance : ZeroTy Try.prog 57 [.nilFunc] := ⟨by kernel_rfl⟩
instance : TyInfo Try.prog 58 false 1 := ⟨by kernel_rfl, by kernel_rfl⟩
instance : ZeroTy Try.prog 58 [.nilFunc] := ⟨by kernel_rfl⟩
instance : TyInfo Try.prog 59 false 1 := ⟨by kernel_rfl, by kernel_rfl⟩
instance : ZeroTy Try.prog 59 [.nilFunc] := ⟨by kernel_rfl⟩
instance : TyInfo Try.prog 60 false 1 := ⟨by kernel_rfl, by kernel_rfl⟩
instance : ZeroTy Try.prog 60 [.nilFunc] := ⟨by kernel_rfl⟩
instance : TyInfo Try.prog 61 false 1 := ⟨by kernel_rfl, by kernel_rfl⟩
instance : ZeroTy Try.prog 61 [.nilFunc] := ⟨by kernel_rfl⟩
instance : TyInfo Try.prog 62 false 1 := ⟨by kernel_rfl, by kernel_rfl⟩
instance : ZeroTy Try.prog 62 [.pointer none] := ⟨by kernel_rfl⟩
instance : PtrTy Try.prog 62 := ⟨_, Try.underlying62⟩
instance : TyInfo Try.prog 63 false 1 := ⟨by kernel_rfl, by kernel_rfl⟩
instance : ZeroTy Try.prog 63 [.slice none 0 0] := ⟨by kernel_rfl⟩
instance : SliceTy Try.prog 63 120 3 := ⟨Try.underlying63, by kernel_rfl, by decide⟩
instance : AppTy Try.prog 63 120 3 := ⟨Try.underlying63, by kernel_rfl, by decide⟩
instance : TyInfo Try.prog 64 true 11 := ⟨by kernel_rfl, by kernel_rfl⟩
instance : ZeroTy Try.prog 64 [.int .u64 0, .int .u32 0, .int .i64 0, .int .i64 0, .int .i64 0, .int .i64 0, .int .i64 0, .pointer none, .slice none 0 0, .slice none 0 0, .int .i64 0] := ⟨by kernel_rfl⟩
instance : StructTy Try.prog 64 [(0, 7), (7, 1), (8, 1), (9, 1), (10, 1)] := ⟨_, Try.underlying64, by kernel_rfl⟩
instance : FldTy Try.prog 64 0 0 true 7 := ⟨⟨_, _, Try.underlying64, rfl, rfl, ⟨by kernel_rfl, by kernel_rfl⟩⟩, rfl⟩
instance : FieldTy Try.prog 64 0 0 := ⟨_, Try.underlying64, _, rfl, rfl, _, rfl, by decide⟩
instance : FldTy Try.prog 64 1 7 false 1 := ⟨⟨_, _, Try.underlying64, rfl, rfl, ⟨by kernel_rfl, by kernel_rfl⟩⟩, rfl⟩
instance : FieldTy Try.prog 64 1 7 := ⟨_, Try.underlying64, _, rfl, rfl, _, rfl, by decide⟩
instance : FldTy Try.prog 64 2 8 false 1 := ⟨⟨_, _, Try.underlying64, rfl, rfl, ⟨by kernel_rfl, by kernel_rfl⟩⟩, rfl⟩
instance : FieldTy Try.prog 64 2 8 := ⟨_, Try.underlying64, _, rfl, rfl, _, rfl, by decide⟩
instance : FldTy Try.prog 64 3 9 false 1 := ⟨⟨_, _, Try.underlying64, rfl, rfl, ⟨by kernel_rfl, by kernel_rfl⟩⟩, rfl⟩
instance : FieldTy Try.prog 64 3 9 := ⟨_, Try.underlying64, _, rfl, rfl, _, rfl, by decide⟩
instance : FldTy Try.prog 64 4 10 false 1 := ⟨⟨_, _, Try.underlying64, rfl, rfl, ⟨by kernel_rfl, by kernel_rfl⟩⟩, rfl⟩
instance : FieldTy Try.prog 64 4 10 := ⟨_, Try.underlying64, _, rfl, rfl, _, rfl, by decide⟩
instance : TyInfo Try.prog 65 true 11 := ⟨by kernel_rfl, by kernel_rfl⟩
instance : ZeroTy Try.prog 65 [.int .u64 0, .int .u32 0, .int .i64 0, .int .i64 0, .int .i64 0, .int .i64 0, .int .i64 0, .pointer none, .slice none 0 0, .slice none 0 0, .int .i64 0] := ⟨by kernel_rfl⟩
instance : StructTy Try.prog 65 [(0, 7), (7, 1), (8, 1), (9, 1), (10, 1)] := ⟨_, Try.underlying65, by kernel_rfl⟩
instance : FldTy Try.prog 65 0 0 true 7 := ⟨⟨_, _, Try.underlying65, rfl, rfl, ⟨by kernel_rfl, by kernel_rfl⟩⟩, rfl⟩
instance : FieldTy Try.prog 65 0 0 := ⟨_, Try.underlying65, _, rfl, rfl, _, rfl, by decide⟩
instance : FldTy Try.prog 65 1 7 false 1 := ⟨⟨_, _, Try.underlying65, rfl, rfl, ⟨by kernel_rfl, by kernel_rfl⟩⟩, rfl⟩
instance : FieldTy Try.prog 65 1 7 := ⟨_, Try.underlying65, _, rfl, rfl, _, rfl, by decide⟩
instance : FldTy Try.prog 65 2 8 false 1 := ⟨⟨_, _, Try.underlying65, rfl, rfl, ⟨by kernel_rfl, by kernel_rfl⟩⟩, rfl⟩
instance : FieldTy Try.prog 65 2 8 := ⟨_, Try.underlying65, _, rfl, rfl, _, rfl, by decide⟩
instance : FldTy Try.prog 65 3 9 false 1 := ⟨⟨_, _, Try.underlying65, rfl, rfl, ⟨by kernel_rfl, by kernel_rfl⟩⟩, rfl⟩
instance : FieldTy Try.prog 65 3 9 := ⟨_, Try.underlying65, _, rfl, rfl, _, rfl, by decide⟩
instance : FldTy Try.prog 65 4 10 false 1 := ⟨⟨_, _, Try.underlying65, rfl, rfl, ⟨by kernel_rfl, by kernel_rfl⟩⟩, rfl⟩
instance : FieldTy Try.prog 65 4 10 := ⟨_, Try.underlying65, _, rfl, rfl, _, rfl, by decide⟩
instance : TyInfo Try.prog 66 false 1 := ⟨by kernel_rfl, by kernel_rfl⟩
instance : ZeroTy Try.prog 66 [.pointer none] := ⟨by kernel_rfl⟩
instance : PtrTy Try.prog 66 := ⟨_, Try.underlying66⟩
instance : TyInfo Try.prog 68 false 1 := ⟨by kernel_rfl, by kernel_rfl⟩
instance : ZeroTy Try.prog 68 [.nilFunc] := ⟨by kernel_rfl⟩
instance : TyInfo Try.prog 69 false 1 := ⟨by kernel_rfl, by kernel_rfl⟩
instance : ZeroTy Try.prog 69 [.nilFunc] := ⟨by kernel_rfl⟩
instance : TyInfo Try.prog 70 false 1 := ⟨by kernel_rfl, by kernel_rfl⟩
instance : ZeroTy Try.prog 70 [.nilFunc] := ⟨by kernel_rfl⟩
instance : TyInfo Try.prog 71 false 1 := ⟨by kernel_rfl, by kernel_rfl⟩
instance : ZeroTy Try.prog 71 [.slice none 0 0] := ⟨by kernel_rfl⟩
instance : SliceTy Try.prog 71 86 3 := ⟨Try.underlying71, by kernel_rfl, by decide⟩
instance : AppTy Try.prog 71 86 3 := ⟨Try.underlying71, by kernel_rfl, by decide⟩
instance : TyInfo Try.prog 72 true 11 := ⟨by kernel_rfl, by kernel_rfl⟩
instance : ZeroTy Try.prog 72 [.int .u64 0, .int .u32 0, .int .i64 0, .int .i64 0, .int .i64 0, .int .i64 0, .int .i64 0, .pointer none, .slice none 0 0, .slice none 0 0, .int .i64 0] := ⟨by kernel_rfl⟩
instance : StructTy Try.prog 72 [(0, 7), (7, 1), (8, 1), (9, 1), (10, 1)] := ⟨_, Try.underlying72, by kernel_rfl⟩
instance : FldTy Try.prog 72 0 0 true 7 := ⟨⟨_, _, Try.underlying72, rfl, rfl, ⟨by kernel_rfl, by kernel_rfl⟩⟩, rfl⟩
instance : FieldTy Try.prog 72 0 0 := ⟨_, Try.underlying72, _, rfl, rfl, _, rfl, by decide⟩
instance : FldTy Try.prog 72 1 7 false 1 := ⟨⟨_, _, Try.underlying72, rfl, rfl, ⟨by kernel_rfl, by kernel_rfl⟩⟩, rfl⟩
instance : FieldTy Try.prog 72 1 7 := ⟨_, Try.underlying72, _, rfl, rfl, _, rfl, by decide⟩
instance : FldTy Try.prog 72 2 8 false 1 := ⟨⟨_, _, Try.underlying72, rfl, rfl, ⟨by kernel_rfl, by kernel_rfl⟩⟩, rfl⟩
instance : FieldTy Try.prog 72 2 8 := ⟨_, Try.underlying72, _, rfl, rfl, _, rfl, by decide⟩
instance : FldTy Try.prog 72 3 9 false 1 := ⟨⟨_, _, Try.underlying72, rfl, rfl, ⟨by kernel_rfl, by kernel_rfl⟩⟩, rfl⟩
instance : FieldTy Try.prog 72 3 9 := ⟨_, Try.underlying72, _, rfl, rfl, _, rfl, by decide⟩
instance : FldTy Try.prog 72 4 10 false 1 := ⟨⟨_, _, Try.underlying72, rfl, rfl, ⟨by kernel_rfl, by kernel_rfl⟩⟩, rfl⟩
instance : FieldTy Try.prog 72 4 10 := ⟨_, Try.underlying72, _, rfl, rfl, _, rfl, by decide⟩
instance : TyInfo Try.prog 73 true 11 := ⟨by kernel_rfl, by kernel_rfl⟩
instance : ZeroTy Try.prog 73 [.int .u64 0, .int .u32 0, .int .i64 0, .int .i64 0, .int .i64 0, .int .i64 0, .int .i64 0, .pointer none, .slice none 0 0, .slice none 0 0, .int .i64 0] := ⟨by kernel_rfl⟩
instance : StructTy Try.prog 73 [(0, 7), (7, 1), (8, 1), (9, 1), (10, 1)] := ⟨_, Try.underlying73, by kernel_rfl⟩
instance : FldTy Try.prog 73 0 0 true 7 := ⟨⟨_, _, Try.underlying73, rfl, rfl, ⟨by kernel_rfl, by kernel_rfl⟩⟩, rfl⟩
instance : FieldTy Try.prog 73 0 0 := ⟨_, Try.underlying73, _, rfl, rfl, _, rfl, by decide⟩
instance : FldTy Try.prog 73 1 7 false 1 := ⟨⟨_, _, Try.underlying73, rfl, rfl, ⟨by kernel_rfl, by kernel_rfl⟩⟩, rfl⟩
instance : FieldTy Try.prog 73 1 7 := ⟨_, Try.underlying73, _, rfl, rfl, _, rfl, by decide⟩
instance : FldTy Try.prog 73 2 8 false 1 := ⟨⟨_, _, Try.underlying73, rfl, rfl, ⟨by kernel_rfl, by kernel_rfl⟩⟩, rfl⟩
instance : FieldTy Try.prog 73 2 8 := ⟨_, Try.underlying73, _, rfl, rfl, _, rfl, by decide⟩
instance : FldTy Try.prog 73 3 9 false 1 := ⟨⟨_, _, Try.underlying73, rfl, rfl, ⟨by kernel_rfl, by kernel_rfl⟩⟩, rfl⟩
instance : FieldTy Try.prog 73 3 9 := ⟨_, Try.underlying73, _, rfl, rfl, _, rfl, by decide⟩
instance : FldTy Try.prog 73 4 10 false 1 := ⟨⟨_, _, Try.underlying73, rfl, rfl, ⟨by kernel_rfl, by kernel_rfl⟩⟩, rfl⟩
instance : FieldTy Try.prog 73 4 10 := ⟨_, Try.underlying73, _, rfl, rfl, _, rfl, by decide⟩
instance : TyInfo Try.prog 75 false 1 := ⟨by kernel_rfl, by kernel_rfl⟩
instance : ZeroTy Try.prog 75 [.nilFunc] := ⟨by kernel_rfl⟩
instance : TyInfo Try.prog 76 false 1 := ⟨by kernel_rfl, by kernel_rfl⟩
instance : ZeroTy Try.prog 76 [.nilFunc] := ⟨by kernel_rfl⟩
instance : TyInfo Try.prog 77 true 2 := ⟨by kernel_rfl, by kernel_rfl⟩
instance : ZeroTy Try.prog 77 [.int .u32 0, .string ⟨#[]⟩] := ⟨by kernel_rfl⟩
instance : StructTy Try.prog 77 [(0, 1), (1, 1)] := ⟨_, Try.underlying77, by kernel_rfl⟩
instance : FldTy Try.prog 77 0 0 false 1 := ⟨⟨_, _, Try.underlying77, rfl, rfl, ⟨by kernel_rfl, by kernel_rfl⟩⟩, rfl⟩
instance : FieldTy Try.prog 77 0 0 := ⟨_, Try.underlying77, _, rfl, rfl, _, rfl, by decide⟩
instance : FldTy Try.prog 77 1 1 false 1 := ⟨⟨_, _, Try.underlying77, rfl, rfl, ⟨by kernel_rfl, by kernel_rfl⟩⟩, rfl⟩
instance : FieldTy Try.prog 77 1 1 := ⟨_, Try.underlying77, _, rfl, rfl, _, rfl, by decide⟩
instance : TyInfo Try.prog 78 true 2 := ⟨by kernel_rfl, by kernel_rfl⟩
instance : ZeroTy Try.prog 78 [.int .u32 0, .string ⟨#[]⟩] := ⟨by kernel_rfl⟩
instance : StructTy Try.prog 78 [(0, 1), (1, 1)] := ⟨_, Try.underlying78, by kernel_rfl⟩
instance : FldTy Try.prog 78 0 0 false 1 := ⟨⟨_, _, Try.underlying78, rfl, rfl, ⟨by kernel_rfl, by kernel_rfl⟩⟩, rfl⟩
instance : FieldTy Try.prog 78 0 0 := ⟨_, Try.underlying78, _, rfl, rfl, _, rfl, by decide⟩
instance : FldTy Try.prog 78 1 1 false 1 := ⟨⟨_, _, Try.underlying78, rfl, rfl, ⟨by kernel_rfl, by kernel_rfl⟩⟩, rfl⟩
instance : FieldTy Try.prog 78 1 1 := ⟨_, Try.underlying78, _, rfl, rfl, _, rfl, by decide⟩
instance : TyInfo Try.prog 79 true 4 := ⟨by kernel_rfl, by kernel_rfl⟩
instance : ZeroTy Try.prog 79 [.int .u64 0, .int .u64 0, .int .i64 0, .bool false] := ⟨by kernel_rfl⟩
instance : StructTy Try.prog 79 [(0, 1), (1, 1), (2, 1), (3, 1)] := ⟨_, Try.underlying79, by kernel_rfl⟩
instance : FldTy Try.prog 79 0 0 false 1 := ⟨⟨_, _, Try.underlying79, rfl, rfl, ⟨by kernel_rfl, by kernel_rfl⟩⟩, rfl⟩
instance : FieldTy Try.prog 79 0 0 := ⟨_, Try.underlying79, _, rfl, rfl, _, rfl, by decide⟩
instance : FldTy Try.prog 79 1 1 false 1 := ⟨⟨_, _, Try.underlying79, rfl, rfl, ⟨by kernel_rfl, by kernel_rfl⟩⟩, rfl⟩
instance : FieldTy Try.prog 79 1 1 := ⟨_, Try.underlying79, _, rfl, rfl, _, rfl, by decide⟩
instance : FldTy Try.prog 79 2 2 false 1 := ⟨⟨_, _, Try.underlying79, rfl, rfl, ⟨by kernel_rfl, by kernel_rfl⟩⟩, rfl⟩
instance : FieldTy Try.prog 79 2 2 := ⟨_, Try.underlying79, _, rfl, rfl, _, rfl, by decide⟩
instance : FldTy Try.prog 79 3 3 false 1 := ⟨⟨_, _, Try.underlying79, rfl, rfl, ⟨by kernel_rfl, by kernel_rfl⟩⟩, rfl⟩
instance : FieldTy Try.prog 79 3 3 := ⟨_, Try.underlying79, _, rfl, rfl, _, rfl, by decide⟩
instance : TyInfo Try.prog 80 true 4 := ⟨by kernel_rfl, by kernel_rfl⟩
instance : ZeroTy Try.prog 80 [.int .u64 0, .int .u64 0, .int .i64 0, .bool false] := ⟨by kernel_rfl⟩
instance : StructTy Try.prog 80 [(0, 1), (1, 1), (2, 1), (3, 1)] := ⟨_, Try.underlying80, by kernel_rfl⟩
instance : FldTy Try.prog 80 0 0 false 1 := ⟨⟨_, _, Try.underlying80, rfl, rfl, ⟨by kernel_rfl, by kernel_rfl⟩⟩, rfl⟩
instance : FieldTy Try.prog 80 0 0 := ⟨_, Try.underlying80, _, rfl, rfl, _, rfl, by decide⟩
instance : FldTy Try.prog 80 1 1 false 1 := ⟨⟨_, _, Try.underlying80, rfl, rfl, ⟨by kernel_rfl, by kernel_rfl⟩⟩, rfl⟩
instance : FieldTy Try.prog 80 1 1 := ⟨_, Try.underlying80, _, rfl, rfl, _, rfl, by decide⟩
instance : FldTy Try.prog 80 2 2 false 1 := ⟨⟨_, _, Try.underlying80, rfl, rfl, ⟨by kernel_rfl, by kernel_rfl⟩⟩, rfl⟩
instance : FieldTy Try.prog 80 2 2 := ⟨_, Try.underlying80, _, rfl, rfl, _, rfl, by decide⟩
instance : FldTy Try.prog 80 3 3 false 1 := ⟨⟨_, _, Try.underlying80, rfl, rfl, ⟨by kernel_rfl, by kernel_rfl⟩⟩, rfl⟩
instance : FieldTy Try.prog 80 3 3 := ⟨_, Try.underlying80, _, rfl, rfl, _, rfl, by decide⟩
instance : TyInfo Try.prog 82 false 1 := ⟨by kernel_rfl, by kernel_rfl⟩
instance : ZeroTy Try.prog 82 [.nilFunc] := ⟨by kernel_rfl⟩
instance : TyInfo Try.prog 83 false 1 := ⟨by kernel_rfl, by kernel_rfl⟩
instance : ZeroTy Try.prog 83 [.nilFunc] := ⟨by kernel_rfl⟩
instance : TyInfo Try.prog 84 false 1 := ⟨by kernel_rfl, by kernel_rfl⟩
instance : ZeroTy Try.prog 84 [.nilFunc] := ⟨by kernel_rfl⟩
instance : TyInfo Try.prog 85 true 3 := ⟨by kernel_rfl, by kernel_rfl⟩
instance : ZeroTy Try.prog 85 [.int .u32 0, .int .i64 0, .int .i64 0] := ⟨by kernel_rfl⟩
instance : StructTy Try.prog 85 [(0, 1), (1, 1), (2, 1)] := ⟨_, Try.underlying85, by kernel_rfl⟩
instance : FldTy Try.prog 85 0 0 false 1 := ⟨⟨_, _, Try.underlying85, rfl, rfl, ⟨by kernel_rfl, by kernel_rfl⟩⟩, rfl⟩
instance : FieldTy Try.prog 85 0 0 := ⟨_, Try.underlying85, _, rfl, rfl, _, rfl, by decide⟩
instance : FldTy Try.prog 85 1 1 false 1 := ⟨⟨_, _, Try.underlying85, rfl, rfl, ⟨by kernel_rfl, by kernel_rfl⟩⟩, rfl⟩
instance : FieldTy Try.prog 85 1 1 := ⟨_, Try.underlying85, _, rfl, rfl, _, rfl, by decide⟩
instance : FldTy Try.prog 85 2 2 false 1 := ⟨⟨_, _, Try.underlying85, rfl, rfl, ⟨by kernel_rfl, by kernel_rfl⟩⟩, rfl⟩
instance : FieldTy Try.prog 85 2 2 := ⟨_, Try.underlying85, _, rfl, rfl, _, rfl, by decide⟩
instance : TyInfo Try.prog 86 true 3 := ⟨by kernel_rfl, by kernel_rfl⟩
instance : ZeroTy Try.prog 86 [.int .u32 0, .int .i64 0, .int .i64 0] := ⟨by kernel_rfl⟩
instance : StructTy Try.prog 86 [(0, 1), (1, 1), (2, 1)] := ⟨_, Try.underlying86, by kernel_rfl⟩
instance : FldTy Try.prog 86 0 0 false 1 := ⟨⟨_, _, Try.underlying86, rfl, rfl, ⟨by kernel_rfl, by kernel_rfl⟩⟩, rfl⟩
instance : FieldTy Try.prog 86 0 0 := ⟨_, Try.underlying86, _, rfl, rfl, _, rfl, by decide⟩
instance : FldTy Try.prog 86 1 1 false 1 := ⟨⟨_, _, Try.underlying86, rfl, rfl, ⟨by kernel_rfl, by kernel_rfl⟩⟩, rfl⟩
instance : FieldTy Try.prog 86 1 1 := ⟨_, Try.underlying86, _, rfl, rfl, _, rfl, by decide⟩
instance : FldTy Try.prog 86 2 2 false 1 := ⟨⟨_, _, Try.underlying86, rfl, rfl, ⟨by kernel_rfl, by kernel_rfl⟩⟩, rfl⟩
instance : FieldTy Try.prog 86 2 2 := ⟨_, Try.underlying86, _, rfl, rfl, _, rfl, by decide⟩
instance : TyInfo Try.prog 87 false 1 := ⟨by kernel_rfl, by kernel_rfl⟩
instance : ZeroTy Try.prog 87 [.nilFunc] := ⟨by kernel_rfl⟩
instance : TyInfo Try.prog 88 false 1 := ⟨by kernel_rfl, by kernel_rfl⟩
instance : ZeroTy Try.prog 88 [.nilFunc] := ⟨by kernel_rfl⟩
instance : TyInfo Try.prog 90 false 1 := ⟨by kernel_rfl, by kernel_rfl⟩
instance : ZeroTy Try.prog 90 [.nilFunc] := ⟨by kernel_rfl⟩
instance : TyInfo Try.prog 91 false 1 := ⟨by kernel_rfl, by kernel_rfl⟩
instance : ZeroTy Try.prog 91 [.nilFunc] := ⟨by kernel_rfl⟩
instance : TyInfo Try.prog 92 false 1 := ⟨by kernel_rfl, by kernel_rfl⟩
instance : ZeroTy Try.prog 92 [.nilFunc] := ⟨by kernel_rfl⟩
instance : TyInfo Try.prog 93 false 1 := ⟨by kernel_rfl, by kernel_rfl⟩
instance : ZeroTy Try.prog 93 [.int .u64 0] := ⟨by kernel_rfl⟩
instance : IntTy Try.prog 93 .u64 := ⟨Try.underlying93⟩
instance : TyInfo Try.prog 94 false 1 := ⟨by kernel_rfl, by kernel_rfl⟩
instance : ZeroTy Try.prog 94 [.nilFunc] := ⟨by kernel_rfl⟩
instance : TyInfo Try.prog 95 false 1 := ⟨by kernel_rfl, by kernel_rfl⟩
instance : ZeroTy Try.prog 95 [.nilFunc] := ⟨by kernel_rfl⟩
instance : TyInfo Try.prog 96 false 1 := ⟨by kernel_rfl, by kernel_rfl⟩
instance : ZeroTy Try.prog 96 [.nilFunc] := ⟨by kernel_rfl⟩
instance : TyInfo Try.prog 97 false 1 := ⟨by kernel_rfl, by kernel_rfl⟩
instance : ZeroTy Try.prog 97 [.slice none 0 0] := ⟨by kernel_rfl⟩
instance : SliceTy Try.prog 97 80 4 := ⟨Try.underlying97, by kernel_rfl, by decide⟩
instance : AppTy Try.prog 97 80 4 := ⟨Try.underlying97, by kernel_rfl, by decide⟩
instance : TyInfo Try.prog 98 true 2 := ⟨by kernel_rfl, by kernel_rfl⟩
instance : ZeroTy Try.prog 98 [.slice none 0 0, .nilFunc] := ⟨by kernel_rfl⟩
instance : StructTy Try.prog 98 [(0, 1), (1, 1)] := ⟨_, Try.underlying98, by kernel_rfl⟩
instance : FldTy Try.prog 98 0 0 false 1 := ⟨⟨_, _, Try.underlying98, rfl, rfl, ⟨by kernel_rfl, by kernel_rfl⟩⟩, rfl⟩
instance : FieldTy Try.prog 98 0 0 := ⟨_, Try.underlying98, _, rfl, rfl, _, rfl, by decide⟩
instance : FldTy Try.prog 98 1 1 false 1 := ⟨⟨_, _, Try.underlying98, rfl, rfl, ⟨by kernel_rfl, by kernel_rfl⟩⟩, rfl⟩
instance : FieldTy Try.prog 98 1 1 := ⟨_, Try.underlying98, _, rfl, rfl, _, rfl, by decide⟩
instance : TyInfo Try.prog 99 true 2 := ⟨by kernel_rfl, by kernel_rfl⟩
instance : ZeroTy Try.prog 99 [.slice none 0 0, .nilFunc] := ⟨by kernel_rfl⟩
instance : StructTy Try.prog 99 [(0, 1), (1, 1)] := ⟨_, Try.underlying99, by kernel_rfl⟩
instance : FldTy Try.prog 99 0 0 false 1 := ⟨⟨_, _, Try.underlying99, rfl, rfl, ⟨by kernel_rfl, by kernel_rfl⟩⟩, rfl⟩
instance : FieldTy Try.prog 99 0 0 := ⟨_, Try.underlying99, _, rfl, rfl, _, rfl, by decide⟩
instance : FldTy Try.prog 99 1 1 false 1 := ⟨⟨_, _, Try.underlying99, rfl, rfl, ⟨by kernel_rfl, by kernel_rfl⟩⟩, rfl⟩
instance : FieldTy Try.prog 99 1 1 := ⟨_, Try.underlying99, _, rfl, rfl, _, rfl, by decide⟩
instance : TyInfo Try.prog 100 true 4 := ⟨by kernel_rfl, by kernel_rfl⟩
instance : ZeroTy Try.prog 100 [.slice none 0 0, .nilFunc, .int .i64 0, .int .i64 0] := ⟨by kernel_rfl⟩
instance : StructTy Try.prog 100 [(0, 2), (2, 1), (3, 1)] := ⟨_, Try.underlying100, by kernel_rfl⟩
instance : FldTy Try.prog 100 0 0 true 2 := ⟨⟨_, _, Try.underlying100, rfl, rfl, ⟨by kernel_rfl, by kernel_rfl⟩⟩, rfl⟩
instance : FieldTy Try.prog 100 0 0 := ⟨_, Try.underlying100, _, rfl, rfl, _, rfl, by decide⟩
instance : FldTy Try.prog 100 1 2 false 1 := ⟨⟨_, _, Try.underlying100, rfl, rfl, ⟨by kernel_rfl, by kernel_rfl⟩⟩, rfl⟩
instance : FieldTy Try.prog 100 1 2 := ⟨_, Try.underlying100, _, rfl, rfl, _, rfl, by decide⟩
instance : FldTy Try.prog 100 2 3 false 1 := ⟨⟨_, _, Try.underlying100, rfl, rfl, ⟨by kernel_rfl, by kernel_rfl⟩⟩, rfl⟩
instance : FieldTy Try.prog 100 2 3 := ⟨_, Try.underlying100, _, rfl, rfl, _, rfl, by decide⟩
instance : TyInfo Try.prog 101 true 4 := ⟨by kernel_rfl, by kernel_rfl⟩
instance : ZeroTy Try.prog 101 [.slice none 0 0, .nilFunc, .int .i64 0, .int .i64 0] := ⟨by kernel_rfl⟩
instance : StructTy Try.prog 101 [(0, 2), (2, 1), (3, 1)] := ⟨_, Try.underlying101, by kernel_rfl⟩
instance : FldTy Try.prog 101 0 0 true 2 := ⟨⟨_, _, Try.underlying101, rfl, rfl, ⟨by kernel_rfl, by kernel_rfl⟩⟩, rfl⟩
instance : FieldTy Try.prog 101 0 0 := ⟨_, Try.underlying101, _, rfl, rfl, _, rfl, by decide⟩
instance : FldTy Try.prog 101 1 2 false 1 := ⟨⟨_, _, Try.underlying101, rfl, rfl, ⟨by kernel_rfl, by kernel_rfl⟩⟩, rfl⟩
instance : FieldTy Try.prog 101 1 2 := ⟨_, Try.underlying101, _, rfl, rfl, _, rfl, by decide⟩
instance : FldTy Try.prog 101 2 3 false 1 := ⟨⟨_, _, Try.underlying101, rfl, rfl, ⟨by kernel_rfl, by kernel_rfl⟩⟩, rfl⟩
instance : FieldTy Try.prog 101 2 3 := ⟨_, Try.underlying101, _, rfl, rfl, _, rfl, by decide⟩
instance : TyInfo Try.prog 102 true 3 := ⟨by kernel_rfl, by kernel_rfl⟩
instance : ZeroTy Try.prog 102 [.slice none 0 0, .int .i64 0, .int .i64 0] := ⟨by kernel_rfl⟩
instance : StructTy Try.prog 102 [(0, 1), (1, 1), (2, 1)] := ⟨_, Try.underlying102, by kernel_rfl⟩
instance : FldTy Try.prog 102 0 0 false 1 := ⟨⟨_, _, Try.underlying102, rfl, rfl, ⟨by kernel_rfl, by kernel_rfl⟩⟩, rfl⟩
instance : FieldTy Try.prog 102 0 0 := ⟨_, Try.underlying102, _, rfl, rfl, _, rfl, by decide⟩
instance : FldTy Try.prog 102 1 1 false 1 := ⟨⟨_, _, Try.underlying102, rfl, rfl, ⟨by kernel_rfl, by kernel_rfl⟩⟩, rfl⟩
instance : FieldTy Try.prog 102 1 1 := ⟨_, Try.underlying102, _, rfl, rfl, _, rfl, by decide⟩
instance : FldTy Try.prog 102 2 2 false 1 := ⟨⟨_, _, Try.underlying102, rfl, rfl, ⟨by kernel_rfl, by kernel_rfl⟩⟩, rfl⟩
instance : FieldTy Try.prog 102 2 2 := ⟨_, Try.underlying102, _, rfl, rfl, _, rfl, by decide⟩
instance : TyInfo Try.prog 103 true 3 := ⟨by kernel_rfl, by kernel_rfl⟩
instance : ZeroTy Try.prog 103 [.slice none 0 0, .int .i64 0, .int .i64 0] := ⟨by kernel_rfl⟩
instance : StructTy Try.prog 103 [(0, 1), (1, 1), (2, 1)] := ⟨_, Try.underlying103, by kernel_rfl⟩
instance : FldTy Try.prog 103 0 0 false 1 := ⟨⟨_, _, Try.underlying103, rfl, rfl, ⟨by kernel_rfl, by kernel_rfl⟩⟩, rfl⟩
instance : FieldTy Try.prog 103 0 0 := ⟨_, Try.underlying103, _, rfl, rfl, _, rfl, by decide⟩
instance : FldTy Try.prog 103 1 1 false 1 := ⟨⟨_, _, Try.underlying103, rfl, rfl, ⟨by kernel_rfl, by kernel_rfl⟩⟩, rfl⟩
instance : FieldTy Try.prog 103 1 1 := ⟨_, Try.underlying103, _, rfl, rfl, _, rfl, by decide⟩
instance : FldTy Try.prog 103 2 2 false 1 := ⟨⟨_, _, Try.underlying103, rfl, rfl, ⟨by kernel_rfl, by kernel_rfl⟩⟩, rfl⟩
instance : FieldTy Try.prog 103 2 2 := ⟨_, Try.underlying103, _, rfl, rfl, _, rfl, by decide⟩
instance : TyInfo Try.prog 105 false 1 := ⟨by kernel_rfl, by kernel_rfl⟩
instance : ZeroTy Try.prog 105 [.nilFunc] := ⟨by kernel_rfl⟩
instance : TyInfo Try.prog 106 false 1 := ⟨by kernel_rfl, by kernel_rfl⟩
instance : ZeroTy Try.prog 106 [.nilFunc] := ⟨by kernel_rfl⟩
instance : TyInfo Try.prog 107 false 1 := ⟨by kernel_rfl, by kernel_rfl⟩
instance : ZeroTy Try.prog 107 [.nilFunc] := ⟨by kernel_rfl⟩
instance : TyInfo Try.prog 108 false 1 := ⟨by kernel_rfl, by kernel_rfl⟩
instance : ZeroTy Try.prog 108 [.nilFunc] := ⟨by kernel_rfl⟩
instance : TyInfo Try.prog 109 false 1 := ⟨by kernel_rfl, by kernel_rfl⟩
instance : ZeroTy Try.prog 109 [.nilFunc] := ⟨by kernel_rfl⟩
instance : TyInfo Try.prog 110 false 1 := ⟨by kernel_rfl, by kernel_rfl⟩
instance : ZeroTy Try.prog 110 [.nilFunc] := ⟨by kernel_rfl⟩
instance : TyInfo Try.prog 111 false 1 := ⟨by kernel_rfl, by kernel_rfl⟩
instance : ZeroTy Try.prog 111 [.nilFunc] := ⟨by kernel_rfl⟩
instance : TyInfo Try.prog 112 false 1 := ⟨by kernel_rfl, by kernel_rfl⟩
instance : ZeroTy Try.prog 112 [.nilFunc] := ⟨by kernel_rfl⟩
instance : TyInfo Try.prog 113 false 1 := ⟨by kernel_rfl, by kernel_rfl⟩
instance : ZeroTy Try.prog 113 [.nilFunc] := ⟨by kernel_rfl⟩
instance : TyInfo Try.prog 114 false 1 := ⟨by kernel_rfl, by kernel_rfl⟩
instance : ZeroTy Try.prog 114 [.nilFunc] := ⟨by kernel_rfl⟩
instance : TyInfo Try.prog 115 true 2 := ⟨by kernel_rfl, by kernel_rfl⟩
instance : ZeroTy Try.prog 115 [.int .u64 0, .int .i64 0] := ⟨by kernel_rfl⟩
instance : StructTy Try.prog 115 [(0, 1), (1, 1)] := ⟨_, Try.underlying115, by kernel_rfl⟩
instance : FldTy Try.prog 115 0 0 false 1 := ⟨⟨_, _, Try.underlying115, rfl, rfl, ⟨by kernel_rfl, by kernel_rfl⟩⟩, rfl⟩
instance : FieldTy Try.prog 115 0 0 := ⟨_, Try.underlying115, _, rfl, rfl, _, rfl, by decide⟩
instance : FldTy Try.prog 115 1 1 false 1 := ⟨⟨_, _, Try.underlying115, rfl, rfl, ⟨by kernel_rfl, by kernel_rfl⟩⟩, rfl⟩
instance : FieldTy Try.prog 115 1 1 := ⟨_, Try.underlying115, _, rfl, rfl, _, rfl, by decide⟩
instance : TyInfo Try.prog 116 true 2 := ⟨by kernel_rfl, by kernel_rfl⟩
instance : ZeroTy Try.prog 116 [.int .u64 0, .int .i64 0] := ⟨by kernel_rfl⟩
instance : StructTy Try.prog 116 [(0, 1), (1, 1)] := ⟨_, Try.underlying116, by kernel_rfl⟩
instance : FldTy Try.prog 116 0 0 false 1 := ⟨⟨_, _, Try.underlying116, rfl, rfl, ⟨by kernel_rfl, by kernel_rfl⟩⟩, rfl⟩
instance : FieldTy Try.prog 116 0 0 := ⟨_, Try.underlying116, _, rfl, rfl, _, rfl, by decide⟩
instance : FldTy Try.prog 116 1 1 false 1 := ⟨⟨_, _, Try.underlying116, rfl, rfl, ⟨by kernel_rfl, by kernel_rfl⟩⟩, rfl⟩
instance : FieldTy Try.prog 116 1 1 := ⟨_, Try.underlying116, _, rfl, rfl, _, rfl, by decide⟩
instance : TyInfo Try.prog 117 false 1 := ⟨by kernel_rfl, by kernel_rfl⟩
instance : ZeroTy Try.prog 117 [.nilFunc] := ⟨by kernel_rfl⟩
instance : TyInfo Try.prog 118 false 1 := ⟨by kernel_rfl, by kernel_rfl⟩
instance : ZeroTy Try.prog 118 [.nilFunc] := ⟨by kernel_rfl⟩
instance : TyInfo Try.prog 119 true 3 := ⟨by kernel_rfl, by kernel_rfl⟩
instance : ZeroTy Try.prog 119 [.int .u32 0, .int .i64 0, .int .i64 0] := ⟨by kernel_rfl⟩
instance : StructTy Try.prog 119 [(0, 1), (1, 1), (2, 1)] := ⟨_, Try.underlying119, by kernel_rfl⟩
instance : FldTy Try.prog 119 0 0 false 1 := ⟨⟨_, _, Try.underlying119, rfl, rfl, ⟨by kernel_rfl, by kernel_rfl⟩⟩, rfl⟩
instance : FieldTy Try.prog 119 0 0 := ⟨_, Try.underlying119, _, rfl, rfl, _, rfl, by decide⟩
instance : FldTy Try.prog 119 1 1 false 1 := ⟨⟨_, _, Try.underlying119, rfl, rfl, ⟨by kernel_rfl, by kernel_rfl⟩⟩, rfl⟩
instance : FieldTy Try.prog 119 1 1 := ⟨_, Try.underlying119, _, rfl, rfl, _, rfl, by decide⟩
instance : FldTy Try.prog 119 2 2 false 1 := ⟨⟨_, _, Try.underlying119, rfl, rfl, ⟨by kernel_rfl, by kernel_rfl⟩⟩, rfl⟩
instance : FieldTy Try.prog 119 2 2 := ⟨_, Try.underlying119, _, rfl, rfl, _, rfl, by decide⟩
instance : TyInfo Try.prog 120 true 3 := ⟨by kernel_rfl, by kernel_rfl⟩
instance : ZeroTy Try.prog 120 [.int .u32 0, .int .i64 0, .int .i64 0] := ⟨by kernel_rfl⟩
instance : StructTy Try.prog 120 [(0, 1), (1, 1), (2, 1)] := ⟨_, Try.underlying120, by kernel_rfl⟩
instance : FldTy Try.prog 120 0 0 false 1 := ⟨⟨_, _, Try.underlying120, rfl, rfl, ⟨by kernel_rfl, by kernel_rfl⟩⟩, rfl⟩
instance : FieldTy Try.prog 120 0 0 := ⟨_, Try.underlying120, _, rfl, rfl, _, rfl, by decide⟩
instance : FldTy Try.prog 120 1 1 false 1 := ⟨⟨_, _, Try.underlying120, rfl, rfl, ⟨by kernel_rfl, by kernel_rfl⟩⟩, rfl⟩
instance : FieldTy Try.prog 120 1 1 := ⟨_, Try.underlying120, _, rfl, rfl, _, rfl, by decide⟩
instance : FldTy Try.prog 120 2 2 false 1 := ⟨⟨_, _, Try.underlying120, rfl, rfl, ⟨by kernel_rfl, by kernel_rfl⟩⟩, rfl⟩
instance : FieldTy Try.prog 120 2 2 := ⟨_, Try.underlying120, _, rfl, rfl, _, rfl, by decide⟩
instance : TyInfo Try.prog 121 false 1 := ⟨by kernel_rfl, by kernel_rfl⟩
instance : ZeroTy Try.prog 121 [.pointer none] := ⟨by kernel_rfl⟩
instance : PtrTy Try.prog 121 := ⟨_, Try.underlying121⟩
instance : TyInfo Try.prog 122 false 1 := ⟨by kernel_rfl, by kernel_rfl⟩
instance : ZeroTy Try.prog 122 [.nilFunc] := ⟨by kernel_rfl⟩
instance : TyInfo Try.prog 123 false 1 := ⟨by kernel_rfl, by kernel_rfl⟩
instance : ZeroTy Try.prog 123 [.nilFunc] := ⟨by kernel_rfl⟩
instance : TyInfo Try.prog 124 false 1 := ⟨by kernel_rfl, by kernel_rfl⟩
instance : ZeroTy Try.prog 124 [.nilFunc] := ⟨by kernel_rfl⟩
instance : TyInfo Try.prog 125 false 1 := ⟨by kernel_rfl, by kernel_rfl⟩
instance : ZeroTy Try.prog 125 [.nilFunc] := ⟨by kernel_rfl⟩
instance : TyInfo Try.prog 126 false 1 := ⟨by kernel_rfl, by kernel_rfl⟩
instance : ZeroTy Try.prog 126 [.nilFunc] := ⟨by kernel_rfl⟩
instance : TyInfo Try.prog 127 false 1 := ⟨by kernel_rfl, by kernel_rfl⟩
instance : ZeroTy Try.prog 127 [.nilFunc] := ⟨by kernel_rfl⟩
instance : TyInfo Try.prog 128 false 1 := ⟨by kernel_rfl, by kernel_rfl⟩
instance : ZeroTy Try.prog 128 [.nilFunc] := ⟨by kernel_rfl⟩
instance : TyInfo Try.prog 129 false 1 := ⟨by kernel_rfl, by kernel_rfl⟩
instance : ZeroTy Try.prog 129 [.nilFunc] := ⟨by kernel_rfl⟩
instance : TyInfo Try.prog 130 false 1 := ⟨by kernel_rfl, by kernel_rfl⟩
instance : ZeroTy Try.prog 130 [.slice none 0 0] := ⟨by kernel_rfl⟩
instance : SliceTy Try.prog 130 116 2 := ⟨Try.underlying130, by kernel_rfl, by decide⟩
instance : AppTy Try.prog 130 116 2 := ⟨Try.underlying130, by kernel_rfl, by decide⟩
instance : TyInfo Try.prog 131 false 1 := ⟨by kernel_rfl, by kernel_rfl⟩
instance : ZeroTy Try.prog 131 [.pointer none] := ⟨by kernel_rfl⟩
instance : PtrTy Try.prog 131 := ⟨_, Try.underlying131⟩
instance : TyInfo Try.prog 132 false 1 := ⟨by kernel_rfl, by kernel_rfl⟩
instance : ZeroTy Try.prog 132 [.slice none 0 0] := ⟨by kernel_rfl⟩
instance : SliceTy Try.prog 132 5 1 := ⟨Try.underlying132, by kernel_rfl, by decide⟩
instance : AppTy Try.prog 132 5 1 := ⟨Try.underlying132, by kernel_rfl, by decide⟩
instance : TyInfo Try.prog 133 true 2 := ⟨by kernel_rfl, by kernel_rfl⟩
instance : ZeroTy Try.prog 133 [.pointer none, .slice none 0 0] := ⟨by kernel_rfl⟩
instance : StructTy Try.prog 133 [(0, 1), (1, 1)] := ⟨_, Try.underlying133, by kernel_rfl⟩
instance : FldTy Try.prog 133 0 0 false 1 := ⟨⟨_, _, Try.underlying133, rfl, rfl, ⟨by kernel_rfl, by kernel_rfl⟩⟩, rfl⟩
instance : FieldTy Try.prog 133 0 0 := ⟨_, Try.underlying133, _, rfl, rfl, _, rfl, by decide⟩
instance : FldTy Try.prog 133 1 1 false 1 := ⟨⟨_, _, Try.underlying133, rfl, rfl, ⟨by kernel_rfl, by kernel_rfl⟩⟩, rfl⟩
instance : FieldTy Try.prog 133 1 1 := ⟨_, Try.underlying133, _, rfl, rfl, _, rfl, by decide⟩
instance : TyInfo Try.prog 134 true 2 := ⟨by kernel_rfl, by kernel_rfl⟩
instance : ZeroTy Try.prog 134 [.pointer none, .slice none 0 0] := ⟨by kernel_rfl⟩
instance : StructTy Try.prog 134 [(0, 1), (1, 1)] := ⟨_, Try.underlying134, by kernel_rfl⟩
instance : FldTy Try.prog 134 0 0 false 1 := ⟨⟨_, _, Try.underlying134, rfl, rfl, ⟨by kernel_rfl, by kernel_rfl⟩⟩, rfl⟩
instance : FieldTy Try.prog 134 0 0 := ⟨_, Try.underlying134, _, rfl, rfl, _, rfl, by decide⟩
instance : FldTy Try.prog 134 1 1 false 1 := ⟨⟨_, _, Try.underlying134, rfl, rfl, ⟨by kernel_rfl, by kernel_rfl⟩⟩, rfl⟩
instance : FieldTy Try.prog 134 1 1 := ⟨_, Try.underlying134, _, rfl, rfl, _, rfl, by decide⟩
instance : TyInfo Try.prog 136 false 1 := ⟨by kernel_rfl, by kernel_rfl⟩
instance : ZeroTy Try.prog 136 [.nilFunc] := ⟨by kernel_rfl⟩
instance : TyInfo Try.prog 137 false 1 := ⟨by kernel_rfl, by kernel_rfl⟩
instance : ZeroTy Try.prog 137 [.nilIface] := ⟨by kernel_rfl⟩
instance : TyInfo Try.prog 138 false 1 := ⟨by kernel_rfl, by kernel_rfl⟩
instance : ZeroTy Try.prog 138 [.nilIface] := ⟨by kernel_rfl⟩
instance : TyInfo Try.prog 140 false 1 := ⟨by kernel_rfl, by kernel_rfl⟩
instance : ZeroTy Try.prog 140 [.nilFunc] := ⟨by kernel_rfl⟩
instance : TyInfo Try.prog 141 false 1 := ⟨by kernel_rfl, by kernel_rfl⟩
instance : ZeroTy Try.prog 141 [.nilFunc] := ⟨by kernel_rfl⟩
instance : TyInfo Try.prog 142 false 1 := ⟨by kernel_rfl, by kernel_rfl⟩
instance : ZeroTy Try.prog 142 [.nilFunc] := ⟨by kernel_rfl⟩
instance : TyInfo Try.prog 143 false 1 := ⟨by kernel_rfl, by kernel_rfl⟩
instance : ZeroTy Try.prog 143 [.nilFunc] := ⟨by kernel_rfl⟩
instance : TyInfo Try.prog 144 false 1 := ⟨by kernel_rfl, by kernel_rfl⟩
instance : ZeroTy Try.prog 144 [.nilFunc] := ⟨by kernel_rfl⟩
instance : TyInfo Try.prog 145 false 1 := ⟨by kernel_rfl, by kernel_rfl⟩
instance : ZeroTy Try.prog 145 [.nilFunc] := ⟨by kernel_rfl⟩
instance : TyInfo Try.prog 146 false 1 := ⟨by kernel_rfl, by kernel_rfl⟩
instance : ZeroTy Try.prog 146 [.pointer none] := ⟨by kernel_rfl⟩
instance : PtrTy Try.prog 146 := ⟨_, Try.underlying146⟩
instance : TyInfo Try.prog 147 false 1 := ⟨by kernel_rfl, by kernel_rfl⟩
instance : ZeroTy Try.prog 147 [.nilFunc] := ⟨by kernel_rfl⟩
instance : TyInfo Try.prog 148 false 1 := ⟨by kernel_rfl, by kernel_rfl⟩
instance : ZeroTy Try.prog 148 [.nilFunc] := ⟨by kernel_rfl⟩
instance : TyInfo Try.prog 149 false 1 := ⟨by kernel_rfl, by kernel_rfl⟩
instance : ZeroTy Try.prog 149 [.nilFunc] := ⟨by kernel_rfl⟩
instance : TyInfo Try.prog 151 false 1 := ⟨by kernel_rfl, by kernel_rfl⟩
instance : ZeroTy Try.prog 151 [.nilFunc] := ⟨by kernel_rfl⟩
instance : TyInfo Try.prog 152 false 1 := ⟨by kernel_rfl, by kernel_rfl⟩
instance : ZeroTy Try.prog 152 [.nilFunc] := ⟨by kernel_rfl⟩
instance : TyInfo Try.prog 160 false 1 := ⟨by kernel_rfl, by kernel_rfl⟩
instance : ZeroTy Try.prog 160 [.nilFunc] := ⟨by kernel_rfl⟩
instance : EqTy Try.prog 2 false [some (.i .i64)] 1 := ⟨eqat_int Try.underlying2⟩
instance : EqTy Try.prog 3 false [some (.i .i64)] 1 := ⟨eqat_int Try.underlying3⟩
instance : EqTy Try.prog 4 false [some .b] 1 := ⟨eqat_bool Try.underlying4⟩
instance : EqTy Try.prog 5 false [some (.i .u8)] 1 := ⟨eqat_int Try.underlying5⟩
instance : EqTy Try.prog 9 false [some .s] 1 := ⟨eqat_string Try.underlying9⟩
instance : EqTy Try.prog 12 false [some (.i .u64)] 1 := ⟨eqat_int Try.underlying12⟩
instance : EqTy Try.prog 21 false [some (.i .i32)] 1 := ⟨eqat_int Try.underlying21⟩
instance : EqTy Try.prog 22 false [some (.i .u64)] 1 := ⟨eqat_int Try.underlying22⟩
instance : EqTy Try.prog 23 false [some (.i .u32)] 1 := ⟨eqat_int Try.underlying23⟩
instance : EqTy Try.prog 24 true [some (.i .u64), some (.i .u32), some (.i .i64), some (.i .i64), some (.i .i64), some (.i .i64), some (.i .i64)] 2 := ⟨eqat_struct Try.underlying24 (by kernel_rfl) (FieldsEq.cons (agg := false) (m' := 1) (sh1 := [some (.i .u64)]) (by decide) rfl (show EqTy Try.prog 22 false [some (.i .u64)] 1 from inferInstance) rfl (show TyInfo Try.prog 22 false 1 from inferInstance) rfl (FieldsEq.cons (agg := false) (m' := 1) (sh1 := [some (.i .u32)]) (by decide) rfl (show EqTy Try.prog 23 false [some (.i .u32)] 1 from inferInstance) rfl (show TyInfo Try.prog 23 false 1 from inferInstance) rfl (FieldsEq.cons (agg := false) (m' := 1) (sh1 := [some (.i .i64)]) (by decide) rfl (show EqTy Try.prog 3 false [some (.i .i64)] 1 from inferInstance) rfl (show TyInfo Try.prog 3 false 1 from inferInstance) rfl (FieldsEq.cons (agg := false) (m' := 1) (sh1 := [some (.i .i64)]) (by decide) rfl (show EqTy Try.prog 3 false [some (.i .i64)] 1 from inferInstance) rfl (show TyInfo Try.prog 3 false 1 from inferInstance) rfl (FieldsEq.cons (agg := false) (m' := 1) (sh1 := [some (.i .i64)]) (by decide) rfl (show EqTy Try.prog 3 false [some (.i .i64)] 1 from inferInstance) rfl (show TyInfo Try.prog 3 false 1 from inferInstance) rfl (FieldsEq.cons (agg := false) (m' := 1) (sh1 := [some (.i .i64)]) (by decide) rfl (show EqTy Try.prog 3 false [some (.i .i64)] 1 from inferInstance) rfl (show TyInfo Try.prog 3 false 1 from inferInstance) rfl (FieldsEq.cons (agg := false) (m' := 1) (sh1 := [some (.i .i64)]) (by decide) rfl (show EqTy Try.prog 3 false [some (.i .i64)] 1 from inferInstance) rfl (show TyInfo Try.prog 3 false 1 from inferInstance) rfl FieldsEq.nil)))))))⟩
instance : NoGuard Try.prog 24 := ⟨by kernel_rfl⟩
instance : EqTy Try.prog 25 true [some (.i .u64), some (.i .u32), some (.i .i64), some (.i .i64), some (.i .i64), some (.i .i64), some (.i .i64)] 2 := ⟨eqat_struct Try.underlying25 (by kernel_rfl) (FieldsEq.cons (agg := false) (m' := 1) (sh1 := [some (.i .u64)]) (by decide) rfl (show EqTy Try.prog 22 false [some (.i .u64)] 1 from inferInstance) rfl (show TyInfo Try.prog 22 false 1 from inferInstance) rfl (FieldsEq.cons (agg := false) (m' := 1) (sh1 := [some (.i .u32)]) (by decide) rfl (show EqTy Try.prog 23 false [some (.i .u32)] 1 from inferInstance) rfl (show TyInfo Try.prog 23 false 1 from inferInstance) rfl (FieldsEq.cons (agg := false) (m' := 1) (sh1 := [some (.i .i64)]) (by decide) rfl (show EqTy Try.prog 3 false [some (.i .i64)] 1 from inferInstance) rfl (show TyInfo Try.prog 3 false 1 from inferInstance) rfl (FieldsEq.cons (agg := false) (m' := 1) (sh1 := [some (.i .i64)]) (by decide) rfl (show EqTy Try.prog 3 false [some (.i .i64)] 1 from inferInstance) rfl (show TyInfo Try.prog 3 false 1 from inferInstance) rfl (FieldsEq.cons (agg := false) (m' := 1) (sh1 := [some (.i .i64)]) (by decide) rfl (show EqTy Try.prog 3 false [some (.i .i64)] 1 from inferInstance) rfl (show TyInfo Try.prog 3 false 1 from inferInstance) rfl (FieldsEq.cons (agg := false) (m' := 1) (sh1 := [some (.i .i64)]) (by decide) rfl (show EqTy Try.prog 3 false [some (.i .i64)] 1 from inferInstance) rfl (show TyInfo Try.prog 3 false 1 from inferInstance) rfl (FieldsEq.cons (agg := false) (m' := 1) (sh1 := [some (.i .i64)]) (by decide) rfl (show EqTy Try.prog 3 false [some (.i .i64)] 1 from inferInstance) rfl (show TyInfo Try.prog 3 false 1 from inferInstance) rfl FieldsEq.nil)))))))⟩
instance : NoGuard Try.prog 25 := ⟨by kernel_rfl⟩
instance : EqTy Try.prog 27 false [some (.i .i64)] 1 := ⟨eqat_int Try.underlying27⟩
instance : EqTy Try.prog 40 true [some (.i .i64), some (.i .u64), some (.i .u32), some (.i .u64), some (.i .u32)] 2 := ⟨eqat_struct Try.underlying40 (by kernel_rfl) (FieldsEq.cons (agg := false) (m' := 1) (sh1 := [some (.i .i64)]) (by decide) rfl (show EqTy Try.prog 3 false [some (.i .i64)] 1 from inferInstance) rfl (show TyInfo Try.prog 3 false 1 from inferInstance) rfl (FieldsEq.cons (agg := false) (m' := 1) (sh1 := [some (.i .u64)]) (by decide) rfl (show EqTy Try.prog 22 false [some (.i .u64)] 1 from inferInstance) rfl (show TyInfo Try.prog 22 false 1 from inferInstance) rfl (FieldsEq.cons (agg := false) (m' := 1) (sh1 := [some (.i .u32)]) (by decide) rfl (show EqTy Try.prog 23 false [some (.i .u32)] 1 from inferInstance) rfl (show TyInfo Try.prog 23 false 1 from inferInstance) rfl (FieldsEq.cons (agg := false) (m' := 1) (sh1 := [some (.i .u64)]) (by decide) rfl (show EqTy Try.prog 22 false [some (.i .u64)] 1 from inferInstance) rfl (show TyInfo Try.prog 22 false 1 from inferInstance) rfl (FieldsEq.cons (agg := false) (m' := 1) (sh1 := [some (.i .u32)]) (by decide) rfl (show EqTy Try.prog 23 false [some (.i .u32)] 1 from inferInstance) rfl (show TyInfo Try.prog 23 false 1 from inferInstance) rfl FieldsEq.nil)))))⟩
instance : NoGuard Try.prog 40 := ⟨by kernel_rfl⟩
instance : EqTy Try.prog 41 true [some (.i .i64), some (.i .u64), some (.i .u32), some (.i .u64), some (.i .u32)] 2 := ⟨eqat_struct Try.underlying41 (by kernel_rfl) (FieldsEq.cons (agg := false) (m' := 1) (sh1 := [some (.i .i64)]) (by decide) rfl (show EqTy Try.prog 3 false [some (.i .i64)] 1 from inferInstance) rfl (show TyInfo Try.prog 3 false 1 from inferInstance) rfl (FieldsEq.cons (agg := false) (m' := 1) (sh1 := [some (.i .u64)]) (by decide) rfl (show EqTy Try.prog 22 false [some (.i .u64)] 1 from inferInstance) rfl (show TyInfo Try.prog 22 false 1 from inferInstance) rfl (FieldsEq.cons (agg := false) (m' := 1) (sh1 := [some (.i .u32)]) (by decide) rfl (show EqTy Try.prog 23 false [some (.i .u32)] 1 from inferInstance) rfl (show TyInfo Try.prog 23 false 1 from inferInstance) rfl (FieldsEq.cons (agg := false) (m' := 1) (sh1 := [some (.i .u64)]) (by decide) rfl (show EqTy Try.prog 22 false [some (.i .u64)] 1 from inferInstance) rfl (show TyInfo Try.prog 22 false 1 from inferInstance) rfl (FieldsEq.cons (agg := false) (m' := 1) (sh1 := [some (.i .u32)]) (by decide) rfl (show EqTy Try.prog 23 false [some (.i .u32)] 1 from inferInstance) rfl (show TyInfo Try.prog 23 false 1 from inferInstance) rfl FieldsEq.nil)))))⟩
instance : NoGuard Try.prog 41 := ⟨by kernel_rfl⟩
instance : EqTy Try.prog 42 true [some (.i .i64), some (.i .u32), some .s, some (.i .i64), some (.i .u64), some (.i .u32), some (.i .u64), some (.i .u32), some (.i .i64)] 3 := ⟨eqat_struct Try.underlying42 (by kernel_rfl) (FieldsEq.cons (agg := false) (m' := 1) (sh1 := [some (.i .i64)]) (by decide) rfl (show EqTy Try.prog 3 false [some (.i .i64)] 1 from inferInstance) rfl (show TyInfo Try.prog 3 false 1 from inferInstance) rfl (FieldsEq.cons (agg := false) (m' := 1) (sh1 := [some (.i .u32)]) (by decide) rfl (show EqTy Try.prog 23 false [some (.i .u32)] 1 from inferInstance) rfl (show TyInfo Try.prog 23 false 1 from inferInstance) rfl (FieldsEq.cons (agg := false) (m' := 1) (sh1 := [some .s]) (by decide) rfl (show EqTy Try.prog 9 false [some .s] 1 from inferInstance) rfl (show TyInfo Try.prog 9 false 1 from inferInstance) rfl (FieldsEq.cons (agg := true) (m' := 2) (sh1 := [some (.i .i64), some (.i .u64), some (.i .u32), some (.i .u64), some (.i .u32)]) (by decide) rfl (show EqTy Try.prog 41 true [some (.i .i64), some (.i .u64), some (.i .u32), some (.i .u64), some (.i .u32)] 2 from inferInstance) rfl (show TyInfo Try.prog 41 true 5 from inferInstance) rfl (FieldsEq.cons (agg := false) (m' := 1) (sh1 := [some (.i .i64)]) (by decide) rfl (show EqTy Try.prog 3 false [some (.i .i64)] 1 from inferInstance) rfl (show TyInfo Try.prog 3 false 1 from inferInstance) rfl FieldsEq.nil)))))⟩
instance : NoGuard Try.prog 42 := ⟨by kernel_rfl⟩
instance : EqTy Try.prog 43 true [some (.i .i64), some (.i .u32), some .s, some (.i .i64), some (.i .u64), some (.i .u32), some (.i .u64), some (.i .u32), some (.i .i64)] 3 := ⟨eqat_struct Try.underlying43 (by kernel_rfl) (FieldsEq.cons (agg := false) (m' := 1) (sh1 := [some (.i .i64)]) (by decide) rfl (show EqTy Try.prog 3 false [some (.i .i64)] 1 from inferInstance) rfl (show TyInfo Try.prog 3 false 1 from inferInstance) rfl (FieldsEq.cons (agg := false) (m' := 1) (sh1 := [some (.i .u32)]) (by decide) rfl (show EqTy Try.prog 23 false [some (.i .u32)] 1 from inferInstance) rfl (show TyInfo Try.prog 23 false 1 from inferInstance) rfl (FieldsEq.cons (agg := false) (m' := 1) (sh1 := [some .s]) (by decide) rfl (show EqTy Try.prog 9 false [some .s] 1 from inferInstance) rfl (show TyInfo Try.prog 9 false 1 from inferInstance) rfl (FieldsEq.cons (agg := true) (m' := 2) (sh1 := [some (.i .i64), some (.i .u64), some (.i .u32), some (.i .u64), some (.i .u32)]) (by decide) rfl (show EqTy Try.prog 41 true [some (.i .i64), some (.i .u64), some (.i .u32), some (.i .u64), some (.i .u32)] 2 from inferInstance) rfl (show TyInfo Try.prog 41 true 5 from inferInstance) rfl (FieldsEq.cons (agg := false) (m' := 1) (sh1 := [some (.i .i64)]) (by decide) rfl (show EqTy Try.prog 3 false [some (.i .i64)] 1 from inferInstance) rfl (show TyInfo Try.prog 3 false 1 from inferInstance) rfl FieldsEq.nil)))))⟩
instance : NoGuard Try.prog 43 := ⟨by kernel_rfl⟩
instance : EqTy Try.prog 48 true [some .b, some (.i .i64), some .b, some (.i .i64)] 2 := ⟨eqat_struct Try.underlying48 (by kernel_rfl) (FieldsEq.cons (agg := false) (m' := 1) (sh1 := [some .b]) (by decide) rfl (show EqTy Try.prog 4 false [some .b] 1 from inferInstance) rfl (show TyInfo Try.prog 4 false 1 from inferInstance) rfl (FieldsEq.cons (agg := false) (m' := 1) (sh1 := [some (.i .i64)]) (by decide) rfl (show EqTy Try.prog 3 false [some (.i .i64)] 1 from inferInstance) rfl (show TyInfo Try.prog 3 false 1 from inferInstance) rfl (FieldsEq.cons (agg := false) (m' := 1) (sh1 := [some .b]) (by decide) rfl (show EqTy Try.prog 4 false [some .b] 1 from inferInstance) rfl (show TyInfo Try.prog 4 false 1 from inferInstance) rfl (FieldsEq.cons (agg := false) (m' := 1) (sh1 := [some (.i .i64)]) (by decide) rfl (show EqTy Try.prog 3 false [some (.i .i64)] 1 from inferInstance) rfl (show TyInfo Try.prog 3 false 1 from inferInstance) rfl FieldsEq.nil))))⟩
instance : NoGuard Try.prog 48 := ⟨by kernel_rfl⟩
instance : EqTy Try.prog 49 true [some .b, some (.i .i64), some .b, some (.i .i64)] 2 := ⟨eqat_struct Try.underlying49 (by kernel_rfl) (FieldsEq.cons (agg := false) (m' := 1) (sh1 := [some .b]) (by decide) rfl (show EqTy Try.prog 4 false [some .b] 1 from inferInstance) rfl (show TyInfo Try.prog 4 false 1 from inferInstance) rfl (FieldsEq.cons (agg := false) (m' := 1) (sh1 := [some (.i .i64)]) (by decide) rfl (show EqTy Try.prog 3 false [some (.i .i64)] 1 from inferInstance) rfl (show TyInfo Try.prog 3 false 1 from inferInstance) rfl (FieldsEq.cons (agg := false) (m' := 1) (sh1 := [some .b]) (by decide) rfl (show EqTy Try.prog 4 false [some .b] 1 from inferInstance) rfl (show TyInfo Try.prog 4 false 1 from inferInstance) rfl (FieldsEq.cons (agg := false) (m' := 1) (sh1 := [some (.i .i64)]) (by decide) rfl (show EqTy Try.prog 3 false [some (.i .i64)] 1 from inferInstance) rfl (show TyInfo Try.prog 3 false 1 from inferInstance) rfl FieldsEq.nil))))⟩
instance : NoGuard Try.prog 49 := ⟨by kernel_rfl⟩
instance : EqTy Try.prog 50 true [some (.i .u64), some (.i .u64), some .b, some (.i .i64), some .b, some (.i .i64), some (.i .i64), some .s] 3 := ⟨eqat_struct Try.underlying50 (by kernel_rfl) (FieldsEq.cons (agg := false) (m' := 1) (sh1 := [some (.i .u64)]) (by decide) rfl (show EqTy Try.prog 22 false [some (.i .u64)] 1 from inferInstance) rfl (show TyInfo Try.prog 22 false 1 from inferInstance) rfl (FieldsEq.cons (agg := false) (m' := 1) (sh1 := [some (.i .u64)]) (by decide) rfl (show EqTy Try.prog 22 false [some (.i .u64)] 1 from inferInstance) rfl (show TyInfo Try.prog 22 false 1 from inferInstance) rfl (FieldsEq.cons (agg := true) (m' := 2) (sh1 := [some .b, some (.i .i64), some .b, some (.i .i64)]) (by decide) rfl (show EqTy Try.prog 49 true [some .b, some (.i .i64), some .b, some (.i .i64)] 2 from inferInstance) rfl (show TyInfo Try.prog 49 true 4 from inferInstance) rfl (FieldsEq.cons (agg := false) (m' := 1) (sh1 := [some (.i .i64)]) (by decide) rfl (show EqTy Try.prog 3 false [some (.i .i64)] 1 from inferInstance) rfl (show TyInfo Try.prog 3 false 1 from inferInstance) rfl (FieldsEq.cons (agg := false) (m' := 1) (sh1 := [some .s]) (by decide) rfl (show EqTy Try.prog 9 false [some .s] 1 from inferInstance) rfl (show TyInfo Try.prog 9 false 1 from inferInstance) rfl FieldsEq.nil)))))⟩
instance : NoGuard Try.prog 50 := ⟨by kernel_rfl⟩
instance : EqTy Try.prog 51 true [some (.i .u64), some (.i .u64), some .b, some (.i .i64), some .b, some (.i .i64), some (.i .i64), some .s] 3 := ⟨eqat_struct Try.underlying51 (by kernel_rfl) (FieldsEq.cons (agg := false) (m' := 1) (sh1 := [some (.i .u64)]) (by decide) rfl (show EqTy Try.prog 22 false [some (.i .u64)] 1 from inferInstance) rfl (show TyInfo Try.prog 22 false 1 from inferInstance) rfl (FieldsEq.cons (agg := false) (m' := 1) (sh1 := [some (.i .u64)]) (by decide) rfl (show EqTy Try.prog 22 false [some (.i .u64)] 1 from inferInstance) rfl (show TyInfo Try.prog 22 false 1 from inferInstance) rfl (FieldsEq.cons (agg := true) (m' := 2) (sh1 := [some .b, some (.i .i64), some .b, some (.i .i64)]) (by decide) rfl (show EqTy Try.prog 49 true [some .b, some (.i .i64), some .b, some (.i .i64)] 2 from inferInstance) rfl (show TyInfo Try.prog 49 true 4 from inferInstance) rfl (FieldsEq.cons (agg := false) (m' := 1) (sh1 := [some (.i .i64)]) (by decide) rfl (show EqTy Try.prog 3 false [some (.i .i64)] 1 from inferInstance) rfl (show TyInfo Try.prog 3 false 1 from inferInstance) rfl (FieldsEq.cons (agg := false) (m' := 1) (sh1 := [some .s]) (by decide) rfl (show EqTy Try.prog 9 false [some .s] 1 from inferInstance) rfl (show TyInfo Try.prog 9 false 1 from inferInstance) rfl FieldsEq.nil)))))⟩
instance : NoGuard Try.prog 51 := ⟨by kernel_rfl⟩
instance : EqTy Try.prog 77 true [some (.i .u32), some .s] 2 := ⟨eqat_struct Try.underlying77 (by kernel_rfl) (FieldsEq.cons (agg := false) (m' := 1) (sh1 := [some (.i .u32)]) (by decide) rfl (show EqTy Try.prog 23 false [some (.i .u32)] 1 from inferInstance) rfl (show TyInfo Try.prog 23 false 1 from inferInstance) rfl (FieldsEq.cons (agg := false) (m' := 1) (sh1 := [some .s]) (by decide) rfl (show EqTy Try.prog 9 false [some .s] 1 from inferInstance) rfl (show TyInfo Try.prog 9 false 1 from inferInstance) rfl FieldsEq.nil))⟩
instance : NoGuard Try.prog 77 := ⟨by kernel_rfl⟩
instance : EqTy Try.prog 78 true [some (.i .u32), some .s] 2 := ⟨eqat_struct Try.underlying78 (by kernel_rfl) (FieldsEq.cons (agg := false) (m' := 1) (sh1 := [some (.i .u32)]) (by decide) rfl (show EqTy Try.prog 23 false [some (.i .u32)] 1 from inferInstance) rfl (show TyInfo Try.prog 23 false 1 from inferInstance) rfl (FieldsEq.cons (agg := false) (m' := 1) (sh1 := [some .s]) (by decide) rfl (show EqTy Try.prog 9 false [some .s] 1 from inferInstance) rfl (show TyInfo Try.prog 9 false 1 from inferInstance) rfl FieldsEq.nil))⟩
instance : NoGuard Try.prog 78 := ⟨by kernel_rfl⟩
instance : EqTy Try.prog 79 true [some (.i .u64), some (.i .u64), some (.i .i64), some .b] 2 := ⟨eqat_struct Try.underlying79 (by kernel_rfl) (FieldsEq.cons (agg := false) (m' := 1) (sh1 := [some (.i .u64)]) (by decide) rfl (show EqTy Try.prog 22 false [some (.i .u64)] 1 from inferInstance) rfl (show TyInfo Try.prog 22 false 1 from inferInstance) rfl (FieldsEq.cons (agg := false) (m' := 1) (sh1 := [some (.i .u64)]) (by decide) rfl (show EqTy Try.prog 22 false [some (.i .u64)] 1 from inferInstance) rfl (show TyInfo Try.prog 22 false 1 from inferInstance) rfl (FieldsEq.cons (agg := false) (m' := 1) (sh1 := [some (.i .i64)]) (by decide) rfl (show EqTy Try.prog 3 false [some (.i .i64)] 1 from inferInstance) rfl (show TyInfo Try.prog 3 false 1 from inferInstance) rfl (FieldsEq.cons (agg := false) (m' := 1) (sh1 := [some .b]) (by decide) rfl (show EqTy Try.prog 4 false [some .b] 1 from inferInstance) rfl (show TyInfo Try.prog 4 false 1 from inferInstance) rfl FieldsEq.nil))))⟩
instance : NoGuard Try.prog 79 := ⟨by kernel_rfl⟩
instance : EqTy Try.prog 80 true [some (.i .u64), some (.i .u64), some (.i .i64), some .b] 2 := ⟨eqat_struct Try.underlying80 (by kernel_rfl) (FieldsEq.cons (agg := false) (m' := 1) (sh1 := [some (.i .u64)]) (by decide) rfl (show EqTy Try.prog 22 false [some (.i .u64)] 1 from inferInstance) rfl (show TyInfo Try.prog 22 false 1 from inferInstance) rfl (FieldsEq.cons (agg := false) (m' := 1) (sh1 := [some (.i .u64)]) (by decide) rfl (show EqTy Try.prog 22 false [some (.i .u64)] 1 from inferInstance) rfl (show TyInfo Try.prog 22 false 1 from inferInstance) rfl (FieldsEq.cons (agg := false) (m' := 1) (sh1 := [some (.i .i64)]) (by decide) rfl (show EqTy Try.prog 3 false [some (.i .i64)] 1 from inferInstance) rfl (show TyInfo Try.prog 3 false 1 from inferInstance) rfl (FieldsEq.cons (agg := false) (m' := 1) (sh1 := [some .b]) (by decide) rfl (show EqTy Try.prog 4 false [some .b] 1 from inferInstance) rfl (show TyInfo Try.prog 4 false 1 from inferInstance) rfl FieldsEq.nil))))⟩
instance : NoGuard Try.prog 80 := ⟨by kernel_rfl⟩
instance : EqTy Try.prog 85 true [some (.i .u32), some (.i .i64), some (.i .i64)] 2 := ⟨eqat_struct Try.underlying85 (by kernel_rfl) (FieldsEq.cons (agg := false) (m' := 1) (sh1 := [some (.i .u32)]) (by decide) rfl (show EqTy Try.prog 23 false [some (.i .u32)] 1 from inferInstance) rfl (show TyInfo Try.prog 23 false 1 from inferInstance) rfl (FieldsEq.cons (agg := false) (m' := 1) (sh1 := [some (.i .i64)]) (by decide) rfl (show EqTy Try.prog 3 false [some (.i .i64)] 1 from inferInstance) rfl (show TyInfo Try.prog 3 false 1 from inferInstance) rfl (FieldsEq.cons (agg := false) (m' := 1) (sh1 := [some (.i .i64)]) (by decide) rfl (show EqTy Try.prog 3 false [some (.i .i64)] 1 from inferInstance) rfl (show TyInfo Try.prog 3 false 1 from inferInstance) rfl FieldsEq.nil)))⟩
instance : NoGuard Try.prog 85 := ⟨by kernel_rfl⟩
instance : EqTy Try.prog 86 true [some (.i .u32), some (.i .i64), some (.i .i64)] 2 := ⟨eqat_struct Try.underlying86 (by kernel_rfl) (FieldsEq.cons (agg := false) (m' := 1) (sh1 := [some (.i .u32)]) (by decide) rfl (show EqTy Try.prog 23 false [some (.i .u32)] 1 from inferInstance) rfl (show TyInfo Try.prog 23 false 1 from inferInstance) rfl (FieldsEq.cons (agg := false) (m' := 1) (sh1 := [some (.i .i64)]) (by decide) rfl (show EqTy Try.prog 3 false [some (.i .i64)] 1 from inferInstance) rfl (show TyInfo Try.prog 3 false 1 from inferInstance) rfl (FieldsEq.cons (agg := false) (m' := 1) (sh1 := [some (.i .i64)]) (by decide) rfl (show EqTy Try.prog 3 false [some (.i .i64)] 1 from inferInstance) rfl (show TyInfo Try.prog 3 false 1 from inferInstance) rfl FieldsEq.nil)))⟩
instance : NoGuard Try.prog 86 := ⟨by kernel_rfl⟩
instance : EqTy Try.prog 93 false [some (.i .u64)] 1 := ⟨eqat_int Try.underlying93⟩
instance : EqTy Try.prog 115 true [some (.i .u64), some (.i .i64)] 2 := ⟨eqat_struct Try.underlying115 (by kernel_rfl) (FieldsEq.cons (agg := false) (m' := 1) (sh1 := [some (.i .u64)]) (by decide) rfl (show EqTy Try.prog 22 false [some (.i .u64)] 1 from inferInstance) rfl (show TyInfo Try.prog 22 false 1 from inferInstance) rfl (FieldsEq.cons (agg := false) (m' := 1) (sh1 := [some (.i .i64)]) (by decide) rfl (show EqTy Try.prog 3 false [some (.i .i64)] 1 from inferInstance) rfl (show TyInfo Try.prog 3 false 1 from inferInstance) rfl FieldsEq.nil))⟩
instance : NoGuard Try.prog 115 := ⟨by kernel_rfl⟩
instance : EqTy Try.prog 116 true [some (.i .u64), some (.i .i64)] 2 := ⟨eqat_struct Try.underlying116 (by kernel_rfl) (FieldsEq.cons (agg := false) (m' := 1) (sh1 := [some (.i .u64)]) (by decide) rfl (show EqTy Try.prog 22 false [some (.i .u64)] 1 from inferInstance) rfl (show TyInfo Try.prog 22 false 1 from inferInstance) rfl (FieldsEq.cons (agg := false) (m' := 1) (sh1 := [some (.i .i64)]) (by decide) rfl (show EqTy Try.prog 3 false [some (.i .i64)] 1 from inferInstance) rfl (show TyInfo Try.prog 3 false 1 from inferInstance) rfl FieldsEq.nil))⟩
instance : NoGuard Try.prog 116 := ⟨by kernel_rfl⟩
instance : EqTy Try.prog 119 true [some (.i .u32), some (.i .i64), some (.i .i64)] 2 := ⟨eqat_struct Try.underlying119 (by kernel_rfl) (FieldsEq.cons (agg := false) (m' := 1) (sh1 := [some (.i .u32)]) (by decide) rfl (show EqTy Try.prog 23 false [some (.i .u32)] 1 from inferInstance) rfl (show TyInfo Try.prog 23 false 1 from inferInstance) rfl (FieldsEq.cons (agg := false) (m' := 1) (sh1 := [some (.i .i64)]) (by decide) rfl (show EqTy Try.prog 3 false [some (.i .i64)] 1 from inferInstance) rfl (show TyInfo Try.prog 3 false 1 from inferInstance) rfl (FieldsEq.cons (agg := false) (m' := 1) (sh1 := [some (.i .i64)]) (by decide) rfl (show EqTy Try.prog 3 false [some (.i .i64)] 1 from inferInstance) rfl (show TyInfo Try.prog 3 false 1 from inferInstance) rfl FieldsEq.nil)))⟩
instance : NoGuard Try.prog 119 := ⟨by kernel_rfl⟩
instance : EqTy Try.prog 120 true [some (.i .u32), some (.i .i64), some (.i .i64)] 2 := ⟨eqat_struct Try.underlying120 (by kernel_rfl) (FieldsEq.cons (agg := false) (m' := 1) (sh1 := [some (.i .u32)]) (by decide) rfl (show EqTy Try.prog 23 false [some (.i .u32)] 1 from inferInstance) rfl (show TyInfo Try.prog 23 false 1 from inferInstance) rfl (FieldsEq.cons (agg := false) (m' := 1) (sh1 := [some (.i .i64)]) (by decide) rfl (show EqTy Try.prog 3 false [some (.i .i64)] 1 from inferInstance) rfl (show TyInfo Try.prog 3 false 1 from inferInstance) rfl (FieldsEq.cons (agg := false) (m' := 1) (sh1 := [some (.i .i64)]) (by decide) rfl (show EqTy Try.prog 3 false [some (.i .i64)] 1 from inferInstance) rfl (show TyInfo Try.prog 3 false 1 from inferInstance) rfl FieldsEq.nil)))⟩
instance : NoGuard Try.prog 120 := ⟨by kernel_rfl⟩
instance : FnTy Try.prog 3 := ⟨_, Try.func3, by kernel_rfl, rfl⟩
instance : FnTy Try.prog 4 := ⟨_, Try.func4, by kernel_rfl, rfl⟩
instance : FnTy Try.prog 5 := ⟨_, Try.func5, by kernel_rfl, rfl⟩
instance : FnTy Try.prog 6 := ⟨_, Try.func6, by kernel_rfl, rfl⟩
instance : FnTy Try.prog 7 := ⟨_, Try.func7, by kernel_rfl, rfl⟩
instance : FnTy Try.prog 8 := ⟨_, Try.func8, by kernel_rfl, rfl⟩
instance : FnTy Try.prog 9 := ⟨_, Try.func9, by kernel_rfl, rfl⟩
instance : FnTy Try.prog 10 := ⟨_, Try.func10, by kernel_rfl, rfl⟩
instance : FnTy Try.prog 11 := ⟨_, Try.func11, by kernel_rfl, rfl⟩
instance : FnTy Try.prog 12 := ⟨_, Try.func12, by kernel_rfl, rfl⟩
instance : FnTy Try.prog 13 := ⟨_, Try.func13, by kernel_rfl, rfl⟩
instance : FnTy Try.prog 14 := ⟨_, Try.func14, by kernel_rfl, rfl⟩
instance : FnTy Try.prog 15 := ⟨_, Try.func15, by kernel_rfl, rfl⟩
instance : FnTy Try.prog 16 := ⟨_, Try.func16, by kernel_rfl, rfl⟩
instance : FnTy Try.prog 17 := ⟨_, Try.func17, by kernel_rfl, rfl⟩
instance : FnTy Try.prog 18 := ⟨_, Try.func18, by kernel_rfl, rfl⟩
instance : FnTy Try.prog 19 := ⟨_, Try.func19, by kernel_rfl, rfl⟩
instance : FnTy Try.prog 20 := ⟨_, Try.func20, by kernel_rfl, rfl⟩
instance : FnTy Try.prog 21 := ⟨_, Try.func21, by kernel_rfl, rfl⟩
instance : FnTy Try.prog 22 := ⟨_, Try.func22, by kernel_rfl, rfl⟩
instance : FnTy Try.prog 23 := ⟨_, Try.func23, by kernel_rfl, rfl⟩
instance : FnTy Try.prog 24 := ⟨_, Try.func24, by kernel_rfl, rfl⟩
instance : FnTy Try.prog 25 := ⟨_, Try.func25, by kernel_rfl, rfl⟩
instance : FnTy Try.prog 26 := ⟨_, Try.func26, by kernel_rfl, rfl⟩
instance : FnTy Try.prog 27 := ⟨_, Try.func27, by kernel_rfl, rfl⟩
instance : FnTy Try.prog 28 := ⟨_, Try.func28, by kernel_rfl, rfl⟩
instance : FnTy Try.prog 29 := ⟨_, Try.func29, by kernel_rfl, rfl⟩
instance : FnTy Try.prog 30 := ⟨_, Try.func30, by kernel_rfl, rfl⟩
instance : FnTy Try.prog 31 := ⟨_, Try.func31, by kernel_rfl, rfl⟩
instance : FnTy Try.prog 32 := ⟨_, Try.func32, by kernel_rfl, rfl⟩
instance : FnTy Try.prog 33 := ⟨_, Try.func33, by kernel_rfl, rfl⟩
instance : FnTy Try.prog 34 := ⟨_, Try.func34, by kernel_rfl, rfl⟩
instance : FnTy Try.prog 35 := ⟨_, Try.func35, by kernel_rfl, rfl⟩
instance : FnTy Try.prog 36 := ⟨_, Try.func36, by kernel_rfl, rfl⟩
instance : FnTy Try.prog 37 := ⟨_, Try.func37, by kernel_rfl, rfl⟩
instance : FnTy Try.prog 38 := ⟨_, Try.func38, by kernel_rfl, rfl⟩
instance : FnTy Try.prog 39 := ⟨_, Try.func39, by kernel_rfl, rfl⟩
instance : FnTy Try.prog 40 := ⟨_, Try.func40, by kernel_rfl, rfl⟩
instance : FnTy Try.prog 41 := ⟨_, Try.func41, by kernel_rfl, rfl⟩
instance : FnTy Try.prog 42 := ⟨_, Try.func42, by kernel_rfl, rfl⟩
instance : FnTy Try.prog 43 := ⟨_, Try.func43, by kernel_rfl, rfl⟩
instance : FnTy Try.prog 44 := ⟨_, Try.func44, by kernel_rfl, rfl⟩
instance : FnTy Try.prog 45 := ⟨_, Try.func45, by kernel_rfl, rfl⟩
instance : FnTy Try.prog 46 := ⟨_, Try.func46, by kernel_rfl, rfl⟩
instance : FnTy Try.prog 47 := ⟨_, Try.func47, by kernel_rfl, rfl⟩
instance : FnTy Try.prog 48 := ⟨_, Try.func48, by kernel_rfl, rfl⟩
instance : FnTy Try.prog 49 := ⟨_, Try.func49, by kernel_rfl, rfl⟩
instance : FnTy Try.prog 50 := ⟨_, Try.func50, by kernel_rfl, rfl⟩
instance : FnTy Try.prog 51 := ⟨_, Try.func51, by kernel_rfl, rfl⟩
instance : FnTy Try.prog 52 := ⟨_, Try.func52, by kernel_rfl, rfl⟩
instance : FnTy Try.prog 53 := ⟨_, Try.func53, by kernel_rfl, rfl⟩
instance : FnTy Try.prog 54 := ⟨_, Try.func54, by kernel_rfl, rfl⟩
instance : FnTy Try.prog 55 := ⟨_, Try.func55, by kernel_rfl, rfl⟩
instance : FnTy Try.prog 56 := ⟨_, Try.func56, by kernel_rfl, rfl⟩
instance : FnTy Try.prog 57 := ⟨_, Try.func57, by kernel_rfl, rfl⟩
instance : FnTy Try.prog 58 := ⟨_, Try.func58, by kernel_rfl, rfl⟩
instance : FnTy Try.prog 59 := ⟨_, Try.func59, by kernel_rfl, rfl⟩
instance : FnTy Try.prog 60 := ⟨_, Try.func60, by kernel_rfl, rfl⟩
instance : FnTy Try.prog 61 := ⟨_, Try.func61, by kernel_rfl, rfl⟩
instance : FnTy Try.prog 62 := ⟨_, Try.func62, by kernel_rfl, rfl⟩
instance : FnTy Try.prog 63 := ⟨_, Try.func63, by kernel_rfl, rfl⟩
instance : FnTy Try.prog 64 := ⟨_, Try.func64, by kernel_rfl, rfl⟩
instance : FnTy Try.prog 65 := ⟨_, Try.func65, by kernel_rfl, rfl⟩
instance : FnTy Try.prog 66 := ⟨_, Try.func66, by kernel_rfl, rfl⟩
instance : FnTy Try.prog 67 := ⟨_, Try.func67, by kernel_rfl, rfl⟩
instance : FnTy Try.prog 68 := ⟨_, Try.func68, by kernel_rfl, rfl⟩
instance : FnTy Try.prog 69 := ⟨_, Try.func69, by kernel_rfl, rfl⟩
instance : FnTy Try.prog 70 := ⟨_, Try.func70, by kernel_rfl, rfl⟩
instance : FnTy Try.prog 71 := ⟨_, Try.func71, by kernel_rfl, rfl⟩
instance : FnTy Try.prog 72 := ⟨_, Try.func72, by kernel_rfl, rfl⟩
instance : FnTy Try.prog 73 := ⟨_, Try.func73, by kernel_rfl, rfl⟩
instance : FnTy Try.prog 74 := ⟨_, Try.func74, by kernel_rfl, rfl⟩
instance : FnTy Try.prog 75 := ⟨_, Try.func75, by kernel_rfl, rfl⟩
instance : FnTy Try.prog 76 := ⟨_, Try.func76, by kernel_rfl, rfl⟩
instance : FnTy Try.prog 77 := ⟨_, Try.func77, by kernel_rfl, rfl⟩
instance : FnTy Try.prog 78 := ⟨_, Try.func78, by kernel_rfl, rfl⟩
instance : FnTy Try.prog 79 := ⟨_, Try.func79, by kernel_rfl, rfl⟩
instance : FnTy Try.prog 80 := ⟨_, Try.func80, by kernel_rfl, rfl⟩
instance : FnTy Try.prog 81 := ⟨_, Try.func81, by kernel_rfl, rfl⟩
instance : FnTy Try.prog 82 := ⟨_, Try.func82, by kernel_rfl, rfl⟩
instance : FnTy Try.prog 83 := ⟨_, Try.func83, by kernel_rfl, rfl⟩
instance : FnTy Try.prog 84 := ⟨_, Try.func84, by kernel_rfl, rfl⟩
instance : FnTy Try.prog 85 := ⟨_, Try.func85, by kernel_rfl, rfl⟩
instance : FnTy Try.prog 86 := ⟨_, Try.func86, by kernel_rfl, rfl⟩
instance : FnTy Try.prog 87 := ⟨_, Try.func87, by kernel_rfl, rfl⟩
instance : OvTy Try.prog 88 97 := ⟨_, 4, Try.func88, by kernel_rfl, by kernel_rfl, by kernel_rfl, by kernel_rfl⟩
instance : FnTy Try.prog 89 := ⟨_, Try.func89, by kernel_rfl, rfl⟩
instance : FnTy Try.prog 90 := ⟨_, Try.func90, by kernel_rfl, rfl⟩
instance : FnTy Try.prog 91 := ⟨_, Try.func91, by kernel_rfl, rfl⟩
instance : FnTy Try.prog 92 := ⟨_, Try.func92, by kernel_rfl, rfl⟩
instance : FnTy Try.prog 93 := ⟨_, Try.func93, by kernel_rfl, rfl⟩
instance : FnTy Try.prog 94 := ⟨_, Try.func94, by kernel_rfl, rfl⟩
instance : FnTy Try.prog 96 := ⟨_, Try.func96, by kernel_rfl, rfl⟩
instance : Mixed Try.prog := ⟨by kernel_rfl⟩
end Go.Proofs.YtdaciolahgfhiaaTy
/- DERIVED. Layer 10: entries in order of their keys: find. No condition. -/
namespace Go.Proofs.Ytdaciolahgfhiaa
open Go.RowKit Go.Sx Go.Proofs.YtdaciolahgfhiaaTy
set_option linter.unusedVariables false
set_option linter.unusedSimpArgs false
set_option maxRecDepth 100000
attribute [local irreducible] Oper.wp Code.wp wpList wpAnyH Calls bodyPost Exit.then Exit.inBlock Code.rounds
set_option maxHeartbeats 1000000
structure En where
  k : Int
  v : Int
  t : Int
  f : Bool
deriving DecidableEq
def En.cells (x : En) : List Value := [.int .u64 x.k, .int .u64 x.v, .int .i64 x.t, .bool x.f]
def E0 : En := ⟨0, 0, 0, false⟩
theorem elen (x : En) : x.cells.length = 4 := rfl
theorem en_one (l : List En) : ∀ u ∈ l.flatMap En.cells, u.oneCell' = true := fun u hu => by
  obtain ⟨v, _, hv⟩ := List.mem_flatMap.1 hu
  simp only [En.cells, List.mem_cons, List.not_mem_nil, or_false] at hv
  rcases hv with rfl | rfl | rfl | rfl <;> rfl
/-- How two numbers stand. -/
def cmpI (a b : Int) : Int := if a < b then -1 else if b < a then 1 else 0
theorem isNaN_s (x : Int) (w0 : World) : Calls Try.prog 86 #[.int .u64 x] w0 fun e w' => ∃ r, e = .returned r ∧ r = .bool false ∧ Sep w0 w' [] := by
  refine enter (args := [.int .u64 x]) 6 Try.func86 rfl rfl rfl ?_
  intro a hE hS
  repeat' (first | refine wl_nil ?_ | refine then_n ?_ | refine c_block ?_ | refine c_skip ?_ | refine c_exit ?_ | refine c_ret ?_ | refine then_r ?_ | refine then_e ?_ | refine inb_n ?_ | refine inb_r ?_ | refine inb_e ?_ | refine inb_o rfl ?_ | refine c_cond_t hE rfl ?_ | refine c_cond_f hE rfl ?_ | refine c_rnd ?_ | (refine c_regI 0 ?_; all_goals (refine wl hE rfl ?_; refine qa hE ?_; clear hE a; intro a hE)) | (refine c_regI 1 ?_; all_goals (refine wl hE rfl ?_; refine qm hE ?_; clear hE a; intro a hE); all_goals (refine wl hE rfl ?_; refine qm hE ?_; clear hE a; intro a hE); all_goals (refine wl hE rfl ?_; (first | refine qb hE ?_ | refine qb2 hE ?_ | refine qbE hE ?_ | refine qbN hE ?_ | refine qpn hE ?_); clear hE a; intro a hE); all_goals (refine wl hE rfl ?_; refine qa hE ?_; clear hE a; intro a hE)) | refine c_seq ?_ | ((refine c_cond hE rfl ?_ ?_) <;> (intro hb; (first | replace hb := of_decide_eq_true hb | replace hb := of_decide_eq_false hb | (simp only [Bool.not_eq_true', Bool.not_eq_false', decide_eq_true_eq, decide_eq_false_iff_not] at hb) | skip); try (exfalso; first | omega | exact absurd trivial hb | exact absurd rfl hb | (simp only [beq_self_eq_true, bne_self_eq_false, reduceCtorEq] at hb; done)))))
  all_goals exact p_ret hE rfl rfl ⟨_, rfl, by simp, hS⟩
theorem cmp_s (x y : Int) (w0 : World) : Calls Try.prog 72 #[.int .u64 x, .int .u64 y] w0 fun e w' => ∃ r, e = .returned r ∧ r = .int .i64 (cmpI x y) ∧ Sep w0 w' [] := by
  refine enter (args := [.int .u64 x, .int .u64 y]) 20 Try.func72 rfl rfl rfl ?_
  intro a hE hS
  repeat' (first | refine wl_nil ?_ | refine then_n ?_ | refine c_block ?_ | refine c_skip ?_ | refine c_exit ?_ | refine c_ret ?_ | refine then_r ?_ | refine then_e ?_ | refine inb_n ?_ | refine inb_r ?_ | refine inb_e ?_ | refine inb_o rfl ?_ | refine c_cond_t hE rfl ?_ | refine c_cond_f hE rfl ?_ | refine c_rnd ?_ | (refine c_regI 0 ?_; all_goals (refine wl hE rfl ?_; refine qa hE ?_; clear hE a; intro a hE)) | (refine c_regI 1 ?_; all_goals (refine wl hE rfl ?_; refine qm hE ?_; clear hE a; intro a hE); all_goals (refine wl hE rfl ?_; refine is_call 86 rfl ?_; refine qc hE (isNaN_s _ _) ?_; clear hE; clear a; rintro _ a w ⟨rfl, hS1⟩ hE; replace hS := hS.then hS1; clear hS1); all_goals (refine wl hE rfl ?_; refine qa hE ?_; clear hE a; intro a hE)) | (refine c_regI 2 ?_; all_goals (refine wl hE rfl ?_; refine qm hE ?_; clear hE a; intro a hE); all_goals (refine wl hE rfl ?_; refine is_call 86 rfl ?_; refine qc hE (isNaN_s _ _) ?_; clear hE; clear a; rintro _ a w ⟨rfl, hS1⟩ hE; replace hS := hS.then hS1; clear hS1); all_goals (refine wl hE rfl ?_; refine qa hE ?_; clear hE a; intro a hE)) | (refine c_regI 3 ?_; all_goals (refine wl hE rfl ?_; refine qm hE ?_; clear hE a; intro a hE)) | (refine c_regI 7 ?_; all_goals (refine wl hE rfl ?_; refine qm hE ?_; clear hE a; intro a hE)) | (refine c_regI 9 ?_; all_goals (refine wl hE rfl ?_; refine qm hE ?_; clear hE a; intro a hE); all_goals (refine wl hE rfl ?_; refine qm hE ?_; clear hE a; intro a hE); all_goals (refine wl hE rfl ?_; (first | refine qb hE ?_ | refine qb2 hE ?_ | refine qbE hE ?_ | refine qbN hE ?_ | refine qpn hE ?_); clear hE a; intro a hE)) | (refine c_regI 10 ?_; all_goals (refine wl hE rfl ?_; refine qa hE ?_; clear hE a; intro a hE)) | (refine c_regI 11 ?_; all_goals (refine wl hE rfl ?_; refine qm hE ?_; clear hE a; intro a hE); all_goals (refine wl hE rfl ?_; refine qm hE ?_; clear hE a; intro a hE); all_goals (refine wl hE rfl ?_; (first | refine qb hE ?_ | refine qb2 hE ?_ | refine qbE hE ?_ | refine qbN hE ?_ | refine qpn hE ?_); clear hE a; intro a hE)) | (refine c_regI 12 ?_; all_goals (refine wl hE rfl ?_; refine qa hE ?_; clear hE a; intro a hE)) | (refine c_regI 13 ?_; all_goals (refine wl hE rfl ?_; refine qa hE ?_; clear hE a; intro a hE)) | refine c_seq ?_ | ((refine c_cond hE rfl ?_ ?_) <;> (intro hb; (first | replace hb := of_decide_eq_true hb | replace hb := of_decide_eq_false hb | (simp only [Bool.not_eq_true', Bool.not_eq_false', decide_eq_true_eq, decide_eq_false_iff_not] at hb) | skip); try (exfalso; first | omega | exact absurd trivial hb | exact absurd rfl hb | (simp only [beq_self_eq_true, bne_self_eq_false, reduceCtorEq] at hb; done)))))
  all_goals exact p_ret hE rfl rfl ⟨_, rfl, by simp [cmpI, *], hS⟩
theorem key_s (x : En) (w0 : World) : Calls Try.prog 45 #[.agg x.cells.toArray] w0 fun e w' => ∃ r, e = .returned r ∧ r = .int .u64 x.k ∧ Sep w0 w' [] := by
  refine enter (args := [.agg x.cells.toArray]) 5 Try.func45 rfl rfl rfl ?_
  intro a hE hS
  repeat' (first | refine wl_nil ?_ | refine then_n ?_ | refine c_block ?_ | refine c_skip ?_ | refine c_exit ?_ | refine c_ret ?_ | refine then_r ?_ | refine then_e ?_ | refine inb_n ?_ | refine inb_r ?_ | refine inb_e ?_ | refine inb_o rfl ?_ | refine c_cond_t hE rfl ?_ | refine c_cond_f hE rfl ?_ | refine c_rnd ?_ | (refine c_regI 0 ?_; all_goals (refine wl hE rfl ?_; (first | refine qbx hE hS ?_); clear hE hS; clear a; intro g a w hE hS); all_goals (refine wl hE rfl ?_; refine qa hE ?_; clear hE a; intro a hE)) | (refine c_regI 1 ?_; all_goals (refine wl hE rfl ?_; (first | refine qf hE ?_ | refine qFF hE ?_ | refine qF hE ?_); clear hE a; intro a hE); all_goals (refine wl hE rfl ?_; (first | refine ql hE hS ?_ | refine qL hE hS ?_ | refine qlr hE hS ?_); clear hE a; intro a hE); all_goals (refine wl hE rfl ?_; refine qa hE ?_; clear hE a; intro a hE)) | refine c_seq ?_ | ((refine c_cond hE rfl ?_ ?_) <;> (intro hb; (first | replace hb := of_decide_eq_true hb | replace hb := of_decide_eq_false hb | (simp only [Bool.not_eq_true', Bool.not_eq_false', decide_eq_true_eq, decide_eq_false_iff_not] at hb) | skip); try (exfalso; first | omega | exact absurd trivial hb | exact absurd rfl hb | (simp only [beq_self_eq_true, bne_self_eq_false, reduceCtorEq] at hb; done)))))
  all_goals exact p_ret hE rfl rfl ⟨_, rfl, rfl, hS.clean⟩
end Go.Proofs.Ytdaciolahgfhiaa
/- DERIVED. Layer 10: the binary search. No condition. -/
namespace Go.Proofs.Ytdaciolahgfhiaa
open Go.RowKit Go.Sx Go.Proofs.YtdaciolahgfhiaaTy
set_option linter.unusedVariables false
set_option linter.unusedSimpArgs false
set_option maxRecDepth 100000
attribute [local irreducible] Oper.wp Code.wp wpList wpAnyH Calls bodyPost Exit.then Exit.inBlock Code.rounds
set_option maxHeartbeats 1000000
theorem find1_s (b g : Nat) (x : En) (key : Int) (w0 : World) (hB : At w0 ⟨b, 0, none⟩ [.pointer (some ⟨g, 0, none⟩)]) (hF : At w0 ⟨g, 1, none⟩ [.func (.func 45) #[] #[]]) : Calls Try.prog 71 #[.agg x.cells.toArray, .int .u64 key, .pointer (some ⟨b, 0, none⟩)] w0 fun e w' => ∃ r, e = .returned r ∧ r = .int .i64 (cmpI x.k key) ∧ Sep w0 w' [] := by
  refine enter (args := [.agg x.cells.toArray, .int .u64 key, .pointer (some ⟨b, 0, none⟩)]) 14 Try.func71 rfl rfl rfl ?_
  intro a hE hS
  repeat' (first | refine wl_nil ?_ | refine then_n ?_ | refine c_block ?_ | refine c_skip ?_ | refine c_exit ?_ | refine c_ret ?_ | refine then_r ?_ | refine then_e ?_ | refine inb_n ?_ | refine inb_r ?_ | refine inb_e ?_ | refine inb_o rfl ?_ | refine c_cond_t hE rfl ?_ | refine c_cond_f hE rfl ?_ | refine c_rnd ?_ | (refine c_regI 0 ?_; all_goals (refine wl hE rfl ?_; (first | refine qbx hE hS ?_); clear hE hS; clear a; intro g a w hE hS); all_goals (refine wl hE rfl ?_; refine qa hE ?_; clear hE a; intro a hE)) | refine c_seq ?_ | (refine rg_guard 1 ?_; refine rg_start [2, 3] hE hS ?_; clear hS; (try clear w); intro w hS hX; all_goals (first | (refine rg_y 0 hE hX (by first | exact y_load | exact y_loadA | exact y_load0 hB | exact y_load0 hF) ?_ rfl rfl rfl rfl; clear hE a; intro a hE)); all_goals (first | (refine rg_y 1 hE hX (by first | exact y_nil | exact y_load0 hB | exact y_load0 hF) ?_ rfl rfl rfl rfl; clear hE a; intro a hE)); all_goals (first | (refine rg_y 2 hE hX (by first | exact y_fieldFF | exact y_field | exact y_fieldF | exact y_load0 hB | exact y_load0 hF) ?_ rfl rfl rfl rfl; clear hE a; intro a hE)); all_goals (first | (refine rg_y 3 hE hX (by first | exact y_load | exact y_loadA | exact y_load0 hB | exact y_load0 hF) ?_ rfl rfl rfl rfl; clear hE a; intro a hE)); all_goals (first | (refine rg_y 4 hE hX (by first | exact y_load | exact y_loadA | exact y_load0 hB | exact y_load0 hF) ?_ rfl rfl rfl rfl; clear hE a; intro a hE)); all_goals (first | (refine rg_y 6 hE hX (by first | exact y_move | exact y_load0 hB | exact y_load0 hF) ?_ rfl rfl rfl rfl; clear hE a; intro a hE)); all_goals (first | (refine rg_e 5 hE rfl rfl (by kernel_rfl) ?_; intro K hK; (first | ((refine qcF (vs := [.agg x.cells.toArray]) (cs := []) hE (key_s x _) ?_; clear hE; clear a; rintro _ a w ⟨rfl, hS1⟩ hE; replace hS := hS.then hS1; clear hS1)) | ((first | refine qmin hE ?_ | refine qmax hE ?_); clear hE a; intro a hE)); refine rg_k hK hS ?_; clear hK hX; clear K; intro hX)); all_goals (first | (refine rg_e 7 hE rfl rfl (by kernel_rfl) ?_; intro K hK; (first | ((refine is_call 72 rfl ?_; refine qc hE (cmp_s x.k key _) ?_; clear hE; clear a; rintro _ a w ⟨rfl, hS1⟩ hE; replace hS := hS.then hS1; clear hS1))); refine rg_k hK hS ?_; clear hK hX; clear K; intro hX)); all_goals (first | (refine rg_y 8 hE hX (by first | exact y_assign | exact y_load0 hB | exact y_load0 hF) ?_ rfl rfl rfl rfl; clear hE a; intro a hE)); all_goals (refine rg_done ?_ (by kernel_rfl); (try clear hX))) | ((refine c_cond hE rfl ?_ ?_) <;> (intro hb; (first | replace hb := of_decide_eq_true hb | replace hb := of_decide_eq_false hb | (simp only [Bool.not_eq_true', Bool.not_eq_false', decide_eq_true_eq, decide_eq_false_iff_not] at hb) | skip); try (exfalso; first | omega | exact absurd trivial hb | exact absurd rfl hb | (simp only [beq_self_eq_true, bne_self_eq_false, reduceCtorEq] at hb; done)))))
  
  all_goals exact p_ret hE rfl rfl ⟨_, rfl, rfl, hS.clean⟩
theorem blk_At {w0 w : World} {L L' : List Asn} {g : Nat} {cs : List Value} {t : TypeId} (hS : Sep w0 w L) (hp : Pull (blk g cs t) L L' := by repeat (first | exact Pull.here | apply Pull.there)) : At w ⟨g, 0, none⟩ cs := fun j v hj => by
  have h := hS.blk_at hp
  have hadd : (⟨g, 0, none⟩ : Addr).add j = ⟨g, j, none⟩ := by unfold Addr.add; split <;> simp_all
  rw [hadd, cell_of_row w g j cs.toArray t (0, 0) h]
  simpa using hj
theorem blk_At1 {w0 w : World} {L L' : List Asn} {g : Nat} {x : Value} {cs : List Value} {t : TypeId} (hS : Sep w0 w L) (hp : Pull (blk g (x :: cs) t) L L' := by repeat (first | exact Pull.here | apply Pull.there)) : At w ⟨g, 1, none⟩ cs := fun j v hj => by
  have := blk_At hS hp (j + 1) v (by simpa using hj)
  have e : (⟨g, 0, none⟩ : Addr).add (j + 1) = (⟨g, 1, none⟩ : Addr).add j := by unfold Addr.add; split <;> simp_all [Nat.add_comm]
  rwa [e] at this
/-- Where a key is, or would be. -/
def At1 (l : List En) (key : Int) (i : Int) : Prop := 0 ≤ i ∧ i ≤ l.length ∧ (∀ j : Nat, (j : Int) < i → (l.getD j E0).k < key) ∧ (∀ j : Nat, i ≤ (j : Int) → j < l.length → key ≤ (l.getD j E0).k)
def Rising (l : List En) : Prop := l.Pairwise fun x y => x.k < y.k
theorem Rising.lt {l : List En} (h : Rising l) {i j : Nat} (hij : i < j) (hj : j < l.length) : (l.getD i E0).k < (l.getD j E0).k := by
  have := List.pairwise_iff_getElem.1 h i j (by omega) hj hij
  simpa [show i < l.length by omega, hj] using this
theorem bs_lo {l : List En} (h : Rising l) {key : Int} {i m : Int} (hm0 : 0 ≤ m) (hm : m < l.length) (hx : (l.getD m.toNat E0).k < key) : ∀ j : Nat, (j : Int) < m + 1 → (l.getD j E0).k < key := by
  intro j hj
  rcases Nat.lt_or_ge j m.toNat with h1 | h1
  · have := h.lt h1 (by omega); omega
  · rw [show j = m.toNat by omega]; exact hx
theorem bs_hi {l : List En} (h : Rising l) {key : Int} {m : Int} (hm0 : 0 ≤ m) (hm : m < l.length) (hx : ¬ (l.getD m.toNat E0).k < key) : ∀ j : Nat, m ≤ (j : Int) → j < l.length → key ≤ (l.getD j E0).k := by
  intro j hj hl
  rcases Nat.lt_or_ge m.toNat j with h1 | h1
  · have := h.lt h1 hl; omega
  · rw [show j = m.toNat by omega]; omega
theorem cmp_neg {x y : Int} : cmpI x y < 0 ↔ x < y := by unfold cmpI; split <;> (try split) <;> omega
theorem cmp_zero {x y : Int} : cmpI x y = 0 ↔ x = y := by unfold cmpI; split <;> (try split) <;> omega
theorem half_mid {i j : Int} (h0 : 0 ≤ i) (h1 : i < j) : i ≤ (i + j) / 2 ∧ (i + j) / 2 < j := by omega
theorem wrap_u {i : Int} (h0 : 0 ≤ i) (h1 : i ≤ 9223372036854775807) : IntKind.u64.wrap i = i := by
  unfold IntKind.wrap
  simp [IntKind.bits, IntKind.signed]
  omega
theorem half_w {i j : Int} (h0 : 0 ≤ i) (h1 : 0 ≤ j) (h2 : i ≤ 4611686018427387903) (h3 : j ≤ 4611686018427387903) : IntKind.i64.wrap ((IntKind.u64.wrap (i + j)).fdiv (2 ^ min (Int.toNat 1) IntKind.u64.bits)) = (i + j) / 2 := by
  have e : min (Int.toNat 1) IntKind.u64.bits = 1 := by decide
  rw [wrap_u (by omega) (by omega), e, Int.fdiv_eq_ediv_of_nonneg _ (by decide)]
  exact wrap_in (by omega) (by omega)
theorem bs_s (A : Option Addr) (c b g : Nat) (l : List En) (key : Int) (w0 : World) (hR : Rd w0 A (l.flatMap En.cells)) (hl : l.length ≤ 1073741824) (hs : Rising l) (hB : At w0 ⟨b, 0, none⟩ [.pointer (some ⟨g, 0, none⟩)]) (hF : At w0 ⟨g, 1, none⟩ [.func (.func 45) #[] #[]]) :
    Calls Try.prog 70 #[.slice A l.length c, .int .u64 key, .func (.func 71) #[] #[.pointer (some ⟨b, 0, none⟩)]] w0 fun e w' => ∃ r, e = .returned r ∧ (∃ i : Int, r = .tuple #[.int .i64 i, .bool (decide (i < l.length ∧ (l.getD i.toNat E0).k = key))] ∧ At1 l key i) ∧ Sep w0 w' [] := by
  have hA : (0 : Int) < l.length → A = some (adr A) := fun h => hR.some (by rw [flat_len elen]; omega)
  have hT := hR.at_
  refine enter (args := [.slice A l.length c, .int .u64 key, .func (.func 71) #[] #[.pointer (some ⟨b, 0, none⟩)]]) 49 Try.func70 rfl rfl rfl ?_
  intro a hE hS
  repeat' (first | refine wl_nil ?_ | refine then_n ?_ | refine c_block ?_ | refine c_skip ?_ | refine c_exit ?_ | refine c_ret ?_ | refine then_r ?_ | refine then_e ?_ | refine inb_n ?_ | refine inb_r ?_ | refine inb_e ?_ | refine inb_o rfl ?_ | refine c_cond_t hE rfl ?_ | refine c_cond_f hE rfl ?_ | refine c_rnd ?_ | (refine c_regI 0 ?_; all_goals (refine wl hE rfl ?_; refine qa hE ?_; clear hE a; intro a hE); all_goals (refine wl hE rfl ?_; refine qa hE ?_; clear hE a; intro a hE)) | (refine c_regI 1 ?_; all_goals (refine wl hE rfl ?_; refine qm hE ?_; clear hE a; intro a hE); all_goals (refine wl hE rfl ?_; (first | refine qn1 hE ?_ | refine qns hE ?_); clear hE a; intro a hE); all_goals (refine wl hE rfl ?_; refine qa hE ?_; clear hE a; intro a hE)) | (refine c_regI 2 ?_; all_goals (refine wl hE rfl ?_; refine qm hE ?_; clear hE a; intro a hE); all_goals (refine wl hE rfl ?_; refine qa hE ?_; clear hE a; intro a hE); all_goals (refine wl hE rfl ?_; refine qa hE ?_; clear hE a; intro a hE)) | refine c_seq ?_ | ((refine c_cond hE rfl ?_ ?_) <;> (intro hb; (first | replace hb := of_decide_eq_true hb | replace hb := of_decide_eq_false hb | (simp only [Bool.not_eq_true', Bool.not_eq_false', decide_eq_true_eq, decide_eq_false_iff_not] at hb) | skip); try (exfalso; first | omega | exact absurd trivial hb | exact absurd rfl hb | (simp only [beq_self_eq_true, bne_self_eq_false, reduceCtorEq] at hb; done)))))
  refine c_loopN (fun m a w => ∃ i j : Int, 0 ≤ i ∧ i ≤ j ∧ j ≤ l.length ∧ m = (j - i).toNat ∧ (∀ k : Nat, (k : Int) < i → (l.getD k E0).k < key) ∧ (∀ k : Nat, j ≤ (k : Int) → k < l.length → key ≤ (l.getD k E0).k) ∧ Env a 49 [(0, .slice A l.length c), (1, .int .u64 key), (2, .func (.func 71) #[] #[.pointer (some ⟨b, 0, none⟩)]), (8, .int .i64 l.length), (9, .int .i64 i), (10, .int .i64 j)] ∧ Sep w0 w []) _ ⟨0, l.length, by omega, by omega, by omega, rfl, fun k h => by omega, fun k h h2 => by omega, hE.cut ⟨rfl, rfl, rfl, rfl, rfl, rfl, trivial⟩, hS⟩ ?_
  clear hE hS a
  rintro m a w ⟨i, j, h0, h1, h2, rfl, hlo, hhi, hE, hS⟩

  repeat' (first | refine wl_nil ?_ | refine then_n ?_ | refine c_block ?_ | refine c_skip ?_ | refine c_exit ?_ | refine c_ret ?_ | refine then_r ?_ | refine then_e ?_ | refine inb_n ?_ | refine inb_r ?_ | refine inb_e ?_ | refine inb_o rfl ?_ | refine c_cond_t hE rfl ?_ | refine c_cond_f hE rfl ?_ | refine c_rnd ?_ | (refine c_midq (id := 4) (I := fun a w => Env a 49 [(0, .slice A l.length c), (1, .int .u64 key), (2, .func (.func 71) #[] #[.pointer (some ⟨b, 0, none⟩)]), (8, .int .i64 l.length), (9, .int .i64 i), (10, .int .i64 j), (11, .int .i64 ((i + j) / 2))] ∧ Sep w0 w []) ?_ ?_; rotate_left; clear hE hS; clear a w; rintro a w ⟨hE, hS⟩; skip) | (refine c_regI 3 ?_; all_goals (refine wl hE rfl ?_; refine qm hE ?_; clear hE a; intro a hE); all_goals (refine wl hE rfl ?_; refine qm hE ?_; clear hE a; intro a hE); all_goals (refine wl hE rfl ?_; (first | refine qb hE ?_ | refine qb2 hE ?_ | refine qbE hE ?_ | refine qbN hE ?_ | refine qpn hE ?_); clear hE a; intro a hE)) | (refine c_regI 4 ?_; all_goals (refine wl hE rfl ?_; refine qm hE ?_; clear hE a; intro a hE); all_goals (refine wl hE rfl ?_; refine qm hE ?_; clear hE a; intro a hE); all_goals (refine wl hE rfl ?_; (first | refine qb hE ?_ | refine qb2 hE ?_ | refine qbE hE ?_ | refine qbN hE ?_ | refine qpn hE ?_); clear hE a; intro a hE); all_goals (refine wl hE rfl ?_; refine qcv hE ?_; clear hE a; intro a hE); all_goals (refine wl hE rfl ?_; (first | refine qb hE ?_ | refine qb2 hE ?_ | refine qbE hE ?_ | refine qbN hE ?_ | refine qpn hE ?_); clear hE a; intro a hE); all_goals (refine wl hE rfl ?_; refine qcv hE ?_; clear hE a; intro a hE); all_goals (refine wl hE rfl ?_; refine qa hE ?_; clear hE a; intro a hE)) | (refine c_regI 5 ?_; all_goals (refine wl hE rfl ?_; refine qm hE ?_; clear hE a; intro a hE); all_goals (refine wl hE rfl ?_; refine qm hE ?_; clear hE a; intro a hE); all_goals (refine wl hE rfl ?_; refine qm hE ?_; clear hE a; intro a hE); all_goals (refine wl hE rfl ?_; (first | refine qi hE hA ?_ | refine qi hE (fun _ => rfl) ?_ | refine qia hE ?_); clear hE a; intro a hE); all_goals (refine wl hE rfl ?_; (first | refine qLs (i := i) (us := _) (df := E0) hE hS elen hT rfl ?_ | refine qLs (i := (i + j) / 2) (us := _) (df := E0) hE hS elen hT rfl ?_ | refine ql hE hS ?_ | refine qL hE hS ?_ | refine qlr hE hS ?_); clear hE a; intro a hE); all_goals (refine wl hE rfl ?_; refine qm hE ?_; clear hE a; intro a hE); all_goals (refine wl hE rfl ?_; first | ((refine qcF (vs := [.agg (l.getD ((i + j) / 2).toNat E0).cells.toArray, .int .u64 key]) hE (find1_s b g _ key _ (hB.move hS) (hF.move hS)) ?_; clear hE; clear a; rintro _ a w ⟨rfl, hS1⟩ hE; replace hS := hS.then hS1; clear hS1)) | ((refine qcF (vs := [.agg (l.getD i.toNat E0).cells.toArray, .int .u64 key]) hE (find1_s b g _ key _ (hB.move hS) (hF.move hS)) ?_; clear hE; clear a; rintro _ a w ⟨rfl, hS1⟩ hE; replace hS := hS.then hS1; clear hS1)) | ((first | refine qmin hE ?_ | refine qmax hE ?_); clear hE a; intro a hE)); all_goals (refine wl hE rfl ?_; (first | refine qb hE ?_ | refine qb2 hE ?_ | refine qbE hE ?_ | refine qbN hE ?_ | refine qpn hE ?_); clear hE a; intro a hE)) | (refine c_regI 6 ?_; all_goals (refine wl hE rfl ?_; refine qm hE ?_; clear hE a; intro a hE); all_goals (refine wl hE rfl ?_; (first | refine qb hE ?_ | refine qb2 hE ?_ | refine qbE hE ?_ | refine qbN hE ?_ | refine qpn hE ?_); clear hE a; intro a hE); all_goals (refine wl hE rfl ?_; refine qa hE ?_; clear hE a; intro a hE)) | (refine c_regI 7 ?_; all_goals (refine wl hE rfl ?_; refine qm hE ?_; clear hE a; intro a hE); all_goals (refine wl hE rfl ?_; refine qa hE ?_; clear hE a; intro a hE)) | (refine c_regI 8 ?_; all_goals (refine wl hE rfl ?_; refine qm hE ?_; clear hE a; intro a hE); all_goals (refine wl hE rfl ?_; refine qm hE ?_; clear hE a; intro a hE); all_goals (refine wl hE rfl ?_; refine qm hE ?_; clear hE a; intro a hE); all_goals (refine wl hE rfl ?_; (first | refine qb hE ?_ | refine qb2 hE ?_ | refine qbE hE ?_ | refine qbN hE ?_ | refine qpn hE ?_); clear hE a; intro a hE); all_goals (refine wl hE rfl ?_; refine qm hE ?_; clear hE a; intro a hE); all_goals (first | (refine wl hE rfl ?_; refine qm hE ?_; clear hE a; intro a hE) | (refine wl_skip hE rfl rfl rfl ?_; clear hE a; intro a hE) | ((refine wl_splitg hE rfl rfl ?_ ?_) <;> (clear hE; intro hb hE; (first | replace hb := of_decide_eq_true hb | replace hb := of_decide_eq_false hb | (simp only [Bool.not_eq_true', Bool.not_eq_false', decide_eq_true_eq, decide_eq_false_iff_not] at hb) | skip); try (exfalso; first | omega | exact absurd trivial hb | exact absurd rfl hb | (simp only [beq_self_eq_true, bne_self_eq_false, reduceCtorEq] at hb; done))) <;> (first | (refine wl hE rfl ?_; refine qm hE ?_; clear hE a; intro a hE) | (refine wl_skip hE rfl rfl rfl ?_; clear hE a; intro a hE)))); all_goals (first | (refine wl hE rfl ?_; refine qm hE ?_; clear hE a; intro a hE) | (refine wl_skip hE rfl rfl rfl ?_; clear hE a; intro a hE)); all_goals (first | (refine wl hE rfl ?_; refine qm hE ?_; clear hE a; intro a hE) | (refine wl_skip hE rfl rfl rfl ?_; clear hE a; intro a hE)); all_goals (first | (refine wl hE rfl ?_; (first | refine qi hE hA ?_ | refine qi hE (fun _ => rfl) ?_ | refine qia hE ?_); clear hE a; intro a hE) | (refine wl_skip hE rfl rfl rfl ?_; clear hE a; intro a hE)); all_goals (first | (refine wl hE rfl ?_; (first | refine qLs (i := i) (us := _) (df := E0) hE hS elen hT rfl ?_ | refine qLs (i := (i + j) / 2) (us := _) (df := E0) hE hS elen hT rfl ?_ | refine ql hE hS ?_ | refine qL hE hS ?_ | refine qlr hE hS ?_); clear hE a; intro a hE) | (refine wl_skip hE rfl rfl rfl ?_; clear hE a; intro a hE)); all_goals (first | (refine wl hE rfl ?_; refine qm hE ?_; clear hE a; intro a hE) | (refine wl_skip hE rfl rfl rfl ?_; clear hE a; intro a hE)); all_goals (first | (refine wl hE rfl ?_; first | ((refine qcF (vs := [.agg (l.getD ((i + j) / 2).toNat E0).cells.toArray, .int .u64 key]) hE (find1_s b g _ key _ (hB.move hS) (hF.move hS)) ?_; clear hE; clear a; rintro _ a w ⟨rfl, hS1⟩ hE; replace hS := hS.then hS1; clear hS1)) | ((refine qcF (vs := [.agg (l.getD i.toNat E0).cells.toArray, .int .u64 key]) hE (find1_s b g _ key _ (hB.move hS) (hF.move hS)) ?_; clear hE; clear a; rintro _ a w ⟨rfl, hS1⟩ hE; replace hS := hS.then hS1; clear hS1)) | ((first | refine qmin hE ?_ | refine qmax hE ?_); clear hE a; intro a hE)) | (refine wl_skip hE rfl rfl rfl ?_; clear hE a; intro a hE)); all_goals (first | (refine wl hE rfl ?_; (first | refine qb hE ?_ | refine qb2 hE ?_ | refine qbE hE ?_ | refine qbN hE ?_ | refine qpn hE ?_); clear hE a; intro a hE) | (refine wl_skip hE rfl rfl rfl ?_; clear hE a; intro a hE)); all_goals (refine wl hE rfl ?_; (first | refine qpt hE ?_ | refine qpf hE ?_); clear hE a; intro a hE); all_goals (refine wl hE rfl ?_; refine qa hE ?_; clear hE a; intro a hE); all_goals (refine wl hE rfl ?_; refine qa hE ?_; clear hE a; intro a hE)) | refine c_seq ?_ | ((refine c_cond hE rfl ?_ ?_) <;> (intro hb; (first | replace hb := of_decide_eq_true hb | replace hb := of_decide_eq_false hb | (simp only [Bool.not_eq_true', Bool.not_eq_false', decide_eq_true_eq, decide_eq_false_iff_not] at hb) | skip); try (exfalso; first | omega | exact absurd trivial hb | exact absurd rfl hb | (simp only [beq_self_eq_true, bne_self_eq_false, reduceCtorEq] at hb; done)))))
  · have hb1 := cmp_neg.1 hb
    have hlt : i < j := by assumption
    obtain ⟨q, hq⟩ : ∃ q, q = (i + j) / 2 := ⟨_, rfl⟩
    rw [← hq] at hE hb1
    exact ⟨_, by omega, q + 1, j, by omega, by omega, by omega, rfl, bs_lo (i := i) hs (by omega) (by omega) hb1, hhi, hE.cut ⟨rfl, rfl, rfl, rfl, rfl, rfl, trivial⟩, hS⟩
  · have hb1 := fun h => hb (cmp_neg.2 h)
    have hlt : i < j := by assumption
    obtain ⟨q, hq⟩ : ∃ q, q = (i + j) / 2 := ⟨_, rfl⟩
    rw [← hq] at hE hb1
    exact ⟨_, by omega, i, q, by omega, by omega, by omega, rfl, hlo, bs_hi hs (by omega) (by omega) hb1, hE.cut ⟨rfl, rfl, rfl, rfl, rfl, rfl, trivial⟩, hS⟩
  · rw [half_w (by omega) (by omega) (by omega) (by omega)] at hE
    exact ⟨hE.cut ⟨rfl, rfl, rfl, rfl, rfl, rfl, rfl, trivial⟩, hS⟩
  · have e : j = i := by omega
    subst e
    refine p_rets hE rfl (rt hE (rt hE .nil)) rfl ⟨_, rfl, ⟨j, ?_, by omega, by omega, hlo, hhi⟩, hS⟩
    have h2 : (j < (l.length : Int) ∧ (l.getD j.toNat E0).k = key) ↔ cmpI (l.getD j.toNat E0).k key = 0 := by rw [cmp_zero]; exact ⟨fun h => h.2, fun h => ⟨hb, h⟩⟩
    simp only [h2]
  · have e : j = i := by omega
    subst e
    refine p_rets hE rfl (rt hE (rt hE .nil)) rfl ⟨_, rfl, ⟨j, ?_, by omega, by omega, hlo, hhi⟩, hS⟩
    rw [decide_eq_false (fun h => hb h.1)]
theorem find_s (A : Option Addr) (c g : Nat) (l : List En) (key : Int) (w0 : World) (hT : At w0 ⟨g, 0, none⟩ [.slice A l.length c]) (hF : At w0 ⟨g, 1, none⟩ [.func (.func 45) #[] #[]]) (hR : Rd w0 A (l.flatMap En.cells)) (hl : l.length ≤ 1073741824) (hs : Rising l) :
    Calls Try.prog 48 #[.pointer (some ⟨g, 0, none⟩), .int .u64 key] w0 fun e w' => ∃ r, e = .returned r ∧ (∃ i : Int, r = .tuple #[.int .i64 i, .bool (decide (i < l.length ∧ (l.getD i.toNat E0).k = key))] ∧ At1 l key i) ∧ Sep w0 w' [] := by
  refine enter (args := [.pointer (some ⟨g, 0, none⟩), .int .u64 key]) 15 Try.func48 rfl rfl rfl ?_
  intro a hE hS
  obtain ⟨g0, hg0⟩ : ∃ g0, g0 = g := ⟨_, rfl⟩
  rw [← hg0] at hE hF hT
  repeat' (first | refine wl_nil ?_ | refine then_n ?_ | refine c_block ?_ | refine c_skip ?_ | refine c_exit ?_ | refine c_ret ?_ | refine then_r ?_ | refine then_e ?_ | refine inb_n ?_ | refine inb_r ?_ | refine inb_e ?_ | refine inb_o rfl ?_ | refine c_cond_t hE rfl ?_ | refine c_cond_f hE rfl ?_ | refine c_rnd ?_ | (refine c_regI 0 ?_; all_goals (refine wl hE rfl ?_; (first | refine qbx hE hS ?_); clear hE hS; clear a; intro g a w hE hS); all_goals (refine wl hE rfl ?_; refine qa hE ?_; clear hE a; intro a hE); all_goals (refine wl hE rfl ?_; refine qa hE ?_; clear hE a; intro a hE)) | (refine c_regI 1 ?_; all_goals (refine wl hE rfl ?_; (first | refine q0 hE hS hT ?_ | refine ql hE hS ?_ | refine qL hE hS ?_ | refine qlr hE hS ?_); clear hE a; intro a hE); all_goals (refine wl hE rfl ?_; (first | refine qn hE ?_ | refine qnf hE ?_); clear hE a; intro a hE); all_goals (refine wl hE rfl ?_; (first | refine qf hE ?_ | refine qFF hE ?_ | refine qF hE ?_); clear hE a; intro a hE); all_goals (refine wl hE rfl ?_; (first | refine q0 hE hS hT ?_ | refine ql hE hS ?_ | refine qL hE hS ?_ | refine qlr hE hS ?_); clear hE a; intro a hE); all_goals (refine wl hE rfl ?_; refine qm hE ?_; clear hE a; intro a hE); all_goals (refine wl hE rfl ?_; refine qmf2 hE ?_; clear hE; clear a; intro a hE); all_goals (refine wl hE rfl ?_; refine qc hE (bs_s A c g g0 l key _ (hR.move hS) hl hs (blk_At hS) (hF.move hS)) ?_; clear hE; clear a; rintro _ a w ⟨⟨i, rfl, hi⟩, hS1⟩ hE; replace hS := hS.then hS1; clear hS1); all_goals (refine wl hE rfl ?_; refine qe hE ?_; clear hE a; intro a hE); all_goals (refine wl hE rfl ?_; refine qe hE ?_; clear hE a; intro a hE); all_goals (refine wl hE rfl ?_; refine qa hE ?_; clear hE a; intro a hE); all_goals (refine wl hE rfl ?_; refine qa hE ?_; clear hE a; intro a hE)) | refine c_seq ?_ | ((refine c_cond hE rfl ?_ ?_) <;> (intro hb; (first | replace hb := of_decide_eq_true hb | replace hb := of_decide_eq_false hb | (simp only [Bool.not_eq_true', Bool.not_eq_false', decide_eq_true_eq, decide_eq_false_iff_not] at hb) | skip); try (exfalso; first | omega | exact absurd trivial hb | exact absurd rfl hb | (simp only [beq_self_eq_true, bne_self_eq_false, reduceCtorEq] at hb; done)))))
  trace_state
  exact p_rets hE rfl (rt hE (rt hE .nil)) rfl ⟨_, rfl, ⟨i, rfl, hi⟩, hS.clean⟩
end Go.Proofs.Ytdaciolahgfhiaa
/- DERIVED. Layer 10: slices.Clone, slices.Insert of one. No condition. -/
namespace Go.Proofs.Ytdaciolahgfhiaa
open Go.RowKit Go.Sx Go.Proofs.YtdaciolahgfhiaaTy
set_option linter.unusedVariables false
set_option linter.unusedSimpArgs false
set_option maxRecDepth 100000
attribute [local irreducible] Oper.wp Code.wp wpList wpAnyH Calls bodyPost Exit.then Exit.inBlock Code.rounds
set_option maxHeartbeats 1000000
theorem clone_s (A : Option Addr) (c : Nat) (l : List En) (w0 : World) (hR : Rd w0 A (l.flatMap En.cells)) (hl : l.length ≤ 1073741824) (hc : l.length ≤ c) : Calls Try.prog 61 #[.slice A l.length c] w0 fun e w' => ∃ r, e = .returned r ∧ ∃ A' c', r = .slice A' l.length c' ∧ Sep w0 w' [row 80 4 (.slice A' l.length c') l.length (l.flatMap En.cells)] := by
  have hone := en_one l
  refine enter (args := [.slice A l.length c]) 8 Try.func61 rfl rfl rfl ?_
  intro a hE hS
  cases A with
  | none =>
    have h0 : l = [] := by
      cases l with
      | nil => rfl
      | cons x l => exact absurd (hR.some (by simp [En.cells])) (by simp [adr])
    subst h0
    repeat' (first | refine wl_nil ?_ | refine then_n ?_ | refine c_block ?_ | refine c_skip ?_ | refine c_exit ?_ | refine c_ret ?_ | refine then_r ?_ | refine then_e ?_ | refine inb_n ?_ | refine inb_r ?_ | refine inb_e ?_ | refine inb_o rfl ?_ | refine c_cond_t hE rfl ?_ | refine c_cond_f hE rfl ?_ | refine c_rnd ?_ | (refine c_regI 0 ?_; all_goals (refine wl hE rfl ?_; refine qa hE ?_; clear hE a; intro a hE)) | (refine c_regI 1 ?_; all_goals (refine wl hE rfl ?_; refine qm hE ?_; clear hE a; intro a hE); all_goals (refine wl hE rfl ?_; (first | refine qnil hE ?_ | refine qb hE ?_ | refine qb2 hE ?_ | refine qbE hE ?_ | refine qbN hE ?_ | refine qpn hE ?_); clear hE a; intro a hE)) | (refine c_regI 2 ?_; all_goals (refine wl hE rfl ?_; refine qa hE ?_; clear hE a; intro a hE)) | refine c_seq ?_ | ((refine c_cond hE rfl ?_ ?_) <;> (intro hb; (first | replace hb := of_decide_eq_true hb | replace hb := of_decide_eq_false hb | (simp only [Bool.not_eq_true', Bool.not_eq_false', decide_eq_true_eq, decide_eq_false_iff_not] at hb) | skip); try (exfalso; first | omega | exact absurd trivial hb | exact absurd rfl hb | (simp only [beq_self_eq_true, bne_self_eq_false, reduceCtorEq] at hb; done)))))
    exact p_ret hE rfl rfl ⟨_, rfl, none, 0, rfl, hS.nil_row⟩
  | some b =>
    repeat' (first | refine wl_nil ?_ | refine then_n ?_ | refine c_block ?_ | refine c_skip ?_ | refine c_exit ?_ | refine c_ret ?_ | refine then_r ?_ | refine then_e ?_ | refine inb_n ?_ | refine inb_r ?_ | refine inb_e ?_ | refine inb_o rfl ?_ | refine c_cond_t hE rfl ?_ | refine c_cond_f hE rfl ?_ | refine c_rnd ?_ | (refine c_regI 0 ?_; all_goals (refine wl hE rfl ?_; refine qa hE ?_; clear hE a; intro a hE)) | (refine c_regI 1 ?_; all_goals (refine wl hE rfl ?_; refine qm hE ?_; clear hE a; intro a hE); all_goals (refine wl hE rfl ?_; (first | refine qnil hE ?_ | refine qb hE ?_ | refine qb2 hE ?_ | refine qbE hE ?_ | refine qbN hE ?_ | refine qpn hE ?_); clear hE a; intro a hE)) | (refine c_regI 3 ?_; all_goals (refine wl hE rfl ?_; (first | refine qbs1 hE hS ?_ | refine qbs hE hS ?_ | refine qbs0 hE hS ?_); clear hE hS; clear a; intro g a w hE hS); all_goals (refine wl hE rfl ?_; refine qm hE ?_; clear hE a; intro a hE); all_goals (refine wl hE rfl ?_; first | ((refine qap (N := l.length) (ys := l.flatMap En.cells) hE hS (hR.move hS) hone ?_ (hl := by rw [flat_len elen]); clear hE hS; clear a; intro A2 c2 a w hE hS)) | ((first | refine qmin hE ?_ | refine qmax hE ?_); clear hE a; intro a hE)); all_goals (refine wl hE rfl ?_; refine qa hE ?_; clear hE a; intro a hE)) | refine c_seq ?_ | ((refine c_cond hE rfl ?_ ?_) <;> (intro hb; (first | replace hb := of_decide_eq_true hb | replace hb := of_decide_eq_false hb | (simp only [Bool.not_eq_true', Bool.not_eq_false', decide_eq_true_eq, decide_eq_false_iff_not] at hb) | skip); try (exfalso; first | omega | exact absurd trivial hb | exact absurd rfl hb | (simp only [beq_self_eq_true, bne_self_eq_false, reduceCtorEq] at hb; done)))))
    exact p_ret hE rfl rfl ⟨_, rfl, A2, c2, rfl, hS.only⟩
def insAt (l : List En) (i : Nat) (x : En) : List En := l.take i ++ [x] ++ l.drop i
theorem insAt_end (l : List En) (x : En) : insAt l l.length x = l ++ [x] := by simp [insAt]
theorem put_shift (l : List En) (i : Nat) (ys : List Value) (hi : i < l.length) (hy : ys.length = 1 * 4) : putL (l.flatMap En.cells ++ ys) ((i + 1) * 4) ((l.drop i).flatMap En.cells) = (l.take (i + 1) ++ l.drop i).flatMap En.cells := by
  have h1 : (l.flatMap En.cells).length = l.length * 4 := flat_len elen l
  have h2 : ((l.drop i).flatMap En.cells).length = (l.length - i) * 4 := by rw [flat_len elen, List.length_drop]
  have h3 : List.drop ((i + 1) * 4 + ((l.drop i).flatMap En.cells).length) (l.flatMap En.cells ++ ys) = [] := List.drop_eq_nil_of_le (by rw [List.length_append, h1, h2, hy]; omega)
  unfold putL
  rw [h3, List.take_append_of_le_length (by rw [h1]; omega), flat_take elen l (i + 1) hi, List.append_nil, List.flatMap_append]
theorem shift_src (l : List En) (i : Nat) (ys : List Value) (hi : i < l.length) : ((l.flatMap En.cells ++ ys).drop (i * 4)).take ((l.length - i) * 4) = (l.drop i).flatMap En.cells := by
  have h1 : (l.flatMap En.cells).length = l.length * 4 := flat_len elen l
  have h2 : ((l.drop i).flatMap En.cells).length = (l.length - i) * 4 := by rw [flat_len elen, List.length_drop]
  rw [List.drop_append_of_le_length (by rw [h1]; omega), flat_drop elen l i (by omega), ← h2, List.take_left]
theorem put_one (l : List En) (i : Nat) (x : En) (hi : i < l.length) : putL ((l.take (i + 1) ++ l.drop i).flatMap En.cells) (i * 4) x.cells = (insAt l i x).flatMap En.cells := by
  have e : l.take (i + 1) = l.take i ++ [l[i]] := List.take_succ_eq_append_getElem hi
  have := flat_put elen (l.take i) [l[i]] [x] (l.drop i) i (by rw [List.length_take]; omega) rfl
  rw [e]
  simpa [insAt] using this
theorem zeros_cells (k : Nat) : (List.replicate k [Value.int .u64 0, .int .u64 0, .int .i64 0, .bool false]).flatten = (List.replicate k E0).flatMap En.cells := by
  rw [List.flatMap_replicate]
  rfl
theorem put_new (l : List En) (i : Nat) (x : En) (hi : i < l.length) : putL ((l.flatMap En.cells).take (i * 4) ++ (List.replicate (l.length + 1 - i) [Value.int .u64 0, .int .u64 0, .int .i64 0, .bool false]).flatten) (i * 4) (x.cells.take (1 * 4)) = (l.take i ++ [x] ++ List.replicate (l.length - i) E0).flatMap En.cells := by
  have := flat_put elen (l.take i) [E0] [x] (List.replicate (l.length - i) E0) i (by rw [List.length_take]; omega) rfl
  rw [show l.take i ++ [E0] ++ List.replicate (l.length - i) E0 = l.take i ++ (E0 :: List.replicate (l.length - i) E0) by simp, show [x].flatMap En.cells = x.cells by simp] at this
  rw [zeros_cells, flat_take elen l i (by omega), show l.length + 1 - i = (l.length - i) + 1 by omega, List.replicate_succ, ← List.flatMap_append]
  exact this
theorem put_rest (l : List En) (i : Nat) (x : En) (hi : i < l.length) : putL ((l.take i ++ [x] ++ List.replicate (l.length - i) E0).flatMap En.cells) ((i + 1) * 4) (((l.flatMap En.cells).drop (i * 4)).take ((l.length - i) * 4)) = (insAt l i x).flatMap En.cells := by
  have := flat_put elen (l.take i ++ [x]) (List.replicate (l.length - i) E0) (l.drop i) [] (i + 1) (by simp; omega) (by simp)
  rw [List.append_nil, List.append_nil] at this
  have e : List.take ((l.length - i) * 4) ((l.drop i).flatMap En.cells) = (l.drop i).flatMap En.cells := List.take_of_length_le (by rw [flat_len elen, List.length_drop]; exact Nat.le_refl _)
  rw [flat_drop elen l i (by omega), e]
  exact this
/-- One put in at its place, in an owned row. -/
theorem insert_s (A : Option Addr) (c : Nat) (l : List En) (i : Nat) (x : En) (g1 c1 : Nat) (u0 w0 : World) (L : List Asn) (hi : i ≤ l.length) (hl : l.length ≤ 1073741822)
    (hS0 : Sep u0 w0 (row 80 4 (.slice (some ⟨g1, 0, none⟩) 1 c1) 1 x.cells :: row 80 4 (.slice A l.length c) l.length (l.flatMap En.cells) :: L)) :
    Calls Try.prog 76 #[.slice A l.length c, .int .i64 i, .slice (some ⟨g1, 0, none⟩) 1 c1] w0 fun e w' => ∃ r, e = .returned r ∧ ∃ A' c', r = .slice A' (l.length + 1) c' ∧ Sep u0 w' (row 80 4 (.slice A' (l.length + 1) c') (l.length + 1) ((insAt l i x).flatMap En.cells) :: L) := by
  refine enter (args := [.slice A l.length c, .int .i64 i, .slice (some ⟨g1, 0, none⟩) 1 c1]) 95 Try.func76 rfl rfl rfl ?_
  intro a hE _
  have hS := hS0
  clear hS0
  obtain ⟨hc1, hc2, _⟩ := hS.drop.row_cap
  have hAne : 0 < l.length → A ≠ none := fun h e => by
    subst e
    exact absurd ((Rd.row (A := none) (n := l.length) (c := c) (xs := l.flatMap En.cells) hS).some (by rw [flat_len elen]; omega)) (by simp [adr])
  have hx1 : ∀ u ∈ x.cells, u.oneCell' = true := fun u hu => en_one [x] u (by simpa using hu)
  revert hE
  revert hS
  generalize w0 = w
  intro hS hE
  repeat' (first | refine wl_nil ?_ | refine then_n ?_ | refine c_block ?_ | refine c_skip ?_ | refine c_exit ?_ | refine c_ret ?_ | refine then_r ?_ | refine then_e ?_ | refine inb_n ?_ | refine inb_r ?_ | refine inb_e ?_ | refine inb_o rfl ?_ | refine c_cond_t hE rfl ?_ | refine c_cond_f hE rfl ?_ | refine c_rnd ?_ | (refine c_regI 0 ?_; all_goals (refine wl hE rfl ?_; refine qa hE ?_; clear hE a; intro a hE)) | (refine c_regI 1 ?_; all_goals (refine wl hE rfl ?_; refine qm hE ?_; clear hE a; intro a hE); all_goals (refine wl hE rfl ?_; refine qm hE ?_; clear hE a; intro a hE); all_goals (refine wl hE rfl ?_; first | ((refine qsh i hE ?_; clear hE; clear a; intro a hE)) | ((refine qsh (l.length + 1) hE ?_; clear hE; clear a; intro a hE; obtain ⟨ys, hy, hS2⟩ := hS.row_ext (A := A) (n := l.length) (c := c) 1 (by omega) (hAne (by omega)); replace hS := hS2; clear hS2)) | ((obtain ⟨q, hq⟩ := subA_some (i + 1) c 4 (hAne (by omega)); refine qov (p := ⟨g1, 0, none⟩) (q := q) hE (Sep.rows_apart (A := some ⟨g1, 0, none⟩) (B := A) (m := 1) (c := c1) (m2 := l.length + 1) (c2 := c) (e := 80) (e' := 80) (sz := 4) (sz' := 4) (xs := x.cells) (ys := l.flatMap En.cells ++ ys) (L := L) hS.fit (by omega) (i + 1) _ _ rfl hq) ?_ (hy := by rw [← hq]; rfl); clear hE; clear a; intro a hE)) | ((first | refine qsL i hE ?_ | refine qsL (i + 1) hE ?_ | refine qssh hE ?_); clear hE a; intro a hE))) | (refine c_regI 2 ?_; all_goals (refine wl hE rfl ?_; refine qm hE ?_; clear hE a; intro a hE); all_goals (refine wl hE rfl ?_; first | ((obtain ⟨q, hq⟩ := subA_some (i + 1) c 4 (hAne (by omega)); refine qov (p := ⟨g1, 0, none⟩) (q := q) hE (Sep.rows_apart (A := some ⟨g1, 0, none⟩) (B := A) (m := 1) (c := c1) (m2 := l.length + 1) (c2 := c) (e := 80) (e' := 80) (sz := 4) (sz' := 4) (xs := x.cells) (ys := l.flatMap En.cells ++ ys) (L := L) hS.fit (by omega) (i + 1) _ _ rfl hq) ?_ (hy := by rw [← hq]; rfl); clear hE; clear a; intro a hE)) | ((first | refine qn1 hE ?_ | refine qns hE ?_); clear hE a; intro a hE)); all_goals (refine wl hE rfl ?_; refine qa hE ?_; clear hE a; intro a hE)) | (refine c_regI 3 ?_; all_goals (refine wl hE rfl ?_; refine qm hE ?_; clear hE a; intro a hE); all_goals (refine wl hE rfl ?_; first | ((obtain ⟨q, hq⟩ := subA_some (i + 1) c 4 (hAne (by omega)); refine qov (p := ⟨g1, 0, none⟩) (q := q) hE (Sep.rows_apart (A := some ⟨g1, 0, none⟩) (B := A) (m := 1) (c := c1) (m2 := l.length + 1) (c2 := c) (e := 80) (e' := 80) (sz := 4) (sz' := 4) (xs := x.cells) (ys := l.flatMap En.cells ++ ys) (L := L) hS.fit (by omega) (i + 1) _ _ rfl hq) ?_ (hy := by rw [← hq]; rfl); clear hE; clear a; intro a hE)) | ((first | refine qb hE ?_ | refine qb2 hE ?_ | refine qbE hE ?_ | refine qbN hE ?_ | refine qpn hE ?_); clear hE a; intro a hE))) | (refine c_regI 5 ?_; all_goals (refine wl hE rfl ?_; refine qm hE ?_; clear hE a; intro a hE); all_goals (refine wl hE rfl ?_; first | ((obtain ⟨q, hq⟩ := subA_some (i + 1) c 4 (hAne (by omega)); refine qov (p := ⟨g1, 0, none⟩) (q := q) hE (Sep.rows_apart (A := some ⟨g1, 0, none⟩) (B := A) (m := 1) (c := c1) (m2 := l.length + 1) (c2 := c) (e := 80) (e' := 80) (sz := 4) (sz' := 4) (xs := x.cells) (ys := l.flatMap En.cells ++ ys) (L := L) hS.fit (by omega) (i + 1) _ _ rfl hq) ?_ (hy := by rw [← hq]; rfl); clear hE; clear a; intro a hE)) | ((first | refine qn1 hE ?_ | refine qns hE ?_); clear hE a; intro a hE)); all_goals (refine wl hE rfl ?_; refine qa hE ?_; clear hE a; intro a hE)) | (refine c_regI 6 ?_; all_goals (refine wl hE rfl ?_; refine qm hE ?_; clear hE a; intro a hE); all_goals (refine wl hE rfl ?_; refine qm hE ?_; clear hE a; intro a hE); all_goals (refine wl hE rfl ?_; first | ((obtain ⟨q, hq⟩ := subA_some (i + 1) c 4 (hAne (by omega)); refine qov (p := ⟨g1, 0, none⟩) (q := q) hE (Sep.rows_apart (A := some ⟨g1, 0, none⟩) (B := A) (m := 1) (c := c1) (m2 := l.length + 1) (c2 := c) (e := 80) (e' := 80) (sz := 4) (sz' := 4) (xs := x.cells) (ys := l.flatMap En.cells ++ ys) (L := L) hS.fit (by omega) (i + 1) _ _ rfl hq) ?_ (hy := by rw [← hq]; rfl); clear hE; clear a; intro a hE)) | ((first | refine qb hE ?_ | refine qb2 hE ?_ | refine qbE hE ?_ | refine qbN hE ?_ | refine qpn hE ?_); clear hE a; intro a hE))) | (refine c_regI 7 ?_; all_goals (refine wl hE rfl ?_; refine qm hE ?_; clear hE a; intro a hE); all_goals (refine wl hE rfl ?_; refine qm hE ?_; clear hE a; intro a hE); all_goals (refine wl hE rfl ?_; first | ((refine qap (A := A) (c := c) (xs := l.flatMap En.cells) (N := l.length + 1) hE hS (Rd.row (A := some ⟨g1, 0, none⟩) (n := 1) (c := c1) (xs := x.cells) hS) hx1 ?_; clear hE hS; clear a; intro A2 c2 a w hE hS)) | ((refine qapm (sz := 4) (cap := c) (v := (l.length : Int) + ((1 : Nat) : Int) - (i : Int)) (k := i) (l := l.length + 1 - i) (N := l.length + 1) hE hS ((Rd.row (A := A) (n := l.length) (c := c) (xs := l.flatMap En.cells) hS).take (i * 4)) ?_ (by rw [List.length_take, flat_len elen]; omega) (by omega) (by omega) (by omega) (by omega) (by omega); clear hE hS; clear a; intro g c3 a w hE hS; obtain ⟨hc3, _, _⟩ := hS.row_cap (n := l.length + 1) (c := c3))) | ((obtain ⟨q, hq⟩ := subA_some (i + 1) c 4 (hAne (by omega)); refine qov (p := ⟨g1, 0, none⟩) (q := q) hE (Sep.rows_apart (A := some ⟨g1, 0, none⟩) (B := A) (m := 1) (c := c1) (m2 := l.length + 1) (c2 := c) (e := 80) (e' := 80) (sz := 4) (sz' := 4) (xs := x.cells) (ys := l.flatMap En.cells ++ ys) (L := L) hS.fit (by omega) (i + 1) _ _ rfl hq) ?_ (hy := by rw [← hq]; rfl); clear hE; clear a; intro a hE)) | ((first | refine qmin hE ?_ | refine qmax hE ?_); clear hE a; intro a hE)); all_goals (refine wl hE rfl ?_; refine qa hE ?_; clear hE a; intro a hE)) | (refine c_regI 8 ?_; all_goals (refine wl hE rfl ?_; refine qm hE ?_; clear hE a; intro a hE); all_goals (refine wl hE rfl ?_; refine qm hE ?_; clear hE a; intro a hE); all_goals (refine wl hE rfl ?_; first | ((obtain ⟨q, hq⟩ := subA_some (i + 1) c 4 (hAne (by omega)); refine qov (p := ⟨g1, 0, none⟩) (q := q) hE (Sep.rows_apart (A := some ⟨g1, 0, none⟩) (B := A) (m := 1) (c := c1) (m2 := l.length + 1) (c2 := c) (e := 80) (e' := 80) (sz := 4) (sz' := 4) (xs := x.cells) (ys := l.flatMap En.cells ++ ys) (L := L) hS.fit (by omega) (i + 1) _ _ rfl hq) ?_ (hy := by rw [← hq]; rfl); clear hE; clear a; intro a hE)) | ((first | refine qb hE ?_ | refine qb2 hE ?_ | refine qbE hE ?_ | refine qbN hE ?_ | refine qpn hE ?_); clear hE a; intro a hE)); all_goals (refine wl hE rfl ?_; refine qm hE ?_; clear hE a; intro a hE); all_goals (refine wl hE rfl ?_; first | ((obtain ⟨q, hq⟩ := subA_some (i + 1) c 4 (hAne (by omega)); refine qov (p := ⟨g1, 0, none⟩) (q := q) hE (Sep.rows_apart (A := some ⟨g1, 0, none⟩) (B := A) (m := 1) (c := c1) (m2 := l.length + 1) (c2 := c) (e := 80) (e' := 80) (sz := 4) (sz' := 4) (xs := x.cells) (ys := l.flatMap En.cells ++ ys) (L := L) hS.fit (by omega) (i + 1) _ _ rfl hq) ?_ (hy := by rw [← hq]; rfl); clear hE; clear a; intro a hE)) | ((first | refine qcap hE ?_ | refine qmin hE ?_ | refine qmax hE ?_); clear hE a; intro a hE)); all_goals (refine wl hE rfl ?_; first | ((obtain ⟨q, hq⟩ := subA_some (i + 1) c 4 (hAne (by omega)); refine qov (p := ⟨g1, 0, none⟩) (q := q) hE (Sep.rows_apart (A := some ⟨g1, 0, none⟩) (B := A) (m := 1) (c := c1) (m2 := l.length + 1) (c2 := c) (e := 80) (e' := 80) (sz := 4) (sz' := 4) (xs := x.cells) (ys := l.flatMap En.cells ++ ys) (L := L) hS.fit (by omega) (i + 1) _ _ rfl hq) ?_ (hy := by rw [← hq]; rfl); clear hE; clear a; intro a hE)) | ((first | refine qb hE ?_ | refine qb2 hE ?_ | refine qbE hE ?_ | refine qbN hE ?_ | refine qpn hE ?_); clear hE a; intro a hE))) | (refine c_regI 9 ?_; all_goals (refine wl hE rfl ?_; refine qm hE ?_; clear hE a; intro a hE); all_goals (refine wl hE rfl ?_; refine qm hE ?_; clear hE a; intro a hE); all_goals (refine wl hE rfl ?_; first | ((refine qsh i hE ?_; clear hE; clear a; intro a hE)) | ((refine qsh (l.length + 1) hE ?_; clear hE; clear a; intro a hE; obtain ⟨ys, hy, hS2⟩ := hS.row_ext (A := A) (n := l.length) (c := c) 1 (by omega) (hAne (by omega)); replace hS := hS2; clear hS2)) | ((obtain ⟨q, hq⟩ := subA_some (i + 1) c 4 (hAne (by omega)); refine qov (p := ⟨g1, 0, none⟩) (q := q) hE (Sep.rows_apart (A := some ⟨g1, 0, none⟩) (B := A) (m := 1) (c := c1) (m2 := l.length + 1) (c2 := c) (e := 80) (e' := 80) (sz := 4) (sz' := 4) (xs := x.cells) (ys := l.flatMap En.cells ++ ys) (L := L) hS.fit (by omega) (i + 1) _ _ rfl hq) ?_ (hy := by rw [← hq]; rfl); clear hE; clear a; intro a hE)) | ((first | refine qsL i hE ?_ | refine qsL (i + 1) hE ?_ | refine qssh hE ?_); clear hE a; intro a hE)); all_goals (refine wl hE rfl ?_; refine qm hE ?_; clear hE a; intro a hE); all_goals (refine wl hE rfl ?_; refine qm hE ?_; clear hE a; intro a hE); all_goals (refine wl hE rfl ?_; first | ((obtain ⟨q, hq⟩ := subA_some (i + 1) c 4 (hAne (by omega)); refine qov (p := ⟨g1, 0, none⟩) (q := q) hE (Sep.rows_apart (A := some ⟨g1, 0, none⟩) (B := A) (m := 1) (c := c1) (m2 := l.length + 1) (c2 := c) (e := 80) (e' := 80) (sz := 4) (sz' := 4) (xs := x.cells) (ys := l.flatMap En.cells ++ ys) (L := L) hS.fit (by omega) (i + 1) _ _ rfl hq) ?_ (hy := by rw [← hq]; rfl); clear hE; clear a; intro a hE)) | ((first | refine qb hE ?_ | refine qb2 hE ?_ | refine qbE hE ?_ | refine qbN hE ?_ | refine qpn hE ?_); clear hE a; intro a hE)); all_goals (refine wl hE rfl ?_; refine qm hE ?_; clear hE a; intro a hE); all_goals (refine wl hE rfl ?_; first | ((obtain ⟨q, hq⟩ := subA_some (i + 1) c 4 (hAne (by omega)); refine qov (p := ⟨g1, 0, none⟩) (q := q) hE (Sep.rows_apart (A := some ⟨g1, 0, none⟩) (B := A) (m := 1) (c := c1) (m2 := l.length + 1) (c2 := c) (e := 80) (e' := 80) (sz := 4) (sz' := 4) (xs := x.cells) (ys := l.flatMap En.cells ++ ys) (L := L) hS.fit (by omega) (i + 1) _ _ rfl hq) ?_ (hy := by rw [← hq]; rfl); clear hE; clear a; intro a hE)) | ((first | refine qb hE ?_ | refine qb2 hE ?_ | refine qbE hE ?_ | refine qbN hE ?_ | refine qpn hE ?_); clear hE a; intro a hE)); all_goals (refine wl hE rfl ?_; first | ((refine qap (A := A) (c := c) (xs := l.flatMap En.cells) (N := l.length + 1) hE hS (Rd.row (A := some ⟨g1, 0, none⟩) (n := 1) (c := c1) (xs := x.cells) hS) hx1 ?_; clear hE hS; clear a; intro A2 c2 a w hE hS)) | ((refine qapm (sz := 4) (cap := c) (v := (l.length : Int) + ((1 : Nat) : Int) - (i : Int)) (k := i) (l := l.length + 1 - i) (N := l.length + 1) hE hS ((Rd.row (A := A) (n := l.length) (c := c) (xs := l.flatMap En.cells) hS).take (i * 4)) ?_ (by rw [List.length_take, flat_len elen]; omega) (by omega) (by omega) (by omega) (by omega) (by omega); clear hE hS; clear a; intro g c3 a w hE hS; obtain ⟨hc3, _, _⟩ := hS.row_cap (n := l.length + 1) (c := c3))) | ((obtain ⟨q, hq⟩ := subA_some (i + 1) c 4 (hAne (by omega)); refine qov (p := ⟨g1, 0, none⟩) (q := q) hE (Sep.rows_apart (A := some ⟨g1, 0, none⟩) (B := A) (m := 1) (c := c1) (m2 := l.length + 1) (c2 := c) (e := 80) (e' := 80) (sz := 4) (sz' := 4) (xs := x.cells) (ys := l.flatMap En.cells ++ ys) (L := L) hS.fit (by omega) (i + 1) _ _ rfl hq) ?_ (hy := by rw [← hq]; rfl); clear hE; clear a; intro a hE)) | ((first | refine qmin hE ?_ | refine qmax hE ?_); clear hE a; intro a hE)); all_goals (refine wl hE rfl ?_; refine qa hE ?_; clear hE a; intro a hE)) | (refine c_regI 10 ?_; all_goals (refine wl hE rfl ?_; refine qm hE ?_; clear hE a; intro a hE); all_goals (refine wl hE rfl ?_; refine qm hE ?_; clear hE a; intro a hE); all_goals (refine wl hE rfl ?_; first | ((refine qsh i hE ?_; clear hE; clear a; intro a hE)) | ((refine qsh (l.length + 1) hE ?_; clear hE; clear a; intro a hE; obtain ⟨ys, hy, hS2⟩ := hS.row_ext (A := A) (n := l.length) (c := c) 1 (by omega) (hAne (by omega)); replace hS := hS2; clear hS2)) | ((obtain ⟨q, hq⟩ := subA_some (i + 1) c 4 (hAne (by omega)); refine qov (p := ⟨g1, 0, none⟩) (q := q) hE (Sep.rows_apart (A := some ⟨g1, 0, none⟩) (B := A) (m := 1) (c := c1) (m2 := l.length + 1) (c2 := c) (e := 80) (e' := 80) (sz := 4) (sz' := 4) (xs := x.cells) (ys := l.flatMap En.cells ++ ys) (L := L) hS.fit (by omega) (i + 1) _ _ rfl hq) ?_ (hy := by rw [← hq]; rfl); clear hE; clear a; intro a hE)) | ((first | refine qsL i hE ?_ | refine qsL (i + 1) hE ?_ | refine qssh hE ?_); clear hE a; intro a hE)); all_goals (refine wl hE rfl ?_; refine qm hE ?_; clear hE a; intro a hE); all_goals (refine wl hE rfl ?_; first | ((refine qcp (sz := 4) (m := 1) (dl := l.length + 1 - i) i 1 (A := some ⟨g, 0, none⟩) (c := c3) (N := l.length + 1) hE hS (Rd.row (A := some ⟨g1, 0, none⟩) (n := 1) (c := c1) (xs := x.cells) hS) (fun u hu => hx1 u (List.mem_of_mem_take hu)) ?_ rfl (by decide) (by decide) (by omega) (by omega) (by omega) (put_new l i x (by omega)); clear hE hS; clear a; intro a w hE hS)) | ((refine qcp (sz := 4) (m := l.length - i) (dl := l.length + 1 - (i + 1)) (i + 1) (l.length - i) (A := some ⟨g, 0, none⟩) (c := c3) (N := l.length + 1) hE hS ((Rd.row (A := A) (n := l.length) (c := c) (xs := l.flatMap En.cells) hS).sub (flat_len elen l) i hi hc1) (fun u hu => en_one l u (List.mem_of_mem_drop (List.mem_of_mem_take hu))) ?_ (by rw [List.length_drop, flat_len elen, Nat.sub_mul]) (by decide) (by omega) (by omega) (by omega) (by omega) (put_rest l i x (by omega)); clear hE hS; clear a; intro a w hE hS)) | ((obtain ⟨q, hq⟩ := subA_some (i + 1) c 4 (hAne (by omega)); refine qov (p := ⟨g1, 0, none⟩) (q := q) hE (Sep.rows_apart (A := some ⟨g1, 0, none⟩) (B := A) (m := 1) (c := c1) (m2 := l.length + 1) (c2 := c) (e := 80) (e' := 80) (sz := 4) (sz' := 4) (xs := x.cells) (ys := l.flatMap En.cells ++ ys) (L := L) hS.fit (by omega) (i + 1) _ _ rfl hq) ?_ (hy := by rw [← hq]; rfl); clear hE; clear a; intro a hE)) | ((refine qcp (sz := 4) (m := l.length + 1 - i) (dl := l.length + 1 - (i + 1)) (i + 1) (l.length - i) (A := A) (c := c) (N := l.length + 1) (ys := (l.take (i + 1) ++ l.drop i).flatMap En.cells) hE hS ((Rd.row (A := A) (n := l.length + 1) (c := c) (xs := l.flatMap En.cells ++ ys) hS).sub (n := l.length + 1) (cap := c) (by rw [List.length_append, flat_len elen, hy, Nat.add_mul]) i (by omega) (by omega)) (fun u hu => en_one (l.drop i) u (by rw [shift_src l i ys (by omega)] at hu; exact hu)) ?_ (by rw [List.length_drop, List.length_append, flat_len elen, hy]; omega) (by decide) (by omega) (by omega) (by omega) (by omega) (by rw [shift_src l i ys (by omega)]; exact put_shift l i ys (by omega) hy); clear hE hS; clear a; intro a w hE hS)) | ((refine qcp (sz := 4) (m := 1) (dl := l.length + 1 - i) i 1 (A := A) (c := c) (N := l.length + 1) (xs := (l.take (i + 1) ++ l.drop i).flatMap En.cells) hE hS (Rd.row (A := some ⟨g1, 0, none⟩) (n := 1) (c := c1) (xs := x.cells) hS) (fun u hu => hx1 u (List.mem_of_mem_take hu)) ?_ rfl (by decide) (by decide) (by omega) (by omega) (by omega) (put_one l i x (by omega)); clear hE hS; clear a; intro a w hE hS)) | ((first | refine qmin hE ?_ | refine qmax hE ?_); clear hE a; intro a hE))) | (refine c_regI 12 ?_; all_goals (refine wl hE rfl ?_; refine qm hE ?_; clear hE a; intro a hE); all_goals (refine wl hE rfl ?_; refine qa hE ?_; clear hE a; intro a hE)) | (refine c_regI 13 ?_; all_goals (refine wl hE rfl ?_; refine qm hE ?_; clear hE a; intro a hE); all_goals (refine wl hE rfl ?_; refine qm hE ?_; clear hE a; intro a hE); all_goals (refine wl hE rfl ?_; refine qm hE ?_; clear hE a; intro a hE); all_goals (refine wl hE rfl ?_; first | ((obtain ⟨q, hq⟩ := subA_some (i + 1) c 4 (hAne (by omega)); refine qov (p := ⟨g1, 0, none⟩) (q := q) hE (Sep.rows_apart (A := some ⟨g1, 0, none⟩) (B := A) (m := 1) (c := c1) (m2 := l.length + 1) (c2 := c) (e := 80) (e' := 80) (sz := 4) (sz' := 4) (xs := x.cells) (ys := l.flatMap En.cells ++ ys) (L := L) hS.fit (by omega) (i + 1) _ _ rfl hq) ?_ (hy := by rw [← hq]; rfl); clear hE; clear a; intro a hE)) | ((first | refine qb hE ?_ | refine qb2 hE ?_ | refine qbE hE ?_ | refine qbN hE ?_ | refine qpn hE ?_); clear hE a; intro a hE)); all_goals (refine wl hE rfl ?_; first | ((refine qsh i hE ?_; clear hE; clear a; intro a hE)) | ((refine qsh (l.length + 1) hE ?_; clear hE; clear a; intro a hE; obtain ⟨ys, hy, hS2⟩ := hS.row_ext (A := A) (n := l.length) (c := c) 1 (by omega) (hAne (by omega)); replace hS := hS2; clear hS2)) | ((obtain ⟨q, hq⟩ := subA_some (i + 1) c 4 (hAne (by omega)); refine qov (p := ⟨g1, 0, none⟩) (q := q) hE (Sep.rows_apart (A := some ⟨g1, 0, none⟩) (B := A) (m := 1) (c := c1) (m2 := l.length + 1) (c2 := c) (e := 80) (e' := 80) (sz := 4) (sz' := 4) (xs := x.cells) (ys := l.flatMap En.cells ++ ys) (L := L) hS.fit (by omega) (i + 1) _ _ rfl hq) ?_ (hy := by rw [← hq]; rfl); clear hE; clear a; intro a hE)) | ((first | refine qsL i hE ?_ | refine qsL (i + 1) hE ?_ | refine qssh hE ?_); clear hE a; intro a hE)); all_goals (refine wl hE rfl ?_; refine qa hE ?_; clear hE a; intro a hE)) | (refine c_regI 14 ?_; all_goals (refine wl hE rfl ?_; refine qm hE ?_; clear hE a; intro a hE); all_goals (refine wl hE rfl ?_; refine qm hE ?_; clear hE a; intro a hE); all_goals (refine wl hE rfl ?_; refine qm hE ?_; clear hE a; intro a hE); all_goals (refine wl hE rfl ?_; refine qm hE ?_; clear hE a; intro a hE); all_goals (refine wl hE rfl ?_; first | ((obtain ⟨q, hq⟩ := subA_some (i + 1) c 4 (hAne (by omega)); refine qov (p := ⟨g1, 0, none⟩) (q := q) hE (Sep.rows_apart (A := some ⟨g1, 0, none⟩) (B := A) (m := 1) (c := c1) (m2 := l.length + 1) (c2 := c) (e := 80) (e' := 80) (sz := 4) (sz' := 4) (xs := x.cells) (ys := l.flatMap En.cells ++ ys) (L := L) hS.fit (by omega) (i + 1) _ _ rfl hq) ?_ (hy := by rw [← hq]; rfl); clear hE; clear a; intro a hE)) | ((first | refine qb hE ?_ | refine qb2 hE ?_ | refine qbE hE ?_ | refine qbN hE ?_ | refine qpn hE ?_); clear hE a; intro a hE)); all_goals (refine wl hE rfl ?_; first | ((refine qsh i hE ?_; clear hE; clear a; intro a hE)) | ((refine qsh (l.length + 1) hE ?_; clear hE; clear a; intro a hE; obtain ⟨ys, hy, hS2⟩ := hS.row_ext (A := A) (n := l.length) (c := c) 1 (by omega) (hAne (by omega)); replace hS := hS2; clear hS2)) | ((obtain ⟨q, hq⟩ := subA_some (i + 1) c 4 (hAne (by omega)); refine qov (p := ⟨g1, 0, none⟩) (q := q) hE (Sep.rows_apart (A := some ⟨g1, 0, none⟩) (B := A) (m := 1) (c := c1) (m2 := l.length + 1) (c2 := c) (e := 80) (e' := 80) (sz := 4) (sz' := 4) (xs := x.cells) (ys := l.flatMap En.cells ++ ys) (L := L) hS.fit (by omega) (i + 1) _ _ rfl hq) ?_ (hy := by rw [← hq]; rfl); clear hE; clear a; intro a hE)) | ((first | refine qsL i hE ?_ | refine qsL (i + 1) hE ?_ | refine qssh hE ?_); clear hE a; intro a hE)); all_goals (refine wl hE rfl ?_; obtain ⟨q, hq⟩ := subA_some (i + 1) c 4 (hAne (by omega)); refine qov (p := ⟨g1, 0, none⟩) (q := q) hE (Sep.rows_apart (A := some ⟨g1, 0, none⟩) (B := A) (m := 1) (c := c1) (m2 := l.length + 1) (c2 := c) (e := 80) (e' := 80) (sz := 4) (sz' := 4) (xs := x.cells) (ys := l.flatMap En.cells ++ ys) (L := L) hS.fit (by omega) (i + 1) _ _ rfl hq) ?_ (hy := by rw [← hq]; rfl); clear hE; clear a; intro a hE); all_goals (refine wl hE rfl ?_; (first | refine qu hE ?_ | refine qng hE ?_); clear hE a; intro a hE)) | (refine c_regI 16 ?_; all_goals (refine wl hE rfl ?_; refine qm hE ?_; clear hE a; intro a hE); all_goals (refine wl hE rfl ?_; refine qm hE ?_; clear hE a; intro a hE); all_goals (refine wl hE rfl ?_; first | ((refine qsh i hE ?_; clear hE; clear a; intro a hE)) | ((refine qsh (l.length + 1) hE ?_; clear hE; clear a; intro a hE; obtain ⟨ys, hy, hS2⟩ := hS.row_ext (A := A) (n := l.length) (c := c) 1 (by omega) (hAne (by omega)); replace hS := hS2; clear hS2)) | ((obtain ⟨q, hq⟩ := subA_some (i + 1) c 4 (hAne (by omega)); refine qov (p := ⟨g1, 0, none⟩) (q := q) hE (Sep.rows_apart (A := some ⟨g1, 0, none⟩) (B := A) (m := 1) (c := c1) (m2 := l.length + 1) (c2 := c) (e := 80) (e' := 80) (sz := 4) (sz' := 4) (xs := x.cells) (ys := l.flatMap En.cells ++ ys) (L := L) hS.fit (by omega) (i + 1) _ _ rfl hq) ?_ (hy := by rw [← hq]; rfl); clear hE; clear a; intro a hE)) | ((first | refine qsL i hE ?_ | refine qsL (i + 1) hE ?_ | refine qssh hE ?_); clear hE a; intro a hE)); all_goals (refine wl hE rfl ?_; refine qm hE ?_; clear hE a; intro a hE); all_goals (refine wl hE rfl ?_; first | ((refine qcp (sz := 4) (m := 1) (dl := l.length + 1 - i) i 1 (A := some ⟨g, 0, none⟩) (c := c3) (N := l.length + 1) hE hS (Rd.row (A := some ⟨g1, 0, none⟩) (n := 1) (c := c1) (xs := x.cells) hS) (fun u hu => hx1 u (List.mem_of_mem_take hu)) ?_ rfl (by decide) (by decide) (by omega) (by omega) (by omega) (put_new l i x (by omega)); clear hE hS; clear a; intro a w hE hS)) | ((refine qcp (sz := 4) (m := l.length - i) (dl := l.length + 1 - (i + 1)) (i + 1) (l.length - i) (A := some ⟨g, 0, none⟩) (c := c3) (N := l.length + 1) hE hS ((Rd.row (A := A) (n := l.length) (c := c) (xs := l.flatMap En.cells) hS).sub (flat_len elen l) i hi hc1) (fun u hu => en_one l u (List.mem_of_mem_drop (List.mem_of_mem_take hu))) ?_ (by rw [List.length_drop, flat_len elen, Nat.sub_mul]) (by decide) (by omega) (by omega) (by omega) (by omega) (put_rest l i x (by omega)); clear hE hS; clear a; intro a w hE hS)) | ((obtain ⟨q, hq⟩ := subA_some (i + 1) c 4 (hAne (by omega)); refine qov (p := ⟨g1, 0, none⟩) (q := q) hE (Sep.rows_apart (A := some ⟨g1, 0, none⟩) (B := A) (m := 1) (c := c1) (m2 := l.length + 1) (c2 := c) (e := 80) (e' := 80) (sz := 4) (sz' := 4) (xs := x.cells) (ys := l.flatMap En.cells ++ ys) (L := L) hS.fit (by omega) (i + 1) _ _ rfl hq) ?_ (hy := by rw [← hq]; rfl); clear hE; clear a; intro a hE)) | ((refine qcp (sz := 4) (m := l.length + 1 - i) (dl := l.length + 1 - (i + 1)) (i + 1) (l.length - i) (A := A) (c := c) (N := l.length + 1) (ys := (l.take (i + 1) ++ l.drop i).flatMap En.cells) hE hS ((Rd.row (A := A) (n := l.length + 1) (c := c) (xs := l.flatMap En.cells ++ ys) hS).sub (n := l.length + 1) (cap := c) (by rw [List.length_append, flat_len elen, hy, Nat.add_mul]) i (by omega) (by omega)) (fun u hu => en_one (l.drop i) u (by rw [shift_src l i ys (by omega)] at hu; exact hu)) ?_ (by rw [List.length_drop, List.length_append, flat_len elen, hy]; omega) (by decide) (by omega) (by omega) (by omega) (by omega) (by rw [shift_src l i ys (by omega)]; exact put_shift l i ys (by omega) hy); clear hE hS; clear a; intro a w hE hS)) | ((refine qcp (sz := 4) (m := 1) (dl := l.length + 1 - i) i 1 (A := A) (c := c) (N := l.length + 1) (xs := (l.take (i + 1) ++ l.drop i).flatMap En.cells) hE hS (Rd.row (A := some ⟨g1, 0, none⟩) (n := 1) (c := c1) (xs := x.cells) hS) (fun u hu => hx1 u (List.mem_of_mem_take hu)) ?_ rfl (by decide) (by decide) (by omega) (by omega) (by omega) (put_one l i x (by omega)); clear hE hS; clear a; intro a w hE hS)) | ((first | refine qmin hE ?_ | refine qmax hE ?_); clear hE a; intro a hE))) | (refine c_regI 17 ?_; all_goals (refine wl hE rfl ?_; refine qm hE ?_; clear hE a; intro a hE); all_goals (refine wl hE rfl ?_; refine qa hE ?_; clear hE a; intro a hE)) | refine c_seq ?_ | (refine rg_guard 11 ?_; refine rg_start [] hE hS ?_; clear hS; (try clear w); intro w hS hX; all_goals (first | (refine rg_y 0 hE hX (by exact y_move) ?_ rfl rfl rfl rfl; clear hE a; intro a hE)); all_goals (first | (refine rg_y 1 hE hX (by exact y_move) ?_ rfl rfl rfl rfl; clear hE a; intro a hE)); all_goals (first | (refine rg_y 2 hE hX (by exact y_move) ?_ rfl rfl rfl rfl; clear hE a; intro a hE)); all_goals (first | (refine rg_y 3 hE hX (by first | exact y_bin | exact y_binE | exact y_binN | exact y_bin2 | exact y_pn) ?_ rfl rfl rfl rfl; clear hE a; intro a hE)); all_goals (first | (refine rg_y 5 hE hX (by exact y_move) ?_ rfl rfl rfl rfl; clear hE a; intro a hE)); all_goals (first | (refine rg_y 6 hE hX (by exact y_move) ?_ rfl rfl rfl rfl; clear hE a; intro a hE)); all_goals ((refine rg_e2 4 7 (by kernel_rfl) ?_ ?_) <;> first | (intro K hK; refine rg_op (i := 4) hE rfl rfl ?_; (first | ((refine qsh i hE ?_; clear hE; clear a; intro a hE)) | ((refine qsh (l.length + 1) hE ?_; clear hE; clear a; intro a hE; obtain ⟨ys, hy, hS2⟩ := hS.row_ext (A := A) (n := l.length) (c := c) 1 (by omega) (hAne (by omega)); replace hS := hS2; clear hS2)) | ((obtain ⟨q, hq⟩ := subA_some (i + 1) c 4 (hAne (by omega)); refine qov (p := ⟨g1, 0, none⟩) (q := q) hE (Sep.rows_apart (A := some ⟨g1, 0, none⟩) (B := A) (m := 1) (c := c1) (m2 := l.length + 1) (c2 := c) (e := 80) (e' := 80) (sz := 4) (sz' := 4) (xs := x.cells) (ys := l.flatMap En.cells ++ ys) (L := L) hS.fit (by omega) (i + 1) _ _ rfl hq) ?_ (hy := by rw [← hq]; rfl); clear hE; clear a; intro a hE)) | ((first | refine qsL i hE ?_ | refine qsL (i + 1) hE ?_ | refine qssh hE ?_); clear hE a; intro a hE)); refine rg_k hK hS ?_; clear hK hX; clear K; intro hX; all_goals (first | (refine rg_e 7 hE rfl rfl (by kernel_rfl) ?_; intro K hK; (first | ((refine qsh i hE ?_; clear hE; clear a; intro a hE)) | ((refine qsh (l.length + 1) hE ?_; clear hE; clear a; intro a hE; obtain ⟨ys, hy, hS2⟩ := hS.row_ext (A := A) (n := l.length) (c := c) 1 (by omega) (hAne (by omega)); replace hS := hS2; clear hS2)) | ((obtain ⟨q, hq⟩ := subA_some (i + 1) c 4 (hAne (by omega)); refine qov (p := ⟨g1, 0, none⟩) (q := q) hE (Sep.rows_apart (A := some ⟨g1, 0, none⟩) (B := A) (m := 1) (c := c1) (m2 := l.length + 1) (c2 := c) (e := 80) (e' := 80) (sz := 4) (sz' := 4) (xs := x.cells) (ys := l.flatMap En.cells ++ ys) (L := L) hS.fit (by omega) (i + 1) _ _ rfl hq) ?_ (hy := by rw [← hq]; rfl); clear hE; clear a; intro a hE)) | ((first | refine qsL i hE ?_ | refine qsL (i + 1) hE ?_ | refine qssh hE ?_); clear hE a; intro a hE)); refine rg_k hK hS ?_; clear hK hX; clear K; intro hX)); all_goals (first | (refine rg_e 8 hE rfl rfl (by kernel_rfl) ?_; intro K hK; (first | ((refine qcp (sz := 4) (m := 1) (dl := l.length + 1 - i) i 1 (A := some ⟨g, 0, none⟩) (c := c3) (N := l.length + 1) hE hS (Rd.row (A := some ⟨g1, 0, none⟩) (n := 1) (c := c1) (xs := x.cells) hS) (fun u hu => hx1 u (List.mem_of_mem_take hu)) ?_ rfl (by decide) (by decide) (by omega) (by omega) (by omega) (put_new l i x (by omega)); clear hE hS; clear a; intro a w hE hS)) | ((refine qcp (sz := 4) (m := l.length - i) (dl := l.length + 1 - (i + 1)) (i + 1) (l.length - i) (A := some ⟨g, 0, none⟩) (c := c3) (N := l.length + 1) hE hS ((Rd.row (A := A) (n := l.length) (c := c) (xs := l.flatMap En.cells) hS).sub (flat_len elen l) i hi hc1) (fun u hu => en_one l u (List.mem_of_mem_drop (List.mem_of_mem_take hu))) ?_ (by rw [List.length_drop, flat_len elen, Nat.sub_mul]) (by decide) (by omega) (by omega) (by omega) (by omega) (put_rest l i x (by omega)); clear hE hS; clear a; intro a w hE hS)) | ((obtain ⟨q, hq⟩ := subA_some (i + 1) c 4 (hAne (by omega)); refine qov (p := ⟨g1, 0, none⟩) (q := q) hE (Sep.rows_apart (A := some ⟨g1, 0, none⟩) (B := A) (m := 1) (c := c1) (m2 := l.length + 1) (c2 := c) (e := 80) (e' := 80) (sz := 4) (sz' := 4) (xs := x.cells) (ys := l.flatMap En.cells ++ ys) (L := L) hS.fit (by omega) (i + 1) _ _ rfl hq) ?_ (hy := by rw [← hq]; rfl); clear hE; clear a; intro a hE)) | ((refine qcp (sz := 4) (m := l.length + 1 - i) (dl := l.length + 1 - (i + 1)) (i + 1) (l.length - i) (A := A) (c := c) (N := l.length + 1) (ys := (l.take (i + 1) ++ l.drop i).flatMap En.cells) hE hS ((Rd.row (A := A) (n := l.length + 1) (c := c) (xs := l.flatMap En.cells ++ ys) hS).sub (n := l.length + 1) (cap := c) (by rw [List.length_append, flat_len elen, hy, Nat.add_mul]) i (by omega) (by omega)) (fun u hu => en_one (l.drop i) u (by rw [shift_src l i ys (by omega)] at hu; exact hu)) ?_ (by rw [List.length_drop, List.length_append, flat_len elen, hy]; omega) (by decide) (by omega) (by omega) (by omega) (by omega) (by rw [shift_src l i ys (by omega)]; exact put_shift l i ys (by omega) hy); clear hE hS; clear a; intro a w hE hS)) | ((refine qcp (sz := 4) (m := 1) (dl := l.length + 1 - i) i 1 (A := A) (c := c) (N := l.length + 1) (xs := (l.take (i + 1) ++ l.drop i).flatMap En.cells) hE hS (Rd.row (A := some ⟨g1, 0, none⟩) (n := 1) (c := c1) (xs := x.cells) hS) (fun u hu => hx1 u (List.mem_of_mem_take hu)) ?_ rfl (by decide) (by decide) (by omega) (by omega) (by omega) (put_one l i x (by omega)); clear hE hS; clear a; intro a w hE hS)) | ((first | refine qmin hE ?_ | refine qmax hE ?_); clear hE a; intro a hE)); refine rg_k hK hS ?_; clear hK hX; clear K; intro hX)); all_goals (refine rg_done ?_ (by kernel_rfl); (try clear hX))) | (intro K hK; refine rg_op (i := 7) hE rfl rfl ?_; (first | ((refine qsh i hE ?_; clear hE; clear a; intro a hE)) | ((refine qsh (l.length + 1) hE ?_; clear hE; clear a; intro a hE; obtain ⟨ys, hy, hS2⟩ := hS.row_ext (A := A) (n := l.length) (c := c) 1 (by omega) (hAne (by omega)); replace hS := hS2; clear hS2)) | ((obtain ⟨q, hq⟩ := subA_some (i + 1) c 4 (hAne (by omega)); refine qov (p := ⟨g1, 0, none⟩) (q := q) hE (Sep.rows_apart (A := some ⟨g1, 0, none⟩) (B := A) (m := 1) (c := c1) (m2 := l.length + 1) (c2 := c) (e := 80) (e' := 80) (sz := 4) (sz' := 4) (xs := x.cells) (ys := l.flatMap En.cells ++ ys) (L := L) hS.fit (by omega) (i + 1) _ _ rfl hq) ?_ (hy := by rw [← hq]; rfl); clear hE; clear a; intro a hE)) | ((first | refine qsL i hE ?_ | refine qsL (i + 1) hE ?_ | refine qssh hE ?_); clear hE a; intro a hE)); refine rg_k hK hS ?_; clear hK hX; clear K; intro hX; all_goals (first | (refine rg_e 4 hE rfl rfl (by kernel_rfl) ?_; intro K hK; (first | ((refine qsh i hE ?_; clear hE; clear a; intro a hE)) | ((refine qsh (l.length + 1) hE ?_; clear hE; clear a; intro a hE; obtain ⟨ys, hy, hS2⟩ := hS.row_ext (A := A) (n := l.length) (c := c) 1 (by omega) (hAne (by omega)); replace hS := hS2; clear hS2)) | ((obtain ⟨q, hq⟩ := subA_some (i + 1) c 4 (hAne (by omega)); refine qov (p := ⟨g1, 0, none⟩) (q := q) hE (Sep.rows_apart (A := some ⟨g1, 0, none⟩) (B := A) (m := 1) (c := c1) (m2 := l.length + 1) (c2 := c) (e := 80) (e' := 80) (sz := 4) (sz' := 4) (xs := x.cells) (ys := l.flatMap En.cells ++ ys) (L := L) hS.fit (by omega) (i + 1) _ _ rfl hq) ?_ (hy := by rw [← hq]; rfl); clear hE; clear a; intro a hE)) | ((first | refine qsL i hE ?_ | refine qsL (i + 1) hE ?_ | refine qssh hE ?_); clear hE a; intro a hE)); refine rg_k hK hS ?_; clear hK hX; clear K; intro hX)); all_goals (first | (refine rg_e 8 hE rfl rfl (by kernel_rfl) ?_; intro K hK; (first | ((refine qcp (sz := 4) (m := 1) (dl := l.length + 1 - i) i 1 (A := some ⟨g, 0, none⟩) (c := c3) (N := l.length + 1) hE hS (Rd.row (A := some ⟨g1, 0, none⟩) (n := 1) (c := c1) (xs := x.cells) hS) (fun u hu => hx1 u (List.mem_of_mem_take hu)) ?_ rfl (by decide) (by decide) (by omega) (by omega) (by omega) (put_new l i x (by omega)); clear hE hS; clear a; intro a w hE hS)) | ((refine qcp (sz := 4) (m := l.length - i) (dl := l.length + 1 - (i + 1)) (i + 1) (l.length - i) (A := some ⟨g, 0, none⟩) (c := c3) (N := l.length + 1) hE hS ((Rd.row (A := A) (n := l.length) (c := c) (xs := l.flatMap En.cells) hS).sub (flat_len elen l) i hi hc1) (fun u hu => en_one l u (List.mem_of_mem_drop (List.mem_of_mem_take hu))) ?_ (by rw [List.length_drop, flat_len elen, Nat.sub_mul]) (by decide) (by omega) (by omega) (by omega) (by omega) (put_rest l i x (by omega)); clear hE hS; clear a; intro a w hE hS)) | ((obtain ⟨q, hq⟩ := subA_some (i + 1) c 4 (hAne (by omega)); refine qov (p := ⟨g1, 0, none⟩) (q := q) hE (Sep.rows_apart (A := some ⟨g1, 0, none⟩) (B := A) (m := 1) (c := c1) (m2 := l.length + 1) (c2 := c) (e := 80) (e' := 80) (sz := 4) (sz' := 4) (xs := x.cells) (ys := l.flatMap En.cells ++ ys) (L := L) hS.fit (by omega) (i + 1) _ _ rfl hq) ?_ (hy := by rw [← hq]; rfl); clear hE; clear a; intro a hE)) | ((refine qcp (sz := 4) (m := l.length + 1 - i) (dl := l.length + 1 - (i + 1)) (i + 1) (l.length - i) (A := A) (c := c) (N := l.length + 1) (ys := (l.take (i + 1) ++ l.drop i).flatMap En.cells) hE hS ((Rd.row (A := A) (n := l.length + 1) (c := c) (xs := l.flatMap En.cells ++ ys) hS).sub (n := l.length + 1) (cap := c) (by rw [List.length_append, flat_len elen, hy, Nat.add_mul]) i (by omega) (by omega)) (fun u hu => en_one (l.drop i) u (by rw [shift_src l i ys (by omega)] at hu; exact hu)) ?_ (by rw [List.length_drop, List.length_append, flat_len elen, hy]; omega) (by decide) (by omega) (by omega) (by omega) (by omega) (by rw [shift_src l i ys (by omega)]; exact put_shift l i ys (by omega) hy); clear hE hS; clear a; intro a w hE hS)) | ((refine qcp (sz := 4) (m := 1) (dl := l.length + 1 - i) i 1 (A := A) (c := c) (N := l.length + 1) (xs := (l.take (i + 1) ++ l.drop i).flatMap En.cells) hE hS (Rd.row (A := some ⟨g1, 0, none⟩) (n := 1) (c := c1) (xs := x.cells) hS) (fun u hu => hx1 u (List.mem_of_mem_take hu)) ?_ rfl (by decide) (by decide) (by omega) (by omega) (by omega) (put_one l i x (by omega)); clear hE hS; clear a; intro a w hE hS)) | ((first | refine qmin hE ?_ | refine qmax hE ?_); clear hE a; intro a hE)); refine rg_k hK hS ?_; clear hK hX; clear K; intro hX)); all_goals (refine rg_done ?_ (by kernel_rfl); (try clear hX))))) | (refine rg_guard 15 ?_; refine rg_start [] hE hS ?_; clear hS; (try clear w); intro w hS hX; all_goals (first | (refine rg_y 0 hE hX (by exact y_move) ?_ rfl rfl rfl rfl; clear hE a; intro a hE)); all_goals (first | (refine rg_y 1 hE hX (by exact y_move) ?_ rfl rfl rfl rfl; clear hE a; intro a hE)); all_goals (first | (refine rg_y 2 hE hX (by exact y_move) ?_ rfl rfl rfl rfl; clear hE a; intro a hE)); all_goals (first | (refine rg_y 3 hE hX (by first | exact y_bin | exact y_binE | exact y_binN | exact y_bin2 | exact y_pn) ?_ rfl rfl rfl rfl; clear hE a; intro a hE)); all_goals (first | (refine rg_y 5 hE hX (by exact y_move) ?_ rfl rfl rfl rfl; clear hE a; intro a hE)); all_goals (first | (refine rg_y 6 hE hX (by exact y_move) ?_ rfl rfl rfl rfl; clear hE a; intro a hE)); all_goals ((refine rg_e2 4 7 (by kernel_rfl) ?_ ?_) <;> first | (intro K hK; refine rg_op (i := 4) hE rfl rfl ?_; (first | ((refine qsh i hE ?_; clear hE; clear a; intro a hE)) | ((refine qsh (l.length + 1) hE ?_; clear hE; clear a; intro a hE; obtain ⟨ys, hy, hS2⟩ := hS.row_ext (A := A) (n := l.length) (c := c) 1 (by omega) (hAne (by omega)); replace hS := hS2; clear hS2)) | ((obtain ⟨q, hq⟩ := subA_some (i + 1) c 4 (hAne (by omega)); refine qov (p := ⟨g1, 0, none⟩) (q := q) hE (Sep.rows_apart (A := some ⟨g1, 0, none⟩) (B := A) (m := 1) (c := c1) (m2 := l.length + 1) (c2 := c) (e := 80) (e' := 80) (sz := 4) (sz' := 4) (xs := x.cells) (ys := l.flatMap En.cells ++ ys) (L := L) hS.fit (by omega) (i + 1) _ _ rfl hq) ?_ (hy := by rw [← hq]; rfl); clear hE; clear a; intro a hE)) | ((first | refine qsL i hE ?_ | refine qsL (i + 1) hE ?_ | refine qssh hE ?_); clear hE a; intro a hE)); refine rg_k hK hS ?_; clear hK hX; clear K; intro hX; all_goals (first | (refine rg_e 7 hE rfl rfl (by kernel_rfl) ?_; intro K hK; (first | ((refine qsh i hE ?_; clear hE; clear a; intro a hE)) | ((refine qsh (l.length + 1) hE ?_; clear hE; clear a; intro a hE; obtain ⟨ys, hy, hS2⟩ := hS.row_ext (A := A) (n := l.length) (c := c) 1 (by omega) (hAne (by omega)); replace hS := hS2; clear hS2)) | ((obtain ⟨q, hq⟩ := subA_some (i + 1) c 4 (hAne (by omega)); refine qov (p := ⟨g1, 0, none⟩) (q := q) hE (Sep.rows_apart (A := some ⟨g1, 0, none⟩) (B := A) (m := 1) (c := c1) (m2 := l.length + 1) (c2 := c) (e := 80) (e' := 80) (sz := 4) (sz' := 4) (xs := x.cells) (ys := l.flatMap En.cells ++ ys) (L := L) hS.fit (by omega) (i + 1) _ _ rfl hq) ?_ (hy := by rw [← hq]; rfl); clear hE; clear a; intro a hE)) | ((first | refine qsL i hE ?_ | refine qsL (i + 1) hE ?_ | refine qssh hE ?_); clear hE a; intro a hE)); refine rg_k hK hS ?_; clear hK hX; clear K; intro hX)); all_goals (first | (refine rg_e 8 hE rfl rfl (by kernel_rfl) ?_; intro K hK; (first | ((refine qcp (sz := 4) (m := 1) (dl := l.length + 1 - i) i 1 (A := some ⟨g, 0, none⟩) (c := c3) (N := l.length + 1) hE hS (Rd.row (A := some ⟨g1, 0, none⟩) (n := 1) (c := c1) (xs := x.cells) hS) (fun u hu => hx1 u (List.mem_of_mem_take hu)) ?_ rfl (by decide) (by decide) (by omega) (by omega) (by omega) (put_new l i x (by omega)); clear hE hS; clear a; intro a w hE hS)) | ((refine qcp (sz := 4) (m := l.length - i) (dl := l.length + 1 - (i + 1)) (i + 1) (l.length - i) (A := some ⟨g, 0, none⟩) (c := c3) (N := l.length + 1) hE hS ((Rd.row (A := A) (n := l.length) (c := c) (xs := l.flatMap En.cells) hS).sub (flat_len elen l) i hi hc1) (fun u hu => en_one l u (List.mem_of_mem_drop (List.mem_of_mem_take hu))) ?_ (by rw [List.length_drop, flat_len elen, Nat.sub_mul]) (by decide) (by omega) (by omega) (by omega) (by omega) (put_rest l i x (by omega)); clear hE hS; clear a; intro a w hE hS)) | ((obtain ⟨q, hq⟩ := subA_some (i + 1) c 4 (hAne (by omega)); refine qov (p := ⟨g1, 0, none⟩) (q := q) hE (Sep.rows_apart (A := some ⟨g1, 0, none⟩) (B := A) (m := 1) (c := c1) (m2 := l.length + 1) (c2 := c) (e := 80) (e' := 80) (sz := 4) (sz' := 4) (xs := x.cells) (ys := l.flatMap En.cells ++ ys) (L := L) hS.fit (by omega) (i + 1) _ _ rfl hq) ?_ (hy := by rw [← hq]; rfl); clear hE; clear a; intro a hE)) | ((refine qcp (sz := 4) (m := l.length + 1 - i) (dl := l.length + 1 - (i + 1)) (i + 1) (l.length - i) (A := A) (c := c) (N := l.length + 1) (ys := (l.take (i + 1) ++ l.drop i).flatMap En.cells) hE hS ((Rd.row (A := A) (n := l.length + 1) (c := c) (xs := l.flatMap En.cells ++ ys) hS).sub (n := l.length + 1) (cap := c) (by rw [List.length_append, flat_len elen, hy, Nat.add_mul]) i (by omega) (by omega)) (fun u hu => en_one (l.drop i) u (by rw [shift_src l i ys (by omega)] at hu; exact hu)) ?_ (by rw [List.length_drop, List.length_append, flat_len elen, hy]; omega) (by decide) (by omega) (by omega) (by omega) (by omega) (by rw [shift_src l i ys (by omega)]; exact put_shift l i ys (by omega) hy); clear hE hS; clear a; intro a w hE hS)) | ((refine qcp (sz := 4) (m := 1) (dl := l.length + 1 - i) i 1 (A := A) (c := c) (N := l.length + 1) (xs := (l.take (i + 1) ++ l.drop i).flatMap En.cells) hE hS (Rd.row (A := some ⟨g1, 0, none⟩) (n := 1) (c := c1) (xs := x.cells) hS) (fun u hu => hx1 u (List.mem_of_mem_take hu)) ?_ rfl (by decide) (by decide) (by omega) (by omega) (by omega) (put_one l i x (by omega)); clear hE hS; clear a; intro a w hE hS)) | ((first | refine qmin hE ?_ | refine qmax hE ?_); clear hE a; intro a hE)); refine rg_k hK hS ?_; clear hK hX; clear K; intro hX)); all_goals (refine rg_done ?_ (by kernel_rfl); (try clear hX))) | (intro K hK; refine rg_op (i := 7) hE rfl rfl ?_; (first | ((refine qsh i hE ?_; clear hE; clear a; intro a hE)) | ((refine qsh (l.length + 1) hE ?_; clear hE; clear a; intro a hE; obtain ⟨ys, hy, hS2⟩ := hS.row_ext (A := A) (n := l.length) (c := c) 1 (by omega) (hAne (by omega)); replace hS := hS2; clear hS2)) | ((obtain ⟨q, hq⟩ := subA_some (i + 1) c 4 (hAne (by omega)); refine qov (p := ⟨g1, 0, none⟩) (q := q) hE (Sep.rows_apart (A := some ⟨g1, 0, none⟩) (B := A) (m := 1) (c := c1) (m2 := l.length + 1) (c2 := c) (e := 80) (e' := 80) (sz := 4) (sz' := 4) (xs := x.cells) (ys := l.flatMap En.cells ++ ys) (L := L) hS.fit (by omega) (i + 1) _ _ rfl hq) ?_ (hy := by rw [← hq]; rfl); clear hE; clear a; intro a hE)) | ((first | refine qsL i hE ?_ | refine qsL (i + 1) hE ?_ | refine qssh hE ?_); clear hE a; intro a hE)); refine rg_k hK hS ?_; clear hK hX; clear K; intro hX; all_goals (first | (refine rg_e 4 hE rfl rfl (by kernel_rfl) ?_; intro K hK; (first | ((refine qsh i hE ?_; clear hE; clear a; intro a hE)) | ((refine qsh (l.length + 1) hE ?_; clear hE; clear a; intro a hE; obtain ⟨ys, hy, hS2⟩ := hS.row_ext (A := A) (n := l.length) (c := c) 1 (by omega) (hAne (by omega)); replace hS := hS2; clear hS2)) | ((obtain ⟨q, hq⟩ := subA_some (i + 1) c 4 (hAne (by omega)); refine qov (p := ⟨g1, 0, none⟩) (q := q) hE (Sep.rows_apart (A := some ⟨g1, 0, none⟩) (B := A) (m := 1) (c := c1) (m2 := l.length + 1) (c2 := c) (e := 80) (e' := 80) (sz := 4) (sz' := 4) (xs := x.cells) (ys := l.flatMap En.cells ++ ys) (L := L) hS.fit (by omega) (i + 1) _ _ rfl hq) ?_ (hy := by rw [← hq]; rfl); clear hE; clear a; intro a hE)) | ((first | refine qsL i hE ?_ | refine qsL (i + 1) hE ?_ | refine qssh hE ?_); clear hE a; intro a hE)); refine rg_k hK hS ?_; clear hK hX; clear K; intro hX)); all_goals (first | (refine rg_e 8 hE rfl rfl (by kernel_rfl) ?_; intro K hK; (first | ((refine qcp (sz := 4) (m := 1) (dl := l.length + 1 - i) i 1 (A := some ⟨g, 0, none⟩) (c := c3) (N := l.length + 1) hE hS (Rd.row (A := some ⟨g1, 0, none⟩) (n := 1) (c := c1) (xs := x.cells) hS) (fun u hu => hx1 u (List.mem_of_mem_take hu)) ?_ rfl (by decide) (by decide) (by omega) (by omega) (by omega) (put_new l i x (by omega)); clear hE hS; clear a; intro a w hE hS)) | ((refine qcp (sz := 4) (m := l.length - i) (dl := l.length + 1 - (i + 1)) (i + 1) (l.length - i) (A := some ⟨g, 0, none⟩) (c := c3) (N := l.length + 1) hE hS ((Rd.row (A := A) (n := l.length) (c := c) (xs := l.flatMap En.cells) hS).sub (flat_len elen l) i hi hc1) (fun u hu => en_one l u (List.mem_of_mem_drop (List.mem_of_mem_take hu))) ?_ (by rw [List.length_drop, flat_len elen, Nat.sub_mul]) (by decide) (by omega) (by omega) (by omega) (by omega) (put_rest l i x (by omega)); clear hE hS; clear a; intro a w hE hS)) | ((obtain ⟨q, hq⟩ := subA_some (i + 1) c 4 (hAne (by omega)); refine qov (p := ⟨g1, 0, none⟩) (q := q) hE (Sep.rows_apart (A := some ⟨g1, 0, none⟩) (B := A) (m := 1) (c := c1) (m2 := l.length + 1) (c2 := c) (e := 80) (e' := 80) (sz := 4) (sz' := 4) (xs := x.cells) (ys := l.flatMap En.cells ++ ys) (L := L) hS.fit (by omega) (i + 1) _ _ rfl hq) ?_ (hy := by rw [← hq]; rfl); clear hE; clear a; intro a hE)) | ((refine qcp (sz := 4) (m := l.length + 1 - i) (dl := l.length + 1 - (i + 1)) (i + 1) (l.length - i) (A := A) (c := c) (N := l.length + 1) (ys := (l.take (i + 1) ++ l.drop i).flatMap En.cells) hE hS ((Rd.row (A := A) (n := l.length + 1) (c := c) (xs := l.flatMap En.cells ++ ys) hS).sub (n := l.length + 1) (cap := c) (by rw [List.length_append, flat_len elen, hy, Nat.add_mul]) i (by omega) (by omega)) (fun u hu => en_one (l.drop i) u (by rw [shift_src l i ys (by omega)] at hu; exact hu)) ?_ (by rw [List.length_drop, List.length_append, flat_len elen, hy]; omega) (by decide) (by omega) (by omega) (by omega) (by omega) (by rw [shift_src l i ys (by omega)]; exact put_shift l i ys (by omega) hy); clear hE hS; clear a; intro a w hE hS)) | ((refine qcp (sz := 4) (m := 1) (dl := l.length + 1 - i) i 1 (A := A) (c := c) (N := l.length + 1) (xs := (l.take (i + 1) ++ l.drop i).flatMap En.cells) hE hS (Rd.row (A := some ⟨g1, 0, none⟩) (n := 1) (c := c1) (xs := x.cells) hS) (fun u hu => hx1 u (List.mem_of_mem_take hu)) ?_ rfl (by decide) (by decide) (by omega) (by omega) (by omega) (put_one l i x (by omega)); clear hE hS; clear a; intro a w hE hS)) | ((first | refine qmin hE ?_ | refine qmax hE ?_); clear hE a; intro a hE)); refine rg_k hK hS ?_; clear hK hX; clear K; intro hX)); all_goals (refine rg_done ?_ (by kernel_rfl); (try clear hX))))) | ((refine c_cond hE rfl ?_ ?_) <;> (intro hb; (first | replace hb := of_decide_eq_true hb | replace hb := of_decide_eq_false hb | (simp only [Bool.not_eq_true', Bool.not_eq_false', decide_eq_true_eq, decide_eq_false_iff_not] at hb) | skip); try (exfalso; first | omega | exact absurd trivial hb | exact absurd rfl hb | (simp only [beq_self_eq_true, bne_self_eq_false, reduceCtorEq] at hb; done)))))
  · have e : l.flatMap En.cells ++ x.cells = (insAt l i x).flatMap En.cells := by
      rw [show i = l.length by omega, insAt_end, List.flatMap_append]
      simp
    rw [e] at hS
    exact p_ret hE rfl rfl ⟨_, rfl, _, _, rfl, hS.fit⟩
  all_goals try exact p_ret hE rfl rfl ⟨_, rfl, _, _, rfl, hS.fit⟩
end Go.Proofs.Ytdaciolahgfhiaa
/- DERIVED. Layer 10: a table's heap; one put in. No condition. -/
namespace Go.Proofs.Ytdaciolahgfhiaa
open Go.RowKit Go.Sx Go.Proofs.YtdaciolahgfhiaaTy
set_option linter.unusedVariables false
set_option linter.unusedSimpArgs false
set_option maxRecDepth 100000
attribute [local irreducible] Oper.wp Code.wp wpList wpAnyH Calls bodyPost Exit.then Exit.inBlock Code.rounds
set_option maxHeartbeats 1000000
def KeyV : Value := .func (.func 45) #[] #[]
/-- What a table owns: its block, and its row. -/
def Ag (g : Nat) (l : List En) (room life : Int) : Asn := ex fun (p : Option Addr × Nat) => stars [blk g [.slice p.1 l.length p.2, .func (.func 45) #[] #[], .int .i64 room, .int .i64 life] 101, row 80 4 (.slice p.1 l.length p.2) l.length (l.flatMap En.cells)]
theorem Ag.out {g : Nat} {l : List En} {room life : Int} {w0 w : World} {L L' : List Asn} (hS : Sep w0 w L) (hp : Pull (Ag g l room life) L L' := by repeat (first | exact Pull.here | apply Pull.there)) : ∃ A c, Sep w0 w (blk g [.slice A l.length c, .func (.func 45) #[] #[], .int .i64 room, .int .i64 life] 101 :: row 80 4 (.slice A l.length c) l.length (l.flatMap En.cells) :: L') := by
  obtain ⟨⟨A, c⟩, h⟩ := hS.out_ex hp
  exact ⟨A, c, h.out_stars Pull.here⟩
theorem Ag.in_ {g : Nat} {l : List En} {room life : Int} {A : Option Addr} {c : Nat} {w0 w : World} {L : List Asn} (hS : Sep w0 w (blk g [.slice A l.length c, .func (.func 45) #[] #[], .int .i64 room, .int .i64 life] 101 :: row 80 4 (.slice A l.length c) l.length (l.flatMap En.cells) :: L)) : Sep w0 w (Ag g l room life :: L) :=
  Sep.in_ex (f := fun (p : Option Addr × Nat) => stars [blk g [.slice p.1 l.length p.2, .func (.func 45) #[] #[], .int .i64 room, .int .i64 life] 101, row 80 4 (.slice p.1 l.length p.2) l.length (l.flatMap En.cells)]) (A, c) (Sep.in_stars (M := [_, _]) hS)
theorem At.tail {w : World} {g o : Nat} {x : Value} {xs : List Value} (h : At w ⟨g, o, none⟩ (x :: xs)) : At w ⟨g, o + 1, none⟩ xs := fun j v hj => by
  have := h (j + 1) v (by simpa using hj)
  have e : (⟨g, o, none⟩ : Addr).add (j + 1) = (⟨g, o + 1, none⟩ : Addr).add j := by
    unfold Addr.add
    split <;> split <;> simp only [Addr.mk.injEq, and_true, true_and] <;> omega
  rwa [e] at this
theorem At.head {w : World} {ad : Addr} {x : Value} {xs : List Value} (h : At w ad (x :: xs)) : At w ad [x] := At.pre (xs := [x]) (ys := xs) h
theorem find_t (A : Option Addr) (c g : Nat) (l : List En) (key : Int) (rest : List Value) (w0 : World) (hT : At w0 ⟨g, 0, none⟩ (.slice A l.length c :: .func (.func 45) #[] #[] :: rest)) (hR : Rd w0 A (l.flatMap En.cells)) (hl : l.length ≤ 1073741824) (hs : Rising l) :
    Calls Try.prog 48 #[.pointer (some ⟨g, 0, none⟩), .int .u64 key] w0 fun e w' => ∃ r, e = .returned r ∧ (∃ i : Int, r = .tuple #[.int .i64 i, .bool (decide (i < l.length ∧ (l.getD i.toNat E0).k = key))] ∧ At1 l key i) ∧ Sep w0 w' [] :=
  find_s A c g l key w0 (At.head hT) (At.head (At.tail hT)) hR hl hs
theorem insert_j (A : Option Addr) (c : Nat) (l : List En) (j : Int) (x : En) (g1 c1 : Nat) (u0 w0 : World) (L : List Asn) (hj : 0 ≤ j) (hi : j ≤ l.length) (hl : l.length ≤ 1073741822)
    (hS0 : Sep u0 w0 (row 80 4 (.slice (some ⟨g1, 0, none⟩) 1 c1) 1 x.cells :: row 80 4 (.slice A l.length c) l.length (l.flatMap En.cells) :: L)) :
    Calls Try.prog 76 #[.slice A l.length c, .int .i64 j, .slice (some ⟨g1, 0, none⟩) 1 c1] w0 fun e w' => ∃ r, e = .returned r ∧ ∃ A' c', r = .slice A' (l.length + 1) c' ∧ Sep u0 w' (row 80 4 (.slice A' (l.length + 1) c') (l.length + 1) ((insAt l j.toNat x).flatMap En.cells) :: L) := by
  have := insert_s A c l j.toNat x g1 c1 u0 w0 L (by omega) hl hS0
  rw [Int.toNat_of_nonneg hj] at this
  exact this
theorem insAt_len (l : List En) (i : Nat) (x : En) (h : i ≤ l.length) : (insAt l i x).length = l.length + 1 := by
  simp only [insAt, List.length_append, List.length_take, List.length_singleton, List.length_drop]
  omega
/-- One put in its place, in a list by rising keys. -/
def putAt (l : List En) (i : Int) (x : En) : List En := if i < l.length ∧ (l.getD i.toNat E0).k = x.k then l.set i.toNat x else insAt l i.toNat x
theorem oput_s (g : Nat) (l : List En) (room life : Int) (x : En) (u0 w0 : World) (L : List Asn) (hS0 : Sep u0 w0 (Ag g l room life :: L)) (hl : l.length ≤ 1073741822) (hs : Rising l) : Calls Try.prog 55 #[.pointer (some ⟨g, 0, none⟩), .agg x.cells.toArray] w0 fun e w' => ∃ r, e = .returned r ∧ r = .tuple #[] ∧ ∃ i, At1 l x.k i ∧ Sep u0 w' (Ag g (putAt l i x) room life :: L) := by
  refine enter (args := [.pointer (some ⟨g, 0, none⟩), .agg x.cells.toArray]) 36 Try.func55 rfl rfl rfl ?_
  intro a hE _
  obtain ⟨A, c, hS⟩ := Ag.out hS0
  clear hS0
  obtain ⟨hc1, hc2, _⟩ := hS.drop.row_cap
  have hA : (0 : Int) < l.length → A = some (adr A) := fun h => (Rd.row (A := A) (n := l.length) (c := c) (xs := l.flatMap En.cells) hS).some (by rw [flat_len elen]; omega)
  obtain ⟨g0, hg0⟩ : ∃ g0, g0 = g := ⟨_, rfl⟩
  rw [← hg0] at hE hS
  revert hE
  revert hS
  generalize w0 = w
  intro hS hE
  repeat' (first | refine wl_nil ?_ | refine then_n ?_ | refine c_block ?_ | refine c_skip ?_ | refine c_exit ?_ | refine c_ret ?_ | refine then_r ?_ | refine then_e ?_ | refine inb_n ?_ | refine inb_r ?_ | refine inb_e ?_ | refine inb_o rfl ?_ | refine c_cond_t hE rfl ?_ | refine c_cond_f hE rfl ?_ | refine c_rnd ?_ | (refine c_midr (id := 1) (I := fun a w => ∃ i : Int, At1 l x.k i ∧ ∃ g, Env a 36 [(0, .pointer (some ⟨g0, 0, none⟩)), (3, .pointer (some ⟨g, 0, none⟩)), (4, .int .i64 i), (5, .bool (decide (i < l.length ∧ (l.getD i.toNat E0).k = x.k)))] ∧ Sep u0 w (blk g x.cells 80 :: blk g0 [.slice A l.length c, .func (.func 45) #[] #[], .int .i64 room, .int .i64 life] 101 :: row 80 4 (.slice A l.length c) l.length (l.flatMap En.cells) :: L)) ?_ ?_; rotate_left; clear hE hS; clear a w g; rintro a w ⟨i, hi, g, hE, hS⟩; have hi0 := hi.1; have hi1 := hi.2.1) | (refine c_regI 0 ?_; all_goals (refine wl hE rfl ?_; (first | refine qbx hE hS ?_); clear hE hS; clear a; intro g a w hE hS)) | (refine c_regI 2 ?_; all_goals (refine wl hE rfl ?_; refine qm hE ?_; clear hE a; intro a hE)) | refine c_seq ?_ | (refine rg_guard 1 ?_; refine rg_start [0, 3] hE hS ?_; clear hS; (try clear w); intro w hS hX; all_goals (first | (refine rg_y 0 hE hX (by first | exact y_move | exact y_index hA) ?_ rfl rfl rfl rfl; clear hE a; intro a hE)); all_goals (first | (refine rg_y 1 hE hX (by first | exact y_move | exact y_index hA) ?_ rfl rfl rfl rfl; clear hE a; intro a hE)); all_goals (first | (refine rg_y 2 hE hX (by first | exact y_nil | exact y_index hA) ?_ rfl rfl rfl rfl; clear hE a; intro a hE)); all_goals (first | (refine rg_y 3 hE hX (by first | exact y_fieldFF | exact y_field | exact y_fieldF | exact y_index hA) ?_ rfl rfl rfl rfl; clear hE a; intro a hE)); all_goals (first | (refine rg_y 4 hE hX (by first | exact y_load | exact y_loadA | exact y_index hA) ?_ rfl rfl rfl rfl; clear hE a; intro a hE)); all_goals (first | (refine rg_y 5 hE hX (by first | exact y_load | exact y_loadA | exact y_index hA) ?_ rfl rfl rfl rfl; clear hE a; intro a hE)); all_goals (first | (refine rg_e 6 hE rfl rfl (by kernel_rfl) ?_; intro K hK; (first | ((refine qcF (vs := [.agg x.cells.toArray]) (cs := []) hE (key_s x _) ?_; clear hE; clear a; rintro _ a w ⟨rfl, hS1⟩ hE; replace hS := hS.then hS1; clear hS1)) | ((first | refine qmin hE ?_ | refine qmax hE ?_); clear hE a; intro a hE)); refine rg_k hK hS ?_; clear hK hX; clear K; intro hX)); all_goals (first | (refine rg_e 7 hE rfl rfl (by kernel_rfl) ?_; intro K hK; (first | ((refine is_call 48 rfl ?_; refine qc hE (find_t A c g0 l x.k _ _ (blk_At hS) (Rd.row (A := A) (n := l.length) (c := c) (xs := l.flatMap En.cells) hS) (by omega) hs) ?_; clear hE; clear a; rintro _ a w ⟨⟨i, rfl, hi⟩, hS1⟩ hE; replace hS := hS.then hS1; clear hS1))); refine rg_k hK hS ?_; clear hK hX; clear K; intro hX)); all_goals (first | (refine rg_y 8 hE hX (by first | exact y_move | exact y_index hA) ?_ rfl rfl rfl rfl; clear hE a; intro a hE)); all_goals (first | (refine rg_y 9 hE hX (by first | exact y_extract | exact y_index hA) ?_ rfl rfl rfl rfl; clear hE a; intro a hE)); all_goals (first | (refine rg_y 10 hE hX (by first | exact y_extract | exact y_index hA) ?_ rfl rfl rfl rfl; clear hE a; intro a hE)); all_goals (first | (refine rg_y 11 hE hX (by first | exact y_assign | exact y_index hA) ?_ rfl rfl rfl rfl; clear hE a; intro a hE)); all_goals (first | (refine rg_y 12 hE hX (by first | exact y_assign | exact y_index hA) ?_ rfl rfl rfl rfl; clear hE a; intro a hE)); all_goals (refine rg_done ?_ (by kernel_rfl); (try clear hX))) | (refine rg_guard 3 ?_; refine rl_start 7 [0, 3] hE hS ?_; clear hS; (try clear w); intro w hS hX; all_goals (first | (refine rl_y 0 hE hX (by first | exact y_move | exact y_index hA) ?_ rfl rfl rfl rfl; clear hE a; intro a hE)); all_goals (first | (refine rl_y 1 hE hX (by first | exact y_nil | exact y_index hA) ?_ rfl rfl rfl rfl; clear hE a; intro a hE)); all_goals (first | (refine rl_y 2 hE hX (by first | exact y_fieldFF | exact y_field | exact y_fieldF | exact y_index hA) ?_ rfl rfl rfl rfl; clear hE a; intro a hE)); all_goals (first | (refine rl_y 3 hE hX (by first | exact y_load | exact y_loadA | exact y_index hA) ?_ rfl rfl rfl rfl; clear hE a; intro a hE)); all_goals (first | (refine rl_y 4 hE hX (by first | exact y_move | exact y_index hA) ?_ rfl rfl rfl rfl; clear hE a; intro a hE)); all_goals (first | (refine rl_y 5 hE hX (by first | exact y_load | exact y_loadA | exact y_index hA) ?_ rfl rfl rfl rfl; clear hE a; intro a hE)); all_goals (first | (refine rl_y 6 hE hX (by first | exact y_ia | exact y_index hA) ?_ rfl rfl rfl rfl; clear hE a; intro a hE)); all_goals (first | (refine rl_z (z := 7) hE rfl rfl (by kernel_rfl) ?_; intro K hK; (first | ((refine qsR (df := E0) (off := 0) (v := .agg x.cells.toArray) (l := l) (i := i) x hE hS elen rfl ?_; clear hS; intro w hS)) | ((first | refine qst0 hE hS ?_ | refine qst hE hS ?_); clear hS; intro w hS)); refine hK _ _ ?_; clear hK; clear K)); all_goals (refine rl_done ?_ (by kernel_rfl); (try clear hX))) | (refine rg_guard 4 ?_; refine rl_start 11 [0, 3] hE hS ?_; clear hS; (try clear w); intro w hS hX; all_goals (first | (refine rl_y 0 hE hX (by first | exact y_move | exact y_index hA) ?_ rfl rfl rfl rfl; clear hE a; intro a hE)); all_goals (first | (refine rl_y 1 hE hX (by first | exact y_move | exact y_index hA) ?_ rfl rfl rfl rfl; clear hE a; intro a hE)); all_goals (first | (refine rl_y 2 hE hX (by first | exact y_nil | exact y_index hA) ?_ rfl rfl rfl rfl; clear hE a; intro a hE)); all_goals (first | (refine rl_y 3 hE hX (by first | exact y_fieldFF | exact y_field | exact y_fieldF | exact y_index hA) ?_ rfl rfl rfl rfl; clear hE a; intro a hE)); all_goals (first | (refine rl_y 4 hE hX (by first | exact y_load | exact y_loadA | exact y_index hA) ?_ rfl rfl rfl rfl; clear hE a; intro a hE)); all_goals (first | (refine rl_y 5 hE hX (by first | exact y_move | exact y_index hA) ?_ rfl rfl rfl rfl; clear hE a; intro a hE)); all_goals (first | (refine rl_y 6 hE hX (by first | exact y_load | exact y_loadA | exact y_index hA) ?_ rfl rfl rfl rfl; clear hE a; intro a hE)); all_goals (first | (refine rl_e 7 hE rfl rfl (by kernel_rfl) ?_; intro K hK; (first | ((first | refine qbs1 hE hS ?_ | refine qbs hE hS ?_ | refine qbs0 hE hS ?_); clear hE hS; clear a; intro g a w hE hS)); refine rl_k hK hS ?_; clear hK hX; clear K; intro hX)); all_goals (first | (refine rl_e 8 hE rfl rfl (by kernel_rfl) ?_; intro K hK; (first | ((refine is_call 76 rfl ?_; refine qc hE (insert_j A c l i x g 1 u0 _ _ hi0 hi1 hl hS.fit) ?_; clear hE hS; clear a; rintro _ a w ⟨A2, c2, rfl, hS⟩ hE))); refine rl_k hK hS ?_; clear hK hX; clear K; intro hX)); all_goals (first | (refine rl_e 9 hE rfl rfl (by kernel_rfl) ?_; intro K hK; (first | ((first | refine qn hE ?_ | refine qnf hE ?_); clear hE a; intro a hE)); refine rl_k hK hS ?_; clear hK hX; clear K; intro hX)); all_goals (first | (refine rl_y 10 hE hX (by first | exact y_fieldFF | exact y_field | exact y_fieldF | exact y_index hA) ?_ rfl rfl rfl rfl; clear hE a; intro a hE)); all_goals (first | (refine rl_z (z := 11) hE rfl rfl (by kernel_rfl) ?_; intro K hK; (first | ((refine qsR (df := E0) (off := 0) (v := .agg x.cells.toArray) (l := l) (i := i) x hE hS elen rfl ?_; clear hS; intro w hS)) | ((first | refine qst0 hE hS ?_ | refine qst hE hS ?_); clear hS; intro w hS)); refine hK _ _ ?_; clear hK; clear K)); all_goals (refine rl_done ?_ (by kernel_rfl); (try clear hX))) | ((refine c_cond hE rfl ?_ ?_) <;> (intro hb; (first | replace hb := of_decide_eq_true hb | replace hb := of_decide_eq_false hb | (simp only [Bool.not_eq_true', Bool.not_eq_false', decide_eq_true_eq, decide_eq_false_iff_not] at hb) | skip); try (exfalso; first | omega | exact absurd trivial hb | exact absurd rfl hb | (simp only [beq_self_eq_true, bne_self_eq_false, reduceCtorEq] at hb; done)))))
  all_goals subst hg0
  · refine p_none hE rfl ⟨_, rfl, rfl, i, hi, ?_⟩
    have e : (putAt l i x) = l.set i.toNat x := by unfold putAt; rw [if_pos hb]
    rw [e]
    have h2 : l.length = (l.set i.toNat x).length := by simp
    refine Ag.in_ (A := A) (c := c) ?_
    rw [← h2]
    exact hS.fit
  · refine p_end hE rfl ⟨_, rfl, rfl, i, hi, ?_⟩
    have e : (putAt l i x) = insAt l i.toNat x := by unfold putAt; rw [if_neg hb]
    rw [e]
    have h2 : (insAt l i.toNat x).length = l.length + 1 := insAt_len l _ x (by omega)
    refine Ag.in_ (A := A2) (c := c2) ?_
    rw [h2]
    exact hS.fit
  · exact ⟨i, hi, _, hE.cut ⟨rfl, rfl, rfl, rfl, trivial⟩, hS⟩
end Go.Proofs.Ytdaciolahgfhiaa
/- DERIVED. Layer 10: the first that is so; without those that are so. No condition. -/
namespace Go.Proofs.Ytdaciolahgfhiaa
open Go.RowKit Go.Sx Go.Proofs.YtdaciolahgfhiaaTy
set_option linter.unusedVariables false
set_option linter.unusedSimpArgs false
set_option maxRecDepth 100000
attribute [local irreducible] Oper.wp Code.wp wpList wpAnyH Calls bodyPost Exit.then Exit.inBlock Code.rounds
set_option maxHeartbeats 1000000
/-- A function value that tells of each entry of some what p tells. -/
def Tells (f : FuncId) (cs : List Value) (l : List En) (p : En → Bool) (w0 : World) : Prop := ∀ x ∈ l, ∀ w L, Sep w0 w L → Calls Try.prog f (.agg x.cells.toArray :: cs).toArray w fun e w' => ∃ r, e = .returned r ∧ r = .bool (p x) ∧ Sep w w' []
theorem Tells.move {f : FuncId} {cs : List Value} {l : List En} {p : En → Bool} {w0 w : World} {L : List Asn} (h : Tells f cs l p w0) (hS : Sep w0 w L) : Tells f cs l p w := fun x hx w' L' h' => h x hx w' [] (hS.clean.same ⟨h'.below.os, h'.below.tape, h'.below.output, h'.below.size, h'.below.block⟩)
def FoundAt (l : List En) (p : En → Bool) (k : Int) : Prop := (∃ i : Nat, k = i ∧ i < l.length ∧ (∀ y ∈ l.take i, p y = false) ∧ p (l.getD i E0) = true) ∨ (k = -1 ∧ ∀ y ∈ l, p y = false)
theorem FoundAt.rng {l : List En} {p : En → Bool} {k : Int} (h : FoundAt l p k) : k = -1 ∨ (0 ≤ k ∧ k < l.length) := by
  rcases h with ⟨i, h1, h2, _⟩ | ⟨h, _⟩ <;> omega
theorem getD_memE {l : List En} {i : Nat} (h : i < l.length) : l.getD i E0 ∈ l := by simp [h]
theorem take_no {l : List En} {p : En → Bool} {i : Int} (h0 : 0 ≤ i) (h1 : i < (l.length : Int)) (hx : ∀ y ∈ l.take i.toNat, p y = false) (hne : p (l.getD i.toNat E0) = false) : ∀ y ∈ l.take (i + 1).toNat, p y = false := by
  intro y hy
  have hlt : i.toNat < l.length := by omega
  rw [show (i + 1).toNat = i.toNat + 1 by omega, List.take_succ_eq_append_getElem hlt] at hy
  rcases List.mem_append.1 hy with h | h
  · exact hx y h
  · simp at h; subst h; simpa [hlt] using hne
theorem indexF_s (A : Option Addr) (c : Nat) (l : List En) (f : FuncId) [FnTy Try.prog f] (cs : List Value) (p : En → Bool) (w0 : World) (hR : Rd w0 A (l.flatMap En.cells)) (hl : l.length ≤ 9223372036854775806) (hp : Tells f cs l p w0) :
    Calls Try.prog 93 #[.slice A l.length c, .func (.func f) #[] cs.toArray] w0 fun e w' => ∃ r, e = .returned r ∧ (∃ k : Int, r = .int .i64 k ∧ FoundAt l p k) ∧ Sep w0 w' [] := by
  have hA : (0 : Int) < l.length → A = some (adr A) := fun h => hR.some (by rw [flat_len elen]; omega)
  have hT := hR.at_
  refine enter (args := [.slice A l.length c, .func (.func f) #[] cs.toArray]) 19 Try.func93 rfl rfl rfl ?_
  intro a hE hS
  repeat' (first | refine wl_nil ?_ | refine then_n ?_ | refine c_block ?_ | refine c_skip ?_ | refine c_exit ?_ | refine c_ret ?_ | refine then_r ?_ | refine then_e ?_ | refine inb_n ?_ | refine inb_r ?_ | refine inb_e ?_ | refine inb_o rfl ?_ | refine c_cond_t hE rfl ?_ | refine c_cond_f hE rfl ?_ | refine c_rnd ?_ | (refine c_regI 0 ?_; all_goals (refine wl hE rfl ?_; refine qa hE ?_; clear hE a; intro a hE)) | (refine c_regI 1 ?_; all_goals (refine wl hE rfl ?_; refine qm hE ?_; clear hE a; intro a hE); all_goals (refine wl hE rfl ?_; (first | refine qn1 hE ?_ | refine qns hE ?_); clear hE a; intro a hE); all_goals (refine wl hE rfl ?_; refine qm hE ?_; clear hE a; intro a hE)) | refine c_seq ?_ | ((refine c_cond hE rfl ?_ ?_) <;> (intro hb; (first | replace hb := of_decide_eq_true hb | replace hb := of_decide_eq_false hb | (simp only [Bool.not_eq_true', Bool.not_eq_false', decide_eq_true_eq, decide_eq_false_iff_not] at hb) | skip); try (exfalso; first | omega | exact absurd trivial hb | exact absurd rfl hb | (simp only [beq_self_eq_true, bne_self_eq_false, reduceCtorEq] at hb; done)))))
  refine c_loopN (fun m a w => ∃ i : Int, 0 ≤ i ∧ i ≤ l.length ∧ m = (l.length - i).toNat ∧ (∀ y ∈ l.take i.toNat, p y = false) ∧ Env a 19 [(0, .slice A l.length c), (1, .func (.func f) #[] cs.toArray), (7, .int .i64 l.length), (8, .int .i64 i)] ∧ Sep w0 w []) _ ⟨0, by omega, by omega, rfl, by simp, hE.cut ⟨rfl, rfl, rfl, rfl, trivial⟩, hS⟩ ?_
  clear hE hS a
  rintro m a w ⟨i, h0, h1, rfl, hx, hE, hS⟩
  obtain ⟨x, hxd⟩ : ∃ x, l.getD i.toNat E0 = x := ⟨_, rfl⟩
  have hxm : ∀ _ : Unit, i < l.length → x ∈ l := fun _ h => hxd ▸ getD_memE (by omega)
  repeat' (first | refine wl_nil ?_ | refine then_n ?_ | refine c_block ?_ | refine c_skip ?_ | refine c_exit ?_ | refine c_ret ?_ | refine then_r ?_ | refine then_e ?_ | refine inb_n ?_ | refine inb_r ?_ | refine inb_e ?_ | refine inb_o rfl ?_ | refine c_cond_t hE rfl ?_ | refine c_cond_f hE rfl ?_ | refine c_rnd ?_ | (refine c_regI 2 ?_; all_goals (refine wl hE rfl ?_; (first | refine qb hE ?_ | refine qb2 hE ?_ | refine qbE hE ?_ | refine qbN hE ?_ | refine qpn hE ?_); clear hE a; intro a hE)) | (refine c_regI 3 ?_; all_goals (refine wl hE rfl ?_; refine qm hE ?_; clear hE a; intro a hE); all_goals (refine wl hE rfl ?_; refine qa hE ?_; clear hE a; intro a hE)) | (refine c_regI 4 ?_; all_goals (refine wl hE rfl ?_; refine qm hE ?_; clear hE a; intro a hE); all_goals (refine wl hE rfl ?_; refine qm hE ?_; clear hE a; intro a hE); all_goals (refine wl hE rfl ?_; refine qm hE ?_; clear hE a; intro a hE); all_goals (refine wl hE rfl ?_; (first | refine qi hE hA ?_ | refine qi hE (fun _ => rfl) ?_ | refine qia hE ?_); clear hE a; intro a hE); all_goals (refine wl hE rfl ?_; (first | refine qLs (i := i) (us := x.cells) (df := E0) hE hS elen hT (by rw [hxd]) ?_ | refine ql hE hS ?_ | refine qL hE hS ?_ | refine qlr hE hS ?_); clear hE a; intro a hE); all_goals (refine wl hE rfl ?_; first | ((refine qcF (vs := [.agg x.cells.toArray]) hE (hp x (hxm () (by omega)) _ _ hS) ?_; clear hE; clear a; rintro _ a w ⟨rfl, hS1⟩ hE; replace hS := hS.then hS1; clear hS1)) | ((first | refine qmin hE ?_ | refine qmax hE ?_); clear hE a; intro a hE))) | (refine c_regI 5 ?_; all_goals (refine wl hE rfl ?_; refine qm hE ?_; clear hE a; intro a hE); all_goals (refine wl hE rfl ?_; refine qa hE ?_; clear hE a; intro a hE)) | (refine c_regI 6 ?_; all_goals (refine wl hE rfl ?_; (first | refine qb hE ?_ | refine qb2 hE ?_ | refine qbE hE ?_ | refine qbN hE ?_ | refine qpn hE ?_); clear hE a; intro a hE); all_goals (refine wl hE rfl ?_; refine qm hE ?_; clear hE a; intro a hE)) | (refine c_regI 7 ?_; all_goals (refine wl hE rfl ?_; refine qa hE ?_; clear hE a; intro a hE)) | refine c_seq ?_ | ((refine c_cond hE rfl ?_ ?_) <;> (intro hb; (first | replace hb := of_decide_eq_true hb | replace hb := of_decide_eq_false hb | (simp only [Bool.not_eq_true', Bool.not_eq_false', decide_eq_true_eq, decide_eq_false_iff_not] at hb) | skip); try (exfalso; first | omega | exact absurd trivial hb | exact absurd rfl hb | (simp only [beq_self_eq_true, bne_self_eq_false, reduceCtorEq] at hb; done)))))
  · exact p_ret hE rfl rfl ⟨_, rfl, ⟨_, rfl, .inl ⟨i.toNat, by omega, by omega, hx, by rw [hxd]; exact hb⟩⟩, hS⟩
  · exact ⟨_, by omega, i + 1, by omega, by omega, rfl, take_no h0 (by assumption) hx (by rw [hxd]; exact hb), hE.cut ⟨rfl, rfl, rfl, rfl, trivial⟩, hS⟩
  · exact p_ret hE rfl rfl ⟨_, rfl, ⟨_, rfl, .inr ⟨rfl, by rwa [List.take_of_length_le (by omega)] at hx⟩⟩, hS⟩
/-- The walk's list: what is kept of those seen so far, ahead; those not yet seen, as they were. -/
structure Kept (l : List En) (p : En → Bool) (l2 : List En) (i j : Int) : Prop where
  h0 : 0 ≤ i
  h1 : i < j
  h2 : j ≤ l.length
  hl : l2.length = l.length
  ht : l2.take i.toNat = (l.take j.toNat).filter fun x => !p x
  hd : l2.drop j.toNat = l.drop j.toNat
theorem Kept.start {l : List En} {p : En → Bool} {i : Nat} (h : i < l.length) (hn : ∀ y ∈ l.take i, p y = false) (hp : p (l.getD i E0) = true) : Kept l p l i (i + 1) := by
  refine ⟨by omega, by omega, by omega, rfl, ?_, rfl⟩
  have e : l.getD i E0 = l[i] := by simp [h]
  rw [e] at hp
  rw [show ((i : Int) + 1).toNat = i + 1 by omega, List.take_succ_eq_append_getElem h, List.filter_append, show ((i : Int)).toNat = i by omega]
  have h1 : (l.take i).filter (fun x => !p x) = l.take i := List.filter_eq_self.2 fun y hy => by rw [hn y hy]; rfl
  rw [h1]
  simp [hp]
theorem Kept.get {l l2 : List En} {p : En → Bool} {i j : Int} (h : Kept l p l2 i j) (hj : j < l.length) : l2.getD j.toNat E0 = l.getD j.toNat E0 := by
  have e := congrArg (fun q => q[0]?) h.hd
  simp only [List.getElem?_drop, Nat.add_zero] at e
  simp [e]
theorem Kept.skip {l l2 : List En} {p : En → Bool} {i j : Int} (h : Kept l p l2 i j) (hj : j < l.length) (hp : p (l.getD j.toNat E0) = true) : Kept l p l2 i (j + 1) := by
  have h0 := h.h0
  have h1 := h.h1
  have hjl : j.toNat < l.length := by omega
  have hjl2 : j.toNat < l2.length := by rw [h.hl]; exact hjl
  refine ⟨h0, by omega, by omega, h.hl, ?_, ?_⟩
  · have e : l.getD j.toNat E0 = l[j.toNat] := by simp [hjl]
    rw [e] at hp
    rw [show (j + 1).toNat = j.toNat + 1 by omega, List.take_succ_eq_append_getElem hjl, List.filter_append, ← h.ht]
    simp [hp]
  · rw [show (j + 1).toNat = j.toNat + 1 by omega, ← List.drop_drop, ← List.drop_drop, h.hd]
theorem Kept.keep {l l2 : List En} {p : En → Bool} {i j : Int} (h : Kept l p l2 i j) (hj : j < l.length) (hp : p (l.getD j.toNat E0) = false) : Kept l p (l2.set i.toNat (l.getD j.toNat E0)) (i + 1) (j + 1) := by
  have h0 := h.h0
  have h1 := h.h1
  have hjl : j.toNat < l.length := by omega
  have hil2 : i.toNat < l2.length := by rw [h.hl]; omega
  have e : l.getD j.toNat E0 = l[j.toNat] := by simp [hjl]
  rw [e] at hp ⊢
  refine ⟨by omega, by omega, by omega, by simp [h.hl], ?_, ?_⟩
  · rw [show (j + 1).toNat = j.toNat + 1 by omega, show (i + 1).toNat = i.toNat + 1 by omega, List.take_succ_eq_append_getElem hjl, List.filter_append, ← h.ht, List.take_succ_eq_append_getElem (by simpa using hil2), List.take_set_of_le (Nat.le_refl _)]
    simp [hp]
  · rw [show (j + 1).toNat = j.toNat + 1 by omega, List.drop_set_of_lt (by omega), ← List.drop_drop, ← List.drop_drop, h.hd]
theorem kept_end (l2 : List En) (i : Nat) (h : i ≤ l2.length) : (putL (l2.flatMap En.cells) (i * 4) (List.replicate (l2.length - i) [Value.int .u64 0, .int .u64 0, .int .i64 0, .bool false]).flatten).take (i * 4) = (l2.take i).flatMap En.cells := by
  have h1 : (l2.flatMap En.cells).length = l2.length * 4 := flat_len elen l2
  unfold putL
  rw [List.append_assoc, List.take_append_of_le_length (by rw [List.length_take, h1]; omega), List.take_take, Nat.min_self, flat_take elen l2 i h]
theorem deleteF_s (A : Option Addr) (c : Nat) (l : List En) (f : FuncId) [FnTy Try.prog f] (cs : List Value) (p : En → Bool) (u0 w0 : World) (L : List Asn) (hS0 : Sep u0 w0 (row 80 4 (.slice A l.length c) l.length (l.flatMap En.cells) :: L)) (hl : l.length ≤ 1073741823)
    (hp : ∀ x ∈ l, ∀ w, Sep u0 w L → Calls Try.prog f (.agg x.cells.toArray :: cs).toArray w fun e w' => ∃ r, e = .returned r ∧ r = .bool (p x) ∧ Sep w w' []) :
    Calls Try.prog 87 #[.slice A l.length c, .func (.func f) #[] cs.toArray] w0 fun e w' => ∃ r, e = .returned r ∧ ∃ m, m = (l.filter fun x => !p x).length ∧ r = .slice A m c ∧ Sep u0 w' (row 80 4 (.slice A m c) m ((l.filter fun x => !p x).flatMap En.cells) :: L) := by
  obtain ⟨hc1, hc2, _⟩ := hS0.row_cap
  have hA : (0 : Int) < l.length → A = some (adr A) := fun h => (Rd.row (A := A) (n := l.length) (c := c) (xs := l.flatMap En.cells) hS0).some (by rw [flat_len elen]; omega)
  refine enter (args := [.slice A l.length c, .func (.func f) #[] cs.toArray]) 42 Try.func87 rfl rfl rfl ?_
  intro a hE _
  have hS := hS0
  clear hS0
  revert hE
  revert hS
  generalize w0 = w
  intro hS hE
  have hT : Tells f cs l p w := fun x hx w2 L2 h2 => hp x hx w2 (hS.drop.then h2.clean)
  repeat' (first | refine wl_nil ?_ | refine then_n ?_ | refine c_block ?_ | refine c_skip ?_ | refine c_exit ?_ | refine c_ret ?_ | refine then_r ?_ | refine then_e ?_ | refine inb_n ?_ | refine inb_r ?_ | refine inb_e ?_ | refine inb_o rfl ?_ | refine c_cond_t hE rfl ?_ | refine c_cond_f hE rfl ?_ | refine c_rnd ?_ | (refine c_regI 0 ?_; all_goals (refine wl hE rfl ?_; refine qa hE ?_; clear hE a; intro a hE)) | (refine c_regI 1 ?_; all_goals (refine wl hE rfl ?_; refine qm hE ?_; clear hE a; intro a hE); all_goals (refine wl hE rfl ?_; refine qm hE ?_; clear hE a; intro a hE); all_goals (refine wl hE rfl ?_; refine is_call 93 rfl ?_; refine qc hE (indexF_s A c l f cs p _ (Rd.row (A := A) (n := l.length) (c := c) (xs := l.flatMap En.cells) hS) (by omega) hT) ?_; clear hE; clear a; rintro _ a w ⟨⟨k, rfl, hk⟩, hS1⟩ hE; replace hS := hS.then hS1; clear hS1; have hk1 := hk.rng); all_goals (refine wl hE rfl ?_; refine qa hE ?_; clear hE a; intro a hE)) | (refine c_regI 2 ?_; all_goals (refine wl hE rfl ?_; refine qm hE ?_; clear hE a; intro a hE); all_goals (refine wl hE rfl ?_; (first | refine qb hE ?_ | refine qb2 hE ?_ | refine qbE hE ?_ | refine qbN hE ?_ | refine qpn hE ?_); clear hE a; intro a hE)) | (refine c_regI 3 ?_; all_goals (refine wl hE rfl ?_; refine qm hE ?_; clear hE a; intro a hE); all_goals (refine wl hE rfl ?_; refine qa hE ?_; clear hE a; intro a hE)) | (refine c_regI 4 ?_; all_goals (refine wl hE rfl ?_; refine qm hE ?_; clear hE a; intro a hE); all_goals (refine wl hE rfl ?_; (first | refine qb hE ?_ | refine qb2 hE ?_ | refine qbE hE ?_ | refine qbN hE ?_ | refine qpn hE ?_); clear hE a; intro a hE); all_goals (refine wl hE rfl ?_; refine qa hE ?_; clear hE a; intro a hE)) | refine c_seq ?_ | ((refine c_cond hE rfl ?_ ?_) <;> (intro hb; (first | replace hb := of_decide_eq_true hb | replace hb := of_decide_eq_false hb | (simp only [Bool.not_eq_true', Bool.not_eq_false', decide_eq_true_eq, decide_eq_false_iff_not] at hb) | skip); try (exfalso; first | omega | exact absurd trivial hb | exact absurd rfl hb | (simp only [beq_self_eq_true, bne_self_eq_false, reduceCtorEq] at hb; done)))))
  · have hno : ∀ y ∈ l, p y = false := by
      rcases hk with ⟨i, h1, _⟩ | ⟨_, h⟩
      · omega
      · exact h
    have e : (l.filter fun x => !p x) = l := List.filter_eq_self.2 fun y hy => by rw [hno y hy]; rfl
    refine p_ret hE rfl rfl ⟨_, rfl, l.length, by rw [e], rfl, ?_⟩
    rw [e]
    exact hS
  · have hK : Kept l p l k (k + 1) := by
      rcases hk with ⟨i, rfl, h1, h2, h3⟩ | ⟨h, _⟩
      · exact Kept.start h1 h2 h3
      · exact absurd h hb
    refine c_loopN (fun m a w => ∃ (l2 : List En) (i j : Int), Kept l p l2 i j ∧ m = (l.length - j).toNat ∧ Env a 42 [(0, .slice A l.length c), (1, .func (.func f) #[] cs.toArray), (5, .int .i64 i), (6, .int .i64 j)] ∧ Sep u0 w (row 80 4 (.slice A l.length c) l.length (l2.flatMap En.cells) :: L)) _ ⟨l, k, k + 1, hK, rfl, hE.cut ⟨rfl, rfl, rfl, rfl, trivial⟩, hS⟩ ?_
    clear hE hS hT a hK hb hk1 hk
    clear w
    rintro m a w ⟨l2, i, j, hK, rfl, hE, hS⟩
    have h0 := hK.h0
    have h1 := hK.h1
    have h2 := hK.h2
    have hl2 := hK.hl
    obtain ⟨x, hx⟩ : ∃ x, l2.getD j.toNat E0 = x := ⟨_, rfl⟩
    have hxm : ∀ _ : Unit, j < l.length → x ∈ l := fun _ h => by rw [← hx, hK.get h]; exact getD_memE (by omega)
    repeat' (first | refine wl_nil ?_ | refine then_n ?_ | refine c_block ?_ | refine c_skip ?_ | refine c_exit ?_ | refine c_ret ?_ | refine then_r ?_ | refine then_e ?_ | refine inb_n ?_ | refine inb_r ?_ | refine inb_e ?_ | refine inb_o rfl ?_ | refine c_cond_t hE rfl ?_ | refine c_cond_f hE rfl ?_ | refine c_rnd ?_ | (refine c_regI 5 ?_; all_goals (refine wl hE rfl ?_; refine qm hE ?_; clear hE a; intro a hE); all_goals (refine wl hE rfl ?_; refine qm hE ?_; clear hE a; intro a hE); all_goals (refine wl hE rfl ?_; (first | refine qn1 hE ?_ | refine qns hE ?_); clear hE a; intro a hE); all_goals (refine wl hE rfl ?_; (first | refine qb hE ?_ | refine qb2 hE ?_ | refine qbE hE ?_ | refine qbN hE ?_ | refine qpn hE ?_); clear hE a; intro a hE)) | (refine c_regI 7 ?_; all_goals (refine wl hE rfl ?_; refine qm hE ?_; clear hE a; intro a hE); all_goals (refine wl hE rfl ?_; refine qm hE ?_; clear hE a; intro a hE); all_goals (refine wl hE rfl ?_; (first | refine qi hE hA ?_ | refine qi hE (fun _ => rfl) ?_ | refine qia hE ?_); clear hE a; intro a hE); all_goals (refine wl hE rfl ?_; (first | refine qlR (i := j) (us := x.cells) (df := E0) hE hS elen (by rw [hx]) ?_ | refine ql hE hS ?_ | refine qL hE hS ?_ | refine qlr hE hS ?_); clear hE a; intro a hE); all_goals (refine wl hE rfl ?_; (first | refine qal hE hS ?_); clear hE hS; clear a; intro g a w hE hS); all_goals (refine wl hE rfl ?_; first | ((refine qsR (df := E0) (off := 0) (v := .agg x.cells.toArray) (l := l2) (i := i) (A := A) (p := (adr A).add (i.toNat * 4)) x hE hS elen rfl ?_; clear hS; intro w hS)) | ((first | refine qst0 hE hS ?_ | refine qst hE hS ?_); clear hS; intro w hS))) | (refine c_regI 8 ?_; all_goals (refine wl hE rfl ?_; refine qm hE ?_; clear hE a; intro a hE); all_goals (refine wl hE rfl ?_; (first | refine qlR (i := j) (us := x.cells) (df := E0) hE hS elen (by rw [hx]) ?_ | refine ql hE hS ?_ | refine qL hE hS ?_ | refine qlr hE hS ?_); clear hE a; intro a hE); all_goals (refine wl hE rfl ?_; first | ((refine qcF (vs := [.agg x.cells.toArray]) hE (hp x (hxm () (by omega)) _ hS.fit) ?_; clear hE; clear a; rintro _ a w ⟨rfl, hS1⟩ hE; replace hS := hS.then hS1; clear hS1)) | ((first | refine qmin hE ?_ | refine qmax hE ?_); clear hE a; intro a hE)); all_goals (refine wl hE rfl ?_; (first | refine qu hE ?_ | refine qng hE ?_); clear hE a; intro a hE)) | (refine c_regI 9 ?_; all_goals (refine wl hE rfl ?_; refine qm hE ?_; clear hE a; intro a hE); all_goals (refine wl hE rfl ?_; refine qm hE ?_; clear hE a; intro a hE); all_goals (refine wl hE rfl ?_; (first | refine qlR (i := j) (us := x.cells) (df := E0) hE hS elen (by rw [hx]) ?_ | refine ql hE hS ?_ | refine qL hE hS ?_ | refine qlr hE hS ?_); clear hE a; intro a hE); all_goals (refine wl hE rfl ?_; (first | refine qi hE hA ?_ | refine qi hE (fun _ => rfl) ?_ | refine qia hE ?_); clear hE a; intro a hE); all_goals (refine wl hE rfl ?_; first | ((refine qsR (df := E0) (off := 0) (v := .agg x.cells.toArray) (l := l2) (i := i) (A := A) (p := (adr A).add (i.toNat * 4)) x hE hS elen rfl ?_; clear hS; intro w hS)) | ((first | refine qst0 hE hS ?_ | refine qst hE hS ?_); clear hS; intro w hS))) | (refine c_regI 10 ?_; all_goals (refine wl hE rfl ?_; refine qm hE ?_; clear hE a; intro a hE); all_goals (refine wl hE rfl ?_; (first | refine qb hE ?_ | refine qb2 hE ?_ | refine qbE hE ?_ | refine qbN hE ?_ | refine qpn hE ?_); clear hE a; intro a hE); all_goals (refine wl hE rfl ?_; refine qa hE ?_; clear hE a; intro a hE)) | (refine c_regI 6 ?_; all_goals (refine wl hE rfl ?_; refine qm hE ?_; clear hE a; intro a hE); all_goals (refine wl hE rfl ?_; (first | refine qb hE ?_ | refine qb2 hE ?_ | refine qbE hE ?_ | refine qbN hE ?_ | refine qpn hE ?_); clear hE a; intro a hE); all_goals (refine wl hE rfl ?_; refine qa hE ?_; clear hE a; intro a hE)) | (refine c_regI 11 ?_; all_goals (refine wl hE rfl ?_; refine qm hE ?_; clear hE a; intro a hE); all_goals (refine wl hE rfl ?_; refine qm hE ?_; clear hE a; intro a hE); all_goals (refine wl hE rfl ?_; first | ((refine qsh i.toNat hE ?_; clear hE; clear a; intro a hE)) | ((refine qsL i.toNat hE ?_; clear hE; clear a; intro a hE)) | (refine qssh hE ?_; clear hE a; intro a hE)); all_goals (refine wl hE rfl ?_; first | ((refine qclr (sz := 4) (c := c) (dc := c - i.toNat) (dl := l.length - i.toNat) (zs := [.int .u64 0, .int .u64 0, .int .i64 0, .bool false]) i.toNat (l2.length - i.toNat) (A := A) (N := l.length) (xs := l2.flatMap En.cells) hE hS ?_ (by decide) (by rw [hl2]) (by omega) (by omega) rfl; clear hS; intro w hS)) | ((first | refine qmin hE ?_ | refine qmax hE ?_); clear hE a; intro a hE))) | (refine c_regI 12 ?_; all_goals (refine wl hE rfl ?_; refine qm hE ?_; clear hE a; intro a hE); all_goals (refine wl hE rfl ?_; refine qm hE ?_; clear hE a; intro a hE); all_goals (refine wl hE rfl ?_; first | ((refine qsh i.toNat hE ?_; clear hE; clear a; intro a hE)) | ((refine qsL i.toNat hE ?_; clear hE; clear a; intro a hE)) | (refine qssh hE ?_; clear hE a; intro a hE)); all_goals (refine wl hE rfl ?_; refine qa hE ?_; clear hE a; intro a hE)) | refine c_seq ?_ | ((refine c_cond hE rfl ?_ ?_) <;> (intro hb; (first | replace hb := of_decide_eq_true hb | replace hb := of_decide_eq_false hb | (simp only [Bool.not_eq_true', Bool.not_eq_false', decide_eq_true_eq, decide_eq_false_iff_not] at hb) | skip); try (exfalso; first | omega | exact absurd trivial hb | exact absurd rfl hb | (simp only [beq_self_eq_true, bne_self_eq_false, reduceCtorEq] at hb; done)))))
    · exact ⟨_, by omega, _, i + 1, j + 1, hK.keep (by omega) (by rw [← hK.get (by omega), hx]; simpa using hb), rfl, hE.cut ⟨rfl, rfl, rfl, rfl, trivial⟩, by rw [← hK.get (by omega), hx]; exact hS.fit⟩
    · exact ⟨_, by omega, l2, i, j + 1, hK.skip (by omega) (by rw [← hK.get (by omega), hx]; simpa using hb), rfl, hE.cut ⟨rfl, rfl, rfl, rfl, trivial⟩, hS.fit⟩
    · have e : j = l.length := by omega
      have ht := hK.ht
      rw [e, List.take_of_length_le (l := l) (by omega)] at ht
      have e1 : (l.filter fun x => !p x).length = i.toNat := by rw [← ht, List.length_take]; omega
      refine p_ret hE rfl rfl ⟨_, rfl, i.toNat, e1.symm, rfl, ?_⟩
      have h3 := hS.row_cut (A := A) (n := l.length) (c := c) i.toNat c (by omega) (by omega) (by omega)
      rw [kept_end l2 i.toNat (by omega), ht] at h3
      exact h3.fit
end Go.Proofs.Ytdaciolahgfhiaa
/- DERIVED. Layer 10: drop; time, old; Drop, Clear, Expire. No condition. -/
namespace Go.Proofs.Ytdaciolahgfhiaa
open Go.RowKit Go.Sx Go.Proofs.YtdaciolahgfhiaaTy
set_option linter.unusedVariables false
set_option linter.unusedSimpArgs false
set_option maxRecDepth 100000
attribute [local irreducible] Oper.wp Code.wp wpList wpAnyH Calls bodyPost Exit.then Exit.inBlock Code.rounds
set_option maxHeartbeats 1000000
def tabC (A : Option Addr) (n c : Nat) (room life : Int) : List Value := [.slice A n c, .func (.func 45) #[] #[], .int .i64 room, .int .i64 life]
theorem odrop_s (g : Nat) (l : List En) (room life : Int) (f : FuncId) [FnTy Try.prog f] (cs : List Value) (p : En → Bool) (u0 w0 : World) (L : List Asn) (hS0 : Sep u0 w0 (Ag g l room life :: L)) (hl : l.length ≤ 1073741823)
    (hp : ∀ x ∈ l, ∀ w A c, Sep u0 w (blk g (tabC A l.length c room life) 101 :: L) → Calls Try.prog f (.agg x.cells.toArray :: cs).toArray w fun e w' => ∃ r, e = .returned r ∧ r = .bool (p x) ∧ Sep w w' []) :
    Calls Try.prog 73 #[.pointer (some ⟨g, 0, none⟩), .func (.func f) #[] cs.toArray] w0 fun e w' => ∃ r, e = .returned r ∧ r = .int .i64 ((l.length : Int) - (l.filter fun x => !p x).length) ∧ Sep u0 w' (Ag g (l.filter fun x => !p x) room life :: L) := by
  refine enter (args := [.pointer (some ⟨g, 0, none⟩), .func (.func f) #[] cs.toArray]) 27 Try.func73 rfl rfl rfl ?_
  intro a hE _
  obtain ⟨A, c, hS⟩ := Ag.out hS0
  clear hS0
  obtain ⟨hc1, hc2, _⟩ := hS.drop.row_cap
  have hle : (l.filter fun x => !p x).length ≤ l.length := List.length_filter_le _ _
  obtain ⟨g0, hg0⟩ : ∃ g0, g0 = g := ⟨_, rfl⟩
  rw [← hg0] at hE hS hp
  revert hE
  revert hS
  generalize w0 = w
  intro hS hE
  repeat' (first | refine wl_nil ?_ | refine then_n ?_ | refine c_block ?_ | refine c_skip ?_ | refine c_exit ?_ | refine c_ret ?_ | refine then_r ?_ | refine then_e ?_ | refine inb_n ?_ | refine inb_r ?_ | refine inb_e ?_ | refine inb_o rfl ?_ | refine c_cond_t hE rfl ?_ | refine c_cond_f hE rfl ?_ | refine c_rnd ?_ | (refine c_regI 0 ?_; all_goals (refine wl hE rfl ?_; refine qa hE ?_; clear hE a; intro a hE)) | (refine c_regI 1 ?_; all_goals (refine wl hE rfl ?_; refine qm hE ?_; clear hE a; intro a hE); all_goals (refine wl hE rfl ?_; (first | refine qn hE ?_ | refine qnf hE ?_); clear hE a; intro a hE); all_goals (refine wl hE rfl ?_; (first | refine qf hE ?_ | refine qFF hE ?_ | refine qF hE ?_); clear hE a; intro a hE); all_goals (refine wl hE rfl ?_; (first | refine ql hE hS ?_ | refine qL hE hS ?_ | refine qlr hE hS ?_); clear hE a; intro a hE); all_goals (refine wl hE rfl ?_; (first | refine qn1 hE ?_ | refine qns hE ?_); clear hE a; intro a hE); all_goals (refine wl hE rfl ?_; refine qa hE ?_; clear hE a; intro a hE)) | (refine c_regI 2 ?_; all_goals (refine wl hE rfl ?_; refine qm hE ?_; clear hE a; intro a hE); all_goals (refine wl hE rfl ?_; refine qm hE ?_; clear hE a; intro a hE); all_goals (refine wl hE rfl ?_; (first | refine qn hE ?_ | refine qnf hE ?_); clear hE a; intro a hE); all_goals (refine wl hE rfl ?_; (first | refine qf hE ?_ | refine qFF hE ?_ | refine qF hE ?_); clear hE a; intro a hE); all_goals (refine wl hE rfl ?_; (first | refine ql hE hS ?_ | refine qL hE hS ?_ | refine qlr hE hS ?_); clear hE a; intro a hE); all_goals (refine wl hE rfl ?_; refine qm hE ?_; clear hE a; intro a hE); all_goals (refine wl hE rfl ?_; refine qc hE (deleteF_s A c l f cs p u0 _ _ hS.fit hl (fun x hx w h => hp x hx w A c h)) ?_; clear hE hS; clear a; rintro _ a w ⟨m, hm, rfl, hS⟩ hE); all_goals (refine wl hE rfl ?_; (first | refine qn hE ?_ | refine qnf hE ?_); clear hE a; intro a hE); all_goals (refine wl hE rfl ?_; (first | refine qf hE ?_ | refine qFF hE ?_ | refine qF hE ?_); clear hE a; intro a hE); all_goals (refine wl hE rfl ?_; (first | refine qst0 hE hS ?_ | refine qst hE hS ?_); clear hS; intro w hS)) | (refine c_regI 3 ?_; all_goals (refine wl hE rfl ?_; refine qm hE ?_; clear hE a; intro a hE); all_goals (refine wl hE rfl ?_; refine qm hE ?_; clear hE a; intro a hE); all_goals (refine wl hE rfl ?_; (first | refine qn hE ?_ | refine qnf hE ?_); clear hE a; intro a hE); all_goals (refine wl hE rfl ?_; (first | refine qf hE ?_ | refine qFF hE ?_ | refine qF hE ?_); clear hE a; intro a hE); all_goals (refine wl hE rfl ?_; (first | refine ql hE hS ?_ | refine qL hE hS ?_ | refine qlr hE hS ?_); clear hE a; intro a hE); all_goals (refine wl hE rfl ?_; (first | refine qn1 hE ?_ | refine qns hE ?_); clear hE a; intro a hE); all_goals (refine wl hE rfl ?_; (first | refine qb hE ?_ | refine qb2 hE ?_ | refine qbE hE ?_ | refine qbN hE ?_ | refine qpn hE ?_); clear hE a; intro a hE); all_goals (refine wl hE rfl ?_; refine qa hE ?_; clear hE a; intro a hE)) | refine c_seq ?_ | ((refine c_cond hE rfl ?_ ?_) <;> (intro hb; (first | replace hb := of_decide_eq_true hb | replace hb := of_decide_eq_false hb | (simp only [Bool.not_eq_true', Bool.not_eq_false', decide_eq_true_eq, decide_eq_false_iff_not] at hb) | skip); try (exfalso; first | omega | exact absurd trivial hb | exact absurd rfl hb | (simp only [beq_self_eq_true, bne_self_eq_false, reduceCtorEq] at hb; done)))))
  subst hg0
  refine p_ret hE rfl rfl ⟨_, rfl, by rw [hm], ?_⟩
  refine Ag.in_ (A := A) (c := c) ?_
  rw [← hm]
  exact hS.fit
end Go.Proofs.Ytdaciolahgfhiaa
/- DERIVED. Layer 10: what is dropped: by a key, by a value, what is old. No condition. -/
namespace Go.Proofs.Ytdaciolahgfhiaa
open Go.RowKit Go.Sx Go.Proofs.YtdaciolahgfhiaaTy
set_option linter.unusedVariables false
set_option linter.unusedSimpArgs false
set_option maxRecDepth 100000
attribute [local irreducible] Oper.wp Code.wp wpList wpAnyH Calls bodyPost Exit.then Exit.inBlock Code.rounds
set_option maxHeartbeats 1000000
def okT (now : Int) : Bool := decide (0 ≤ now ∧ now ≤ 1099511627776)
theorem time_s (now : Int) (w0 : World) : Calls Try.prog 49 #[.int .i64 now] w0 fun e w' => ∃ r, e = .returned r ∧ r = .bool (okT now) ∧ Sep w0 w' [] := by
  refine enter (args := [.int .i64 now]) 9 Try.func49 rfl rfl rfl ?_
  intro a hE hS
  repeat' (first | refine wl_nil ?_ | refine then_n ?_ | refine c_block ?_ | refine c_skip ?_ | refine c_exit ?_ | refine c_ret ?_ | refine then_r ?_ | refine then_e ?_ | refine inb_n ?_ | refine inb_r ?_ | refine inb_e ?_ | refine inb_o rfl ?_ | refine c_cond_t hE rfl ?_ | refine c_cond_f hE rfl ?_ | refine c_rnd ?_ | (refine c_regI 0 ?_; all_goals (refine wl hE rfl ?_; refine qa hE ?_; clear hE a; intro a hE)) | (refine c_regI 1 ?_; all_goals (refine wl hE rfl ?_; refine qm hE ?_; clear hE a; intro a hE); all_goals (refine wl hE rfl ?_; (first | refine qb hE ?_ | refine qb2 hE ?_ | refine qbE hE ?_ | refine qbN hE ?_ | refine qpn hE ?_); clear hE a; intro a hE); all_goals (refine wl hE rfl ?_; refine qm hE ?_; clear hE a; intro a hE); all_goals (first | (refine wl hE rfl ?_; refine qm hE ?_; clear hE a; intro a hE) | (refine wl_skip hE rfl rfl rfl ?_; clear hE a; intro a hE) | ((refine wl_splitg hE rfl rfl ?_ ?_) <;> (clear hE; intro hb hE; (first | replace hb := of_decide_eq_true hb | replace hb := of_decide_eq_false hb | (simp only [Bool.not_eq_true', Bool.not_eq_false', decide_eq_true_eq, decide_eq_false_iff_not] at hb) | skip); try (exfalso; first | omega | exact absurd trivial hb | exact absurd rfl hb | (simp only [beq_self_eq_true, bne_self_eq_false, reduceCtorEq] at hb; done))) <;> (first | (refine wl hE rfl ?_; refine qm hE ?_; clear hE a; intro a hE) | (refine wl_skip hE rfl rfl rfl ?_; clear hE a; intro a hE)))); all_goals (first | (refine wl hE rfl ?_; (first | refine qb hE ?_ | refine qb2 hE ?_ | refine qbE hE ?_ | refine qbN hE ?_ | refine qpn hE ?_); clear hE a; intro a hE) | (refine wl_skip hE rfl rfl rfl ?_; clear hE a; intro a hE)); all_goals (refine wl hE rfl ?_; (first | refine qpt hE ?_ | refine qpf hE ?_); clear hE a; intro a hE); all_goals (refine wl hE rfl ?_; refine qa hE ?_; clear hE a; intro a hE)) | refine c_seq ?_ | ((refine c_cond hE rfl ?_ ?_) <;> (intro hb; (first | replace hb := of_decide_eq_true hb | replace hb := of_decide_eq_false hb | (simp only [Bool.not_eq_true', Bool.not_eq_false', decide_eq_true_eq, decide_eq_false_iff_not] at hb) | skip); try (exfalso; first | omega | exact absurd trivial hb | exact absurd rfl hb | (simp only [beq_self_eq_true, bne_self_eq_false, reduceCtorEq] at hb; done)))))
  all_goals exact p_ret hE rfl rfl ⟨_, rfl, by simp [okT, *], hS⟩
/-- Is an entry too old? -/
def oldE (life now : Int) (x : En) : Bool := !x.f && decide (life ≤ now - x.t)
theorem old_s (g : Nat) (life now : Int) (x : En) (w0 : World) (hF : At w0 ⟨g, 3, none⟩ [.int .i64 life]) (hn : 0 ≤ now ∧ now ≤ 1099511627776) (ht : 0 ≤ x.t ∧ x.t ≤ 1099511627776) : Calls Try.prog 50 #[.pointer (some ⟨g, 0, none⟩), .agg x.cells.toArray, .int .i64 now] w0 fun e w' => ∃ r, e = .returned r ∧ r = .bool (oldE life now x) ∧ Sep w0 w' [] := by
  refine enter (args := [.pointer (some ⟨g, 0, none⟩), .agg x.cells.toArray, .int .i64 now]) 21 Try.func50 rfl rfl rfl ?_
  intro a hE hS
  repeat' (first | refine wl_nil ?_ | refine then_n ?_ | refine c_block ?_ | refine c_skip ?_ | refine c_exit ?_ | refine c_ret ?_ | refine then_r ?_ | refine then_e ?_ | refine inb_n ?_ | refine inb_r ?_ | refine inb_e ?_ | refine inb_o rfl ?_ | refine c_cond_t hE rfl ?_ | refine c_cond_f hE rfl ?_ | refine c_rnd ?_ | (refine c_regI 0 ?_; all_goals (refine wl hE rfl ?_; (first | refine qbx hE hS ?_); clear hE hS; clear a; intro g a w hE hS); all_goals (refine wl hE rfl ?_; refine qa hE ?_; clear hE a; intro a hE)) | refine c_seq ?_ | (refine rg_guard 1 ?_; refine rg_start [4, 0] hE hS ?_; clear hS; (try clear w); intro w hS hX; all_goals (first | (refine rg_y 0 hE hX (by first | exact y_fieldFF | exact y_field | exact y_fieldF | exact y_load0 hF) ?_ rfl rfl rfl rfl; clear hE a; intro a hE)); all_goals (first | (refine rg_y 1 hE hX (by first | exact y_load | exact y_loadA | exact y_load0 hF) ?_ rfl rfl rfl rfl; clear hE a; intro a hE)); all_goals (first | (refine rg_y 2 hE hX (by first | exact y_not | exact y_load0 hF) ?_ rfl rfl rfl rfl; clear hE a; intro a hE)); all_goals (first | (refine rg_y 3 hE hX (by first | exact y_move | exact y_load0 hF) ?_ rfl rfl rfl rfl; clear hE a; intro a hE)); all_goals (first | (refine rg_y 4 hE hX (by first | exact y_move | exact y_load0 hF) ?_ rfl rfl rfl rfl; clear hE a; intro a hE) | (refine rg_n 4 hE hX ?_ rfl rfl rfl rfl; clear hE a; intro a hE) | ((refine rg_split hE 10 rfl ?_ ?_) <;> (clear hE; intro hb hE; (first | replace hb := of_decide_eq_true hb | replace hb := of_decide_eq_false hb | (simp only [Bool.not_eq_true', Bool.not_eq_false', decide_eq_true_eq, decide_eq_false_iff_not] at hb) | skip); try (exfalso; first | omega | exact absurd trivial hb | exact absurd rfl hb | (simp only [beq_self_eq_true, bne_self_eq_false, reduceCtorEq] at hb; done))) <;> (first | (refine rg_y 4 hE hX (by first | exact y_move | exact y_load0 hF) ?_ rfl rfl rfl rfl; clear hE a; intro a hE) | (refine rg_n 4 hE hX ?_ rfl rfl rfl rfl; clear hE a; intro a hE)))); all_goals (first | (refine rg_y 5 hE hX (by first | exact y_fieldFF | exact y_field | exact y_fieldF | exact y_load0 hF) ?_ rfl rfl rfl rfl; clear hE a; intro a hE) | (refine rg_n 5 hE hX ?_ rfl rfl rfl rfl; clear hE a; intro a hE)); all_goals (first | (refine rg_y 6 hE hX (by first | exact y_load | exact y_loadA | exact y_load0 hF) ?_ rfl rfl rfl rfl; clear hE a; intro a hE) | (refine rg_n 6 hE hX ?_ rfl rfl rfl rfl; clear hE a; intro a hE)); all_goals (first | (refine rg_y 7 hE hX (by first | exact y_bin | exact y_binE | exact y_binN | exact y_bin2 | exact y_pn | exact y_load0 hF) ?_ rfl rfl rfl rfl; clear hE a; intro a hE) | (refine rg_n 7 hE hX ?_ rfl rfl rfl rfl; clear hE a; intro a hE)); all_goals (first | (refine rg_y 8 hE hX (by first | exact y_move | exact y_load0 hF) ?_ rfl rfl rfl rfl; clear hE a; intro a hE) | (refine rg_n 8 hE hX ?_ rfl rfl rfl rfl; clear hE a; intro a hE)); all_goals (first | (refine rg_y 9 hE hX (by first | exact y_nil | exact y_load0 hF) ?_ rfl rfl rfl rfl; clear hE a; intro a hE) | (refine rg_n 9 hE hX ?_ rfl rfl rfl rfl; clear hE a; intro a hE)); all_goals (first | (refine rg_y 10 hE hX (by first | exact y_fieldFF | exact y_field | exact y_fieldF | exact y_load0 hF) ?_ rfl rfl rfl rfl; clear hE a; intro a hE) | (refine rg_n 10 hE hX ?_ rfl rfl rfl rfl; clear hE a; intro a hE)); all_goals (first | (refine rg_y 11 hE hX (by first | exact y_load | exact y_loadA | exact y_load0 hF) ?_ rfl rfl rfl rfl; clear hE a; intro a hE) | (refine rg_n 11 hE hX ?_ rfl rfl rfl rfl; clear hE a; intro a hE)); all_goals (first | (refine rg_y 12 hE hX (by first | exact y_bin | exact y_binE | exact y_binN | exact y_bin2 | exact y_pn | exact y_load0 hF) ?_ rfl rfl rfl rfl; clear hE a; intro a hE) | (refine rg_n 12 hE hX ?_ rfl rfl rfl rfl; clear hE a; intro a hE)); all_goals (first | (refine rg_y 13 hE hX (by first | exact y_pick_t | exact y_pick_f | exact y_load0 hF) ?_ rfl rfl rfl rfl; clear hE a; intro a hE)); all_goals (first | (refine rg_y 14 hE hX (by first | exact y_assign | exact y_load0 hF) ?_ rfl rfl rfl rfl; clear hE a; intro a hE)); all_goals (refine rg_done ?_ (by kernel_rfl); (try clear hX))) | ((refine c_cond hE rfl ?_ ?_) <;> (intro hb; (first | replace hb := of_decide_eq_true hb | replace hb := of_decide_eq_false hb | (simp only [Bool.not_eq_true', Bool.not_eq_false', decide_eq_true_eq, decide_eq_false_iff_not] at hb) | skip); try (exfalso; first | omega | exact absurd trivial hb | exact absurd rfl hb | (simp only [beq_self_eq_true, bne_self_eq_false, reduceCtorEq] at hb; done)))))
  all_goals exact p_ret hE rfl rfl ⟨_, rfl, by simp [oldE, *], hS.clean⟩
end Go.Proofs.Ytdaciolahgfhiaa
/- DERIVED. Layer 10: Drop, Clear, Expire. No condition. -/
namespace Go.Proofs.Ytdaciolahgfhiaa
open Go.RowKit Go.Sx Go.Proofs.YtdaciolahgfhiaaTy
set_option linter.unusedVariables false
set_option linter.unusedSimpArgs false
set_option maxRecDepth 100000
attribute [local irreducible] Oper.wp Code.wp wpList wpAnyH Calls bodyPost Exit.then Exit.inBlock Code.rounds
set_option maxHeartbeats 1000000
/-- The times of a table's entries are times. -/
def Times (l : List En) : Prop := ∀ x ∈ l, 0 ≤ x.t ∧ x.t ≤ 1099511627776
def noKey (key : Int) (l : List En) : List En := l.filter fun x => !decide (x.k = key)
def noVal (v : Int) (l : List En) : List En := l.filter fun x => !(!x.f && decide (x.v = v))
def noOld (life now : Int) (l : List En) : List En := l.filter fun x => !oldE life now x
theorem expire1_s (b1 b2 g0 : Nat) (life now : Int) (x : En) (w0 : World) (h1 : At w0 ⟨b1, 0, none⟩ [.pointer (some ⟨g0, 0, none⟩)]) (h2 : At w0 ⟨b2, 0, none⟩ [.int .i64 now]) (hF : At w0 ⟨g0, 3, none⟩ [.int .i64 life]) (hn : 0 ≤ now ∧ now ≤ 1099511627776) (ht : 0 ≤ x.t ∧ x.t ≤ 1099511627776) : Calls Try.prog 74 #[.agg x.cells.toArray, .pointer (some ⟨b1, 0, none⟩), .pointer (some ⟨b2, 0, none⟩)] w0 fun e w' => ∃ r, e = .returned r ∧ r = .bool (oldE life now x) ∧ Sep w0 w' [] := by
  refine enter (args := [.agg x.cells.toArray, .pointer (some ⟨b1, 0, none⟩), .pointer (some ⟨b2, 0, none⟩)]) 9 Try.func74 rfl rfl rfl ?_
  intro a hE hS
  repeat' (first | refine wl_nil ?_ | refine then_n ?_ | refine c_block ?_ | refine c_skip ?_ | refine c_exit ?_ | refine c_ret ?_ | refine then_r ?_ | refine then_e ?_ | refine inb_n ?_ | refine inb_r ?_ | refine inb_e ?_ | refine inb_o rfl ?_ | refine c_cond_t hE rfl ?_ | refine c_cond_f hE rfl ?_ | refine c_rnd ?_ | (refine c_regI 0 ?_; all_goals (refine wl hE rfl ?_; (first | refine qbx hE hS ?_); clear hE hS; clear a; intro g a w hE hS); all_goals (refine wl hE rfl ?_; refine qa hE ?_; clear hE a; intro a hE)) | (refine c_regI 1 ?_; all_goals (refine wl hE rfl ?_; (first | refine q0 hE hS h1 ?_ | refine q0 hE hS h2 ?_ | refine ql hE hS ?_ | refine qL hE hS ?_ | refine qlr hE hS ?_); clear hE a; intro a hE); all_goals (refine wl hE rfl ?_; (first | refine q0 hE hS h1 ?_ | refine q0 hE hS h2 ?_ | refine ql hE hS ?_ | refine qL hE hS ?_ | refine qlr hE hS ?_); clear hE a; intro a hE); all_goals (refine wl hE rfl ?_; (first | refine q0 hE hS h1 ?_ | refine q0 hE hS h2 ?_ | refine ql hE hS ?_ | refine qL hE hS ?_ | refine qlr hE hS ?_); clear hE a; intro a hE); all_goals (refine wl hE rfl ?_; refine is_call 50 rfl ?_; refine qc hE (old_s g0 life now x _ (hF.move hS) hn ht) ?_; clear hE; clear a; rintro _ a w ⟨rfl, hS1⟩ hE; replace hS := hS.then hS1; clear hS1); all_goals (refine wl hE rfl ?_; refine qa hE ?_; clear hE a; intro a hE)) | refine c_seq ?_ | ((refine c_cond hE rfl ?_ ?_) <;> (intro hb; (first | replace hb := of_decide_eq_true hb | replace hb := of_decide_eq_false hb | (simp only [Bool.not_eq_true', Bool.not_eq_false', decide_eq_true_eq, decide_eq_false_iff_not] at hb) | skip); try (exfalso; first | omega | exact absurd trivial hb | exact absurd rfl hb | (simp only [beq_self_eq_true, bne_self_eq_false, reduceCtorEq] at hb; done)))))
  exact p_ret hE rfl rfl ⟨_, rfl, rfl, hS.clean⟩
theorem tab_life {A : Option Addr} {n c : Nat} {g : Nat} {room life : Int} {w0 w : World} {L : List Asn} (h : Sep w0 w (blk g (tabC A n c room life) 101 :: L)) : At w ⟨g, 3, none⟩ [.int .i64 life] := At.tail (At.tail (At.tail (blk_At h Pull.here)))
theorem expire_s (g0 : Nat) (l : List En) (room life now : Int) (u0 w0 : World) (L : List Asn) (hS0 : Sep u0 w0 (Ag g0 l room life :: L)) (hl : l.length ≤ 1073741823) (ht : Times l) : Calls Try.prog 53 #[.pointer (some ⟨g0, 0, none⟩), .int .i64 now] w0 fun e w' => ∃ r, e = .returned r ∧ r = .int .i64 (if okT now = true then (l.length : Int) - (noOld life now l).length else 0) ∧ Sep u0 w' (Ag g0 (if okT now = true then noOld life now l else l) room life :: L) := by
  refine enter (args := [.pointer (some ⟨g0, 0, none⟩), .int .i64 now]) 13 Try.func53 rfl rfl rfl ?_
  intro a hE _
  have hS := hS0
  clear hS0
  revert hE
  revert hS
  generalize w0 = w
  intro hS hE
  repeat' (first | refine wl_nil ?_ | refine then_n ?_ | refine c_block ?_ | refine c_skip ?_ | refine c_exit ?_ | refine c_ret ?_ | refine then_r ?_ | refine then_e ?_ | refine inb_n ?_ | refine inb_r ?_ | refine inb_e ?_ | refine inb_o rfl ?_ | refine c_cond_t hE rfl ?_ | refine c_cond_f hE rfl ?_ | refine c_rnd ?_ | (refine c_regI 0 ?_; all_goals (refine wl hE rfl ?_; (first | refine qbx hE hS ?_); clear hE hS; clear a; intro g a w hE hS); all_goals (refine wl hE rfl ?_; (first | refine qbx hE hS ?_); clear hE hS; clear a; intro g a w hE hS); all_goals (refine wl hE rfl ?_; refine qa hE ?_; clear hE a; intro a hE)) | (refine c_regI 1 ?_; all_goals (refine wl hE rfl ?_; (first | refine ql hE hS ?_ | refine qL hE hS ?_ | refine qlr hE hS ?_); clear hE a; intro a hE); all_goals (refine wl hE rfl ?_; refine is_call 49 rfl ?_; refine qc hE (time_s _ _) ?_; clear hE; clear a; rintro _ a w ⟨rfl, hS1⟩ hE; replace hS := hS.then hS1; clear hS1); all_goals (refine wl hE rfl ?_; (first | refine qu hE ?_ | refine qng hE ?_); clear hE a; intro a hE)) | (refine c_regI 2 ?_; all_goals (refine wl hE rfl ?_; refine qa hE ?_; clear hE a; intro a hE)) | refine c_seq ?_ | ((refine c_cond hE rfl ?_ ?_) <;> (intro hb; (first | replace hb := of_decide_eq_true hb | replace hb := of_decide_eq_false hb | (simp only [Bool.not_eq_true', Bool.not_eq_false', decide_eq_true_eq, decide_eq_false_iff_not] at hb) | skip); try (exfalso; first | omega | exact absurd trivial hb | exact absurd rfl hb | (simp only [beq_self_eq_true, bne_self_eq_false, reduceCtorEq] at hb; done)))))
  · exact p_ret hE rfl rfl ⟨_, rfl, by rw [hb]; rfl, by rw [hb]; exact hS.fit⟩
  · obtain ⟨b1, hS2, hE2⟩ : ∃ b1, Sep u0 w (blk g [.int .i64 now] 3 :: blk b1 [.pointer (some ⟨g0, 0, none⟩)] 66 :: Ag g0 l room life :: L) ∧ Env a 13 [(2, .pointer (some ⟨b1, 0, none⟩)), (3, .pointer (some ⟨g, 0, none⟩))] := ⟨_, hS, hE.cut ⟨rfl, rfl, trivial⟩⟩
    replace hS := hS2
    replace hE := hE2
    clear hS2 hE2
    have hn : 0 ≤ now ∧ now ≤ 1099511627776 := of_decide_eq_true hb
    repeat' (first | refine wl_nil ?_ | refine then_n ?_ | refine c_block ?_ | refine c_skip ?_ | refine c_exit ?_ | refine c_ret ?_ | refine then_r ?_ | refine then_e ?_ | refine inb_n ?_ | refine inb_r ?_ | refine inb_e ?_ | refine inb_o rfl ?_ | refine c_cond_t hE rfl ?_ | refine c_cond_f hE rfl ?_ | refine c_rnd ?_ | (refine c_regI 3 ?_; all_goals (refine wl hE rfl ?_; (first | refine ql hE hS ?_ | refine qL hE hS ?_ | refine qlr hE hS ?_); clear hE a; intro a hE); all_goals (refine wl hE rfl ?_; (first | refine qn hE ?_ | refine qnf hE ?_); clear hE a; intro a hE); all_goals (refine wl hE rfl ?_; (first | refine qf hE ?_ | refine qFF hE ?_ | refine qF hE ?_); clear hE a; intro a hE); all_goals (refine wl hE rfl ?_; refine qmf2 hE ?_; clear hE; clear a; intro a hE); all_goals (refine wl hE rfl ?_; refine is_call 73 rfl ?_; refine qc hE (odrop_s g0 l room life 74 [.pointer (some ⟨b1, 0, none⟩), .pointer (some ⟨g, 0, none⟩)] (oldE life now) u0 _ (blk g [.int .i64 now] 3 :: blk b1 [.pointer (some ⟨g0, 0, none⟩)] 66 :: L) hS.fit hl (fun x hx w A c h => expire1_s b1 g g0 life now x w (blk_At h) (blk_At h) (tab_life h) hn (ht x hx))) ?_; clear hE hS; clear a; rintro _ a w ⟨rfl, hS⟩ hE); all_goals (refine wl hE rfl ?_; refine qa hE ?_; clear hE a; intro a hE)) | refine c_seq ?_ | ((refine c_cond hE rfl ?_ ?_) <;> (intro hb; (first | replace hb := of_decide_eq_true hb | replace hb := of_decide_eq_false hb | (simp only [Bool.not_eq_true', Bool.not_eq_false', decide_eq_true_eq, decide_eq_false_iff_not] at hb) | skip); try (exfalso; first | omega | exact absurd trivial hb | exact absurd rfl hb | (simp only [beq_self_eq_true, bne_self_eq_false, reduceCtorEq] at hb; done)))))
    exact p_ret hE rfl rfl ⟨_, rfl, by rw [if_pos hb]; rfl, by rw [if_pos hb]; exact hS.fit⟩
end Go.Proofs.Ytdaciolahgfhiaa
/- DERIVED. Layer 10: slices.Delete of one. No condition. -/
namespace Go.Proofs.Ytdaciolahgfhiaa
open Go.RowKit Go.Sx Go.Proofs.YtdaciolahgfhiaaTy
set_option linter.unusedVariables false
set_option linter.unusedSimpArgs false
set_option maxRecDepth 100000
attribute [local irreducible] Oper.wp Code.wp wpList wpAnyH Calls bodyPost Exit.then Exit.inBlock Code.rounds
set_option maxHeartbeats 1000000
theorem del_ys (l : List En) (i : Nat) (hi : i < l.length) : (l.take i).flatMap En.cells ++ (l.drop (i + 1)).flatMap En.cells = (l.eraseIdx i).flatMap En.cells := by
  rw [← List.flatMap_append, List.eraseIdx_eq_take_drop_succ]
theorem del_len (l : List En) (i : Nat) (hi : i < l.length) : (l.eraseIdx i).length = l.length - 1 := List.length_eraseIdx_of_lt hi
theorem delete_s (A : Option Addr) (c : Nat) (l : List En) (i : Nat) (u0 w0 : World) (L : List Asn) (hi : i < l.length) (hl : l.length ≤ 1073741822)
    (hS0 : Sep u0 w0 (row 80 4 (.slice A l.length c) l.length (l.flatMap En.cells) :: L)) :
    Calls Try.prog 75 #[.slice A l.length c, .int .i64 i, .int .i64 (i + 1)] w0 fun e w' => ∃ r, e = .returned r ∧ r = .slice A (l.length - 1) c ∧ Sep u0 w' (row 80 4 (.slice A (l.length - 1) c) (l.length - 1) ((l.eraseIdx i).flatMap En.cells) :: L) := by
  refine enter (args := [.slice A l.length c, .int .i64 i, .int .i64 (i + 1)]) 33 Try.func75 rfl rfl rfl ?_
  intro a hE _
  have hS := hS0
  clear hS0
  obtain ⟨hc1, hc2, _⟩ := hS.row_cap
  have hAne : A ≠ none := fun e => by
    subst e
    exact absurd ((Rd.row (A := none) (n := l.length) (c := c) (xs := l.flatMap En.cells) hS).some (by rw [flat_len elen]; omega)) (by simp [adr])
  revert hE
  revert hS
  generalize w0 = w
  intro hS hE
  repeat' (first | refine wl_nil ?_ | refine then_n ?_ | refine c_block ?_ | refine c_skip ?_ | refine c_exit ?_ | refine c_ret ?_ | refine then_r ?_ | refine then_e ?_ | refine inb_n ?_ | refine inb_r ?_ | refine inb_e ?_ | refine inb_o rfl ?_ | refine c_cond_t hE rfl ?_ | refine c_cond_f hE rfl ?_ | refine c_rnd ?_ | (refine c_regI 0 ?_; all_goals (refine wl hE rfl ?_; refine qa hE ?_; clear hE a; intro a hE)) | (refine c_regI 1 ?_; all_goals (refine wl hE rfl ?_; refine qm hE ?_; clear hE a; intro a hE); all_goals (refine wl hE rfl ?_; refine qm hE ?_; clear hE a; intro a hE); all_goals (refine wl hE rfl ?_; refine qm hE ?_; clear hE a; intro a hE); all_goals (refine wl hE rfl ?_; refine qm hE ?_; clear hE a; intro a hE); all_goals (refine wl hE rfl ?_; (first | refine qn1 hE ?_ | refine qns hE ?_); clear hE a; intro a hE); all_goals (refine wl hE rfl ?_; first | ((refine qsLHM i (i + 1) l.length hE ?_; clear hE; clear a; intro a hE)) | ((first | refine qsh i hE ?_ | refine qsL (i + 1) hE ?_ | refine qssh hE ?_); clear hE a; intro a hE))) | (refine c_regI 2 ?_; all_goals (refine wl hE rfl ?_; refine qm hE ?_; clear hE a; intro a hE); all_goals (refine wl hE rfl ?_; refine qm hE ?_; clear hE a; intro a hE); all_goals (refine wl hE rfl ?_; (first | refine qb hE ?_ | refine qb2 hE ?_ | refine qbE hE ?_ | refine qbN hE ?_ | refine qpn hE ?_); clear hE a; intro a hE)) | (refine c_regI 4 ?_; all_goals (refine wl hE rfl ?_; refine qm hE ?_; clear hE a; intro a hE); all_goals (refine wl hE rfl ?_; (first | refine qn1 hE ?_ | refine qns hE ?_); clear hE a; intro a hE); all_goals (refine wl hE rfl ?_; refine qa hE ?_; clear hE a; intro a hE)) | refine c_seq ?_ | (refine rg_guard 5 ?_; refine rg_start [] hE hS ?_; clear hS; (try clear w); intro w hS hX; all_goals (first | (refine rg_y 0 hE hX (by exact y_move) ?_ rfl rfl rfl rfl; clear hE a; intro a hE)); all_goals (first | (refine rg_y 1 hE hX (by exact y_move) ?_ rfl rfl rfl rfl; clear hE a; intro a hE)); all_goals (first | (refine rg_y 3 hE hX (by exact y_move) ?_ rfl rfl rfl rfl; clear hE a; intro a hE)); all_goals (first | (refine rg_y 4 hE hX (by exact y_move) ?_ rfl rfl rfl rfl; clear hE a; intro a hE)); all_goals ((refine rg_e2 2 5 (by kernel_rfl) ?_ ?_) <;> first | (intro K hK; refine rg_op (i := 2) hE rfl rfl ?_; (first | ((refine qsLHM i (i + 1) l.length hE ?_; clear hE; clear a; intro a hE)) | ((first | refine qsh i hE ?_ | refine qsL (i + 1) hE ?_ | refine qssh hE ?_); clear hE a; intro a hE)); refine rg_k hK hS ?_; clear hK hX; clear K; intro hX; all_goals (first | (refine rg_e 5 hE rfl rfl (by kernel_rfl) ?_; intro K hK; (first | ((refine qsLHM i (i + 1) l.length hE ?_; clear hE; clear a; intro a hE)) | ((first | refine qsh i hE ?_ | refine qsL (i + 1) hE ?_ | refine qssh hE ?_); clear hE a; intro a hE)); refine rg_k hK hS ?_; clear hK hX; clear K; intro hX)); all_goals (first | (refine rg_e 6 hE rfl rfl (by kernel_rfl) ?_; intro K hK; (first | ((refine qapR (A := A) (c := c) (N := l.length - 1) (k := i) (m := l.length - (i + 1)) (xs := (l.flatMap En.cells).take (i * 4)) (news := (l.drop (i + 1)).flatMap En.cells) (ys := (l.eraseIdx i).flatMap En.cells) hE (hS.row_cut (A := A) (n := l.length) (c := c) i c (by omega) (by omega) (by omega)) (by have := (Rd.row (A := A) (n := l.length) (c := c) (xs := l.flatMap En.cells) hS).sub (flat_len elen l) (i + 1) (by omega) hc1; rwa [flat_drop elen l (i + 1) (by omega)] at this) (en_one _) ?_ (hl := by rw [flat_len elen, List.length_drop]) (hY := by rw [flat_take elen l i (by omega)]; exact del_ys l i hi); clear hE hS; clear a; intro a w hE hS)) | ((first | refine qmin hE ?_ | refine qmax hE ?_); clear hE a; intro a hE)); refine rg_k hK hS ?_; clear hK hX; clear K; intro hX)); all_goals (first | (refine rg_y 7 hE hX (by exact y_assign) ?_ rfl rfl rfl rfl; clear hE a; intro a hE)); all_goals (refine rg_done ?_ (by kernel_rfl); (try clear hX))) | (intro K hK; refine rg_op (i := 5) hE rfl rfl ?_; (first | ((refine qsLHM i (i + 1) l.length hE ?_; clear hE; clear a; intro a hE)) | ((first | refine qsh i hE ?_ | refine qsL (i + 1) hE ?_ | refine qssh hE ?_); clear hE a; intro a hE)); refine rg_k hK hS ?_; clear hK hX; clear K; intro hX; all_goals (first | (refine rg_e 2 hE rfl rfl (by kernel_rfl) ?_; intro K hK; (first | ((refine qsLHM i (i + 1) l.length hE ?_; clear hE; clear a; intro a hE)) | ((first | refine qsh i hE ?_ | refine qsL (i + 1) hE ?_ | refine qssh hE ?_); clear hE a; intro a hE)); refine rg_k hK hS ?_; clear hK hX; clear K; intro hX)); all_goals (first | (refine rg_e 6 hE rfl rfl (by kernel_rfl) ?_; intro K hK; (first | ((refine qapR (A := A) (c := c) (N := l.length - 1) (k := i) (m := l.length - (i + 1)) (xs := (l.flatMap En.cells).take (i * 4)) (news := (l.drop (i + 1)).flatMap En.cells) (ys := (l.eraseIdx i).flatMap En.cells) hE (hS.row_cut (A := A) (n := l.length) (c := c) i c (by omega) (by omega) (by omega)) (by have := (Rd.row (A := A) (n := l.length) (c := c) (xs := l.flatMap En.cells) hS).sub (flat_len elen l) (i + 1) (by omega) hc1; rwa [flat_drop elen l (i + 1) (by omega)] at this) (en_one _) ?_ (hl := by rw [flat_len elen, List.length_drop]) (hY := by rw [flat_take elen l i (by omega)]; exact del_ys l i hi); clear hE hS; clear a; intro a w hE hS)) | ((first | refine qmin hE ?_ | refine qmax hE ?_); clear hE a; intro a hE)); refine rg_k hK hS ?_; clear hK hX; clear K; intro hX)); all_goals (first | (refine rg_y 7 hE hX (by exact y_assign) ?_ rfl rfl rfl rfl; clear hE a; intro a hE)); all_goals (refine rg_done ?_ (by kernel_rfl); (try clear hX))))) | ((refine c_cond hE rfl ?_ ?_) <;> (intro hb; (first | replace hb := of_decide_eq_true hb | replace hb := of_decide_eq_false hb | (simp only [Bool.not_eq_true', Bool.not_eq_false', decide_eq_true_eq, decide_eq_false_iff_not] at hb) | skip); try (exfalso; first | omega | exact absurd trivial hb | exact absurd rfl hb | (simp only [beq_self_eq_true, bne_self_eq_false, reduceCtorEq] at hb; done)))))
  all_goals (obtain ⟨ys, hy, hS2⟩ := hS.row_ext (A := A) (n := l.length - 1) (c := c) 1 (by omega) hAne
             have hz := del_len l i hi
             obtain ⟨hS, hE2⟩ : Sep u0 w (row 80 4 (.slice A (l.length - 1 + 1) c) (l.length - 1 + 1) ((l.eraseIdx i).flatMap En.cells ++ ys) :: L) ∧ Env a 33 [(0, .slice A (l.length - 1) c), (7, .int .i64 l.length)] := ⟨hS2, hE.cut ⟨rfl, rfl, trivial⟩⟩
             replace hE := hE2
             clear hS2 hE2)
  all_goals repeat' (first | refine wl_nil ?_ | refine then_n ?_ | refine c_block ?_ | refine c_skip ?_ | refine c_exit ?_ | refine c_ret ?_ | refine then_r ?_ | refine then_e ?_ | refine inb_n ?_ | refine inb_r ?_ | refine inb_e ?_ | refine inb_o rfl ?_ | refine c_cond_t hE rfl ?_ | refine c_cond_f hE rfl ?_ | refine c_rnd ?_ | (refine c_regI 6 ?_; all_goals (refine wl hE rfl ?_; refine qm hE ?_; clear hE a; intro a hE); all_goals (refine wl hE rfl ?_; refine qm hE ?_; clear hE a; intro a hE); all_goals (refine wl hE rfl ?_; (first | refine qn1 hE ?_ | refine qns hE ?_); clear hE a; intro a hE); all_goals (refine wl hE rfl ?_; refine qm hE ?_; clear hE a; intro a hE); all_goals (refine wl hE rfl ?_; (first | refine qsLH (l.length - 1) l.length hE ?_ | refine qssh hE ?_); clear hE a; intro a hE); all_goals (refine wl hE rfl ?_; first | ((refine qclr (sz := 4) (c := c) (dc := c - (l.length - 1)) (dl := l.length - (l.length - 1)) (zs := [.int .u64 0, .int .u64 0, .int .i64 0, .bool false]) (l.length - 1) 1 (A := A) (N := l.length - 1 + 1) (xs := (l.eraseIdx i).flatMap En.cells ++ ys) hE hS ?_ (by decide) (by omega) (by omega) (by omega) rfl; clear hS; intro w hS)) | ((first | refine qmin hE ?_ | refine qmax hE ?_); clear hE a; intro a hE))) | (refine c_regI 7 ?_; all_goals (refine wl hE rfl ?_; refine qm hE ?_; clear hE a; intro a hE); all_goals (refine wl hE rfl ?_; refine qa hE ?_; clear hE a; intro a hE)) | refine c_seq ?_ | ((refine c_cond hE rfl ?_ ?_) <;> (intro hb; (first | replace hb := of_decide_eq_true hb | replace hb := of_decide_eq_false hb | (simp only [Bool.not_eq_true', Bool.not_eq_false', decide_eq_true_eq, decide_eq_false_iff_not] at hb) | skip); try (exfalso; first | omega | exact absurd trivial hb | exact absurd rfl hb | (simp only [beq_self_eq_true, bne_self_eq_false, reduceCtorEq] at hb; done)))))
  all_goals (have h3 := hS.row_cut (A := A) (n := l.length - 1 + 1) (c := c) (l.length - 1) c (by omega) (by omega) (by omega)
             refine p_ret hE rfl rfl ⟨_, rfl, rfl, ?_⟩
             have e : (putL ((l.eraseIdx i).flatMap En.cells ++ ys) ((l.length - 1) * 4) (List.replicate 1 [Value.int .u64 0, .int .u64 0, .int .i64 0, .bool false]).flatten).take ((l.length - 1) * 4) = (l.eraseIdx i).flatMap En.cells := by
               have h1 : ((l.eraseIdx i).flatMap En.cells).length = (l.length - 1) * 4 := by rw [flat_len elen, hz]
               unfold putL
               rw [List.append_assoc, List.take_append_of_le_length (by rw [List.length_take, List.length_append, h1]; omega), List.take_take, Nat.min_self, List.take_append_of_le_length (by omega), ← h1, List.take_length]
             rw [e] at h3
             exact h3.fit)
end Go.Proofs.Ytdaciolahgfhiaa
/- DERIVED. Layer 10: room for one more. No condition. -/
namespace Go.Proofs.Ytdaciolahgfhiaa
open Go.RowKit Go.Sx Go.Proofs.YtdaciolahgfhiaaTy
set_option linter.unusedVariables false
set_option linter.unusedSimpArgs false
set_option maxRecDepth 100000
attribute [local irreducible] Oper.wp Code.wp wpList wpAnyH Calls bodyPost Exit.then Exit.inBlock Code.rounds
set_option maxHeartbeats 1000000
/-- Which of the first i entries, that are not fixed, is the oldest one (-1: there is none). -/
def oldestTo (l : List En) : Nat → Int
  | 0 => -1
  | i + 1 => if (!(l.getD i E0).f && (decide (oldestTo l i < 0) || decide ((l.getD i E0).t < (l.getD (oldestTo l i).toNat E0).t))) = true then (i : Int) else oldestTo l i
theorem oldestTo_rng (l : List En) : ∀ i : Nat, -1 ≤ oldestTo l i ∧ oldestTo l i < i
  | 0 => by simp [oldestTo]
  | i + 1 => by
    have := oldestTo_rng l i
    simp only [oldestTo]
    split <;> omega
/-- What is left when there is to be room for one more; none: all are fixed. -/
def spareE (room : Int) (l : List En) : Option (List En) := if (l.length : Int) < room then some l else if oldestTo l l.length < 0 then none else some (l.eraseIdx (oldestTo l l.length).toNat)
theorem delete_j (A : Option Addr) (c : Nat) (l : List En) (i : Int) (u0 w0 : World) (L : List Asn) (h0 : 0 ≤ i) (hi : i < l.length) (hl : l.length ≤ 1073741822)
    (hS0 : Sep u0 w0 (row 80 4 (.slice A l.length c) l.length (l.flatMap En.cells) :: L)) :
    Calls Try.prog 75 #[.slice A l.length c, .int .i64 i, .int .i64 (i + 1)] w0 fun e w' => ∃ r, e = .returned r ∧ r = .slice A (l.length - 1) c ∧ Sep u0 w' (row 80 4 (.slice A (l.length - 1) c) (l.length - 1) ((l.eraseIdx i.toNat).flatMap En.cells) :: L) := by
  have := delete_s A c l i.toNat u0 w0 L (by omega) hl hS0
  rw [Int.toNat_of_nonneg h0] at this
  exact this
theorem makeRoom_s (g : Nat) (l : List En) (room life : Int) (u0 w0 : World) (L : List Asn) (hS0 : Sep u0 w0 (Ag g l room life :: L)) (hl : l.length ≤ 1073741822) : Calls Try.prog 54 #[.pointer (some ⟨g, 0, none⟩)] w0 fun e w' => ∃ r, e = .returned r ∧ r = .bool (spareE room l).isSome ∧ Sep u0 w' (Ag g ((spareE room l).getD l) room life :: L) := by
  refine enter (args := [.pointer (some ⟨g, 0, none⟩)]) 66 Try.func54 rfl rfl rfl ?_
  intro a hE _
  obtain ⟨A, c, hS⟩ := Ag.out hS0
  clear hS0
  obtain ⟨hc1, hc2, _⟩ := hS.drop.row_cap
  have hA : (0 : Int) < l.length → A = some (adr A) := fun h => (Rd.row (A := A) (n := l.length) (c := c) (xs := l.flatMap En.cells) hS).some (by rw [flat_len elen]; omega)
  obtain ⟨g0, hg0⟩ : ∃ g0, g0 = g := ⟨_, rfl⟩
  rw [← hg0] at hE hS
  revert hE
  revert hS
  generalize w0 = w
  intro hS hE
  repeat' (first | refine wl_nil ?_ | refine then_n ?_ | refine c_block ?_ | refine c_skip ?_ | refine c_exit ?_ | refine c_ret ?_ | refine then_r ?_ | refine then_e ?_ | refine inb_n ?_ | refine inb_r ?_ | refine inb_e ?_ | refine inb_o rfl ?_ | refine c_cond_t hE rfl ?_ | refine c_cond_f hE rfl ?_ | refine c_rnd ?_ | (refine c_regI 0 ?_; all_goals (refine wl hE rfl ?_; refine qa hE ?_; clear hE a; intro a hE)) | (refine c_regI 2 ?_; all_goals (refine wl hE rfl ?_; refine qa hE ?_; clear hE a; intro a hE)) | (refine c_regI 3 ?_; all_goals (refine wl hE rfl ?_; refine qa hE ?_; clear hE a; intro a hE)) | (refine c_regI 4 ?_; all_goals (refine wl hE rfl ?_; refine qm hE ?_; clear hE a; intro a hE); all_goals (refine wl hE rfl ?_; (first | refine qn hE ?_ | refine qnf hE ?_); clear hE a; intro a hE); all_goals (refine wl hE rfl ?_; (first | refine qf hE ?_ | refine qFF hE ?_ | refine qF hE ?_); clear hE a; intro a hE); all_goals (refine wl hE rfl ?_; (first | refine qf hE ?_ | refine qFF hE ?_ | refine qF hE ?_); clear hE a; intro a hE); all_goals (refine wl hE rfl ?_; (first | refine ql hE hS ?_ | refine qL hE hS ?_ | refine qlr hE hS ?_); clear hE a; intro a hE); all_goals (refine wl hE rfl ?_; (first | refine qn1 hE ?_ | refine qns hE ?_); clear hE a; intro a hE); all_goals (refine wl hE rfl ?_; refine qm hE ?_; clear hE a; intro a hE)) | refine c_seq ?_ | (refine rg_guard 1 ?_; refine rg_start [0] hE hS ?_; clear hS; (try clear w); intro w hS hX; all_goals (first | (refine rg_y 0 hE hX (by exact y_move) ?_ rfl rfl rfl rfl; clear hE a; intro a hE)); all_goals (first | (refine rg_y 1 hE hX (by exact y_nil) ?_ rfl rfl rfl rfl; clear hE a; intro a hE)); all_goals (first | (refine rg_y 2 hE hX (by first | exact y_fieldFF | exact y_field | exact y_fieldF) ?_ rfl rfl rfl rfl; clear hE a; intro a hE)); all_goals (first | (refine rg_y 3 hE hX (by first | exact y_fieldFF | exact y_field | exact y_fieldF) ?_ rfl rfl rfl rfl; clear hE a; intro a hE)); all_goals (first | (refine rg_y 4 hE hX (by first | exact y_load | exact y_loadA) ?_ rfl rfl rfl rfl; clear hE a; intro a hE)); all_goals (first | (refine rg_y 5 hE hX (by first | exact y_len | exact y_lenS) ?_ rfl rfl rfl rfl; clear hE a; intro a hE)); all_goals (first | (refine rg_y 6 hE hX (by exact y_move) ?_ rfl rfl rfl rfl; clear hE a; intro a hE)); all_goals (first | (refine rg_y 7 hE hX (by exact y_nil) ?_ rfl rfl rfl rfl; clear hE a; intro a hE)); all_goals (first | (refine rg_y 8 hE hX (by first | exact y_fieldFF | exact y_field | exact y_fieldF) ?_ rfl rfl rfl rfl; clear hE a; intro a hE)); all_goals (first | (refine rg_y 9 hE hX (by first | exact y_load | exact y_loadA) ?_ rfl rfl rfl rfl; clear hE a; intro a hE)); all_goals (first | (refine rg_y 10 hE hX (by first | exact y_bin | exact y_binE | exact y_binN | exact y_bin2 | exact y_pn) ?_ rfl rfl rfl rfl; clear hE a; intro a hE)); all_goals (refine rg_done ?_ (by kernel_rfl); (try clear hX))) | ((refine c_cond hE rfl ?_ ?_) <;> (intro hb; (first | replace hb := of_decide_eq_true hb | replace hb := of_decide_eq_false hb | (simp only [Bool.not_eq_true', Bool.not_eq_false', decide_eq_true_eq, decide_eq_false_iff_not] at hb) | skip); try (exfalso; first | omega | exact absurd trivial hb | exact absurd rfl hb | (simp only [beq_self_eq_true, bne_self_eq_false, reduceCtorEq] at hb; done)))))
  · subst hg0
    have e : spareE room l = some l := by unfold spareE; rw [if_pos hb]
    rw [e]
    exact p_ret hE rfl rfl ⟨_, rfl, rfl, Ag.in_ hS.fit⟩
  refine c_loopN (fun m a w => ∃ i : Int, 0 ≤ i ∧ i ≤ l.length ∧ m = (l.length - i).toNat ∧ Env a 66 [(0, .pointer (some ⟨g0, 0, none⟩)), (3, .int .i64 (oldestTo l i.toNat)), (21, .slice A l.length c), (22, .int .i64 l.length), (23, .int .i64 i)] ∧ Sep u0 w (blk g0 [.slice A l.length c, .func (.func 45) #[] #[], .int .i64 room, .int .i64 life] 101 :: row 80 4 (.slice A l.length c) l.length (l.flatMap En.cells) :: L)) _ ⟨0, by omega, by omega, rfl, hE.cut ⟨rfl, rfl, rfl, rfl, rfl, trivial⟩, hS⟩ ?_
  clear hE hS a
  clear w
  rintro m a w ⟨i, h0, h1, rfl, hE, hS⟩
  obtain ⟨fi, hfi⟩ : ∃ fi, fi = oldestTo l i.toNat := ⟨_, rfl⟩
  have hrg := oldestTo_rng l i.toNat
  rw [← hfi] at hrg hE
  obtain ⟨x, hx⟩ : ∃ x, l.getD i.toNat E0 = x := ⟨_, rfl⟩
  obtain ⟨y, hy⟩ : ∃ y, l.getD fi.toNat E0 = y := ⟨_, rfl⟩
  repeat' (first | refine wl_nil ?_ | refine then_n ?_ | refine c_block ?_ | refine c_skip ?_ | refine c_exit ?_ | refine c_ret ?_ | refine then_r ?_ | refine then_e ?_ | refine inb_n ?_ | refine inb_r ?_ | refine inb_e ?_ | refine inb_o rfl ?_ | refine c_cond_t hE rfl ?_ | refine c_cond_f hE rfl ?_ | refine c_rnd ?_ | (refine c_midr (id := 7) (I := fun a w => Env a 66 [(0, .pointer (some ⟨g0, 0, none⟩)), (3, .int .i64 fi), (4, .int .i64 i), (21, .slice A l.length c), (22, .int .i64 l.length), (23, .int .i64 i), (48, .bool (!x.f && (or (decide (fi < 0)) (decide (x.t < y.t)))))] ∧ Sep u0 w (blk g0 [.slice A l.length c, .func (.func 45) #[] #[], .int .i64 room, .int .i64 life] 101 :: row 80 4 (.slice A l.length c) l.length (l.flatMap En.cells) :: L)) ?_ ?_; rotate_left; clear hE hS; clear a w; rintro a w ⟨hE, hS⟩; skip) | (refine c_regI 5 ?_; all_goals (refine wl hE rfl ?_; (first | refine qb hE ?_ | refine qb2 hE ?_ | refine qbE hE ?_ | refine qbN hE ?_ | refine qpn hE ?_); clear hE a; intro a hE)) | (refine c_regI 6 ?_; all_goals (refine wl hE rfl ?_; refine qm hE ?_; clear hE a; intro a hE); all_goals (refine wl hE rfl ?_; (first | refine qi hE hA ?_ | refine qi hE (fun _ => rfl) ?_ | refine qia hE ?_); clear hE a; intro a hE); all_goals (refine wl hE rfl ?_; (first | refine qlR (i := i) (us := x.cells) (df := E0) hE hS elen (by rw [hx]) ?_ | refine qlP (i := fi) (df := E0) 2 hE hS elen (by rw [hy]; rfl) ?_ | refine ql hE hS ?_ | refine qL hE hS ?_ | refine qlr hE hS ?_); clear hE a; intro a hE); all_goals (refine wl hE rfl ?_; (first | refine qal hE hS ?_); clear hE hS; clear a; intro g a w hE hS); all_goals (refine wl hE rfl ?_; refine qa hE ?_; clear hE a; intro a hE); all_goals (refine wl hE rfl ?_; (first | refine qst0 hE hS ?_ | refine qst hE hS ?_); clear hS; intro w hS)) | (refine c_regI 8 ?_; all_goals (refine wl hE rfl ?_; refine qm hE ?_; clear hE a; intro a hE); all_goals (refine wl hE rfl ?_; refine qa hE ?_; clear hE a; intro a hE)) | (refine c_regI 9 ?_; all_goals (refine wl hE rfl ?_; (first | refine qb hE ?_ | refine qb2 hE ?_ | refine qbE hE ?_ | refine qbN hE ?_ | refine qpn hE ?_); clear hE a; intro a hE); all_goals (refine wl hE rfl ?_; refine qm hE ?_; clear hE a; intro a hE)) | (refine c_regI 10 ?_; all_goals (refine wl hE rfl ?_; refine qm hE ?_; clear hE a; intro a hE); all_goals (refine wl hE rfl ?_; (first | refine qb hE ?_ | refine qb2 hE ?_ | refine qbE hE ?_ | refine qbN hE ?_ | refine qpn hE ?_); clear hE a; intro a hE)) | (refine c_regI 11 ?_; all_goals (refine wl hE rfl ?_; refine qa hE ?_; clear hE a; intro a hE)) | refine c_seq ?_ | ((refine c_cond hE rfl ?_ ?_) <;> (intro hb; (first | replace hb := of_decide_eq_true hb | replace hb := of_decide_eq_false hb | (simp only [Bool.not_eq_true', Bool.not_eq_false', decide_eq_true_eq, decide_eq_false_iff_not] at hb) | skip); try (exfalso; first | omega | exact absurd trivial hb | exact absurd rfl hb | (simp only [beq_self_eq_true, bne_self_eq_false, reduceCtorEq] at hb; done)))))
  rotate_left
  rotate_left
  · skip
    repeat' (first | refine wl_nil ?_ | refine then_n ?_ | refine c_block ?_ | refine c_skip ?_ | refine c_exit ?_ | refine c_ret ?_ | refine then_r ?_ | refine then_e ?_ | refine inb_n ?_ | refine inb_r ?_ | refine inb_e ?_ | refine inb_o rfl ?_ | refine c_cond_t hE rfl ?_ | refine c_cond_f hE rfl ?_ | refine c_rnd ?_ | fail | refine c_seq ?_ | (refine rg_guard 7 ?_; refine rg_start [5, 0] hE hS ?_; clear hS; (try clear w); intro w hS hX; all_goals (first | (refine rg_y 0 hE hX (by first | exact y_fieldFF | exact y_field | exact y_fieldF | exact y_index hA) ?_ rfl rfl rfl rfl; clear hE a; intro a hE)); all_goals (first | (refine rg_y 1 hE hX (by first | exact y_load | exact y_loadA | exact y_index hA) ?_ rfl rfl rfl rfl; clear hE a; intro a hE)); all_goals (first | (refine rg_y 2 hE hX (by first | exact y_not | exact y_index hA) ?_ rfl rfl rfl rfl; clear hE a; intro a hE)); all_goals (first | (refine rg_y 3 hE hX (by first | exact y_move | exact y_index hA) ?_ rfl rfl rfl rfl; clear hE a; intro a hE)); all_goals (first | (refine rg_y 4 hE hX (by first | exact y_move | exact y_index hA) ?_ rfl rfl rfl rfl; clear hE a; intro a hE) | (refine rg_n 4 hE hX ?_ rfl rfl rfl rfl; clear hE a; intro a hE) | ((refine rg_split hE 31 rfl ?_ ?_) <;> (clear hE; intro hb hE; (first | replace hb := of_decide_eq_true hb | replace hb := of_decide_eq_false hb | (simp only [Bool.not_eq_true', Bool.not_eq_false', decide_eq_true_eq, decide_eq_false_iff_not] at hb) | skip); try (exfalso; first | omega | exact absurd trivial hb | exact absurd rfl hb | (simp only [beq_self_eq_true, bne_self_eq_false, reduceCtorEq] at hb; done))) <;> (first | (refine rg_y 4 hE hX (by first | exact y_move | exact y_index hA) ?_ rfl rfl rfl rfl; clear hE a; intro a hE) | (refine rg_n 4 hE hX ?_ rfl rfl rfl rfl; clear hE a; intro a hE)))); all_goals (first | (refine rg_y 5 hE hX (by first | exact y_bin | exact y_binE | exact y_binN | exact y_bin2 | exact y_pn | exact y_index hA) ?_ rfl rfl rfl rfl; clear hE a; intro a hE) | (refine rg_n 5 hE hX ?_ rfl rfl rfl rfl; clear hE a; intro a hE)); all_goals (first | (refine rg_y 6 hE hX (by first | exact y_move | exact y_index hA) ?_ rfl rfl rfl rfl; clear hE a; intro a hE) | (refine rg_n 6 hE hX ?_ rfl rfl rfl rfl; clear hE a; intro a hE)); all_goals (first | (refine rg_y 7 hE hX (by first | exact y_fieldFF | exact y_field | exact y_fieldF | exact y_index hA) ?_ rfl rfl rfl rfl; clear hE a; intro a hE) | (refine rg_n 7 hE hX ?_ rfl rfl rfl rfl; clear hE a; intro a hE) | ((refine rg_split hE 34 rfl ?_ ?_) <;> (clear hE; intro hb hE; (first | replace hb := of_decide_eq_true hb | replace hb := of_decide_eq_false hb | (simp only [Bool.not_eq_true', Bool.not_eq_false', decide_eq_true_eq, decide_eq_false_iff_not] at hb) | skip); try (exfalso; first | omega | exact absurd trivial hb | exact absurd rfl hb | (simp only [beq_self_eq_true, bne_self_eq_false, reduceCtorEq] at hb; done))) <;> (first | (refine rg_y 7 hE hX (by first | exact y_fieldFF | exact y_field | exact y_fieldF | exact y_index hA) ?_ rfl rfl rfl rfl; clear hE a; intro a hE) | (refine rg_n 7 hE hX ?_ rfl rfl rfl rfl; clear hE a; intro a hE)))); all_goals (first | (refine rg_y 8 hE hX (by first | exact y_load | exact y_loadA | exact y_index hA) ?_ rfl rfl rfl rfl; clear hE a; intro a hE) | (refine rg_n 8 hE hX ?_ rfl rfl rfl rfl; clear hE a; intro a hE)); all_goals (first | (refine rg_y 9 hE hX (by first | exact y_move | exact y_index hA) ?_ rfl rfl rfl rfl; clear hE a; intro a hE) | (refine rg_n 9 hE hX ?_ rfl rfl rfl rfl; clear hE a; intro a hE)); all_goals (first | (refine rg_y 10 hE hX (by first | exact y_nil | exact y_index hA) ?_ rfl rfl rfl rfl; clear hE a; intro a hE) | (refine rg_n 10 hE hX ?_ rfl rfl rfl rfl; clear hE a; intro a hE)); all_goals (first | (refine rg_y 11 hE hX (by first | exact y_fieldFF | exact y_field | exact y_fieldF | exact y_index hA) ?_ rfl rfl rfl rfl; clear hE a; intro a hE) | (refine rg_n 11 hE hX ?_ rfl rfl rfl rfl; clear hE a; intro a hE)); all_goals (first | (refine rg_y 12 hE hX (by first | exact y_fieldFF | exact y_field | exact y_fieldF | exact y_index hA) ?_ rfl rfl rfl rfl; clear hE a; intro a hE) | (refine rg_n 12 hE hX ?_ rfl rfl rfl rfl; clear hE a; intro a hE)); all_goals (first | (refine rg_y 13 hE hX (by first | exact y_load | exact y_loadA | exact y_index hA) ?_ rfl rfl rfl rfl; clear hE a; intro a hE) | (refine rg_n 13 hE hX ?_ rfl rfl rfl rfl; clear hE a; intro a hE)); all_goals (first | (refine rg_y 14 hE hX (by first | exact y_move | exact y_index hA) ?_ rfl rfl rfl rfl; clear hE a; intro a hE) | (refine rg_n 14 hE hX ?_ rfl rfl rfl rfl; clear hE a; intro a hE)); all_goals (first | (refine rg_y 15 hE hX (by first | exact y_ia | exact y_index hA) ?_ rfl rfl rfl rfl; clear hE a; intro a hE) | (refine rg_n 15 hE hX ?_ rfl rfl rfl rfl; clear hE a; intro a hE)); all_goals (first | (refine rg_y 16 hE hX (by first | exact y_fieldFF | exact y_field | exact y_fieldF | exact y_index hA) ?_ rfl rfl rfl rfl; clear hE a; intro a hE) | (refine rg_n 16 hE hX ?_ rfl rfl rfl rfl; clear hE a; intro a hE)); all_goals (first | (refine rg_e 17 hE rfl rfl (by kernel_rfl) ?_; intro K hK; (first | ((first | refine qlP (i := fi) (df := E0) 2 hE hS elen (by rw [hy]; rfl) ?_ | refine ql hE hS ?_ | refine qL hE hS ?_ | refine qlr hE hS ?_); clear hE a; intro a hE)); refine rg_k hK hS ?_; clear hK hX; clear K; intro hX) | (refine rg_es 17 hE hX rfl rfl rfl rfl (by kernel_rfl) ?_; clear hE a; intro a hE)); all_goals (first | (refine rg_y 18 hE hX (by first | exact y_bin | exact y_binE | exact y_binN | exact y_bin2 | exact y_pn | exact y_index hA) ?_ rfl rfl rfl rfl; clear hE a; intro a hE) | (refine rg_n 18 hE hX ?_ rfl rfl rfl rfl; clear hE a; intro a hE)); all_goals (first | (refine rg_y 19 hE hX (by first | exact y_pick_t | exact y_pick_f | exact y_index hA) ?_ rfl rfl rfl rfl; clear hE a; intro a hE) | (refine rg_n 19 hE hX ?_ rfl rfl rfl rfl; clear hE a; intro a hE)); all_goals (first | (refine rg_y 20 hE hX (by first | exact y_pick_t | exact y_pick_f | exact y_index hA) ?_ rfl rfl rfl rfl; clear hE a; intro a hE)); all_goals (refine rg_done ?_ (by kernel_rfl); (try clear hX))) | ((refine c_cond hE rfl ?_ ?_) <;> (intro hb; (first | replace hb := of_decide_eq_true hb | replace hb := of_decide_eq_false hb | (simp only [Bool.not_eq_true', Bool.not_eq_false', decide_eq_true_eq, decide_eq_false_iff_not] at hb) | skip); try (exfalso; first | omega | exact absurd trivial hb | exact absurd rfl hb | (simp only [beq_self_eq_true, bne_self_eq_false, reduceCtorEq] at hb; done)))))
    all_goals refine ⟨hE.cut ⟨rfl, rfl, rfl, rfl, rfl, rfl, (Eq.trans (b := some (Value.bool _)) rfl (congrArg (fun b => some (Value.bool b)) ?_)), trivial⟩, hS.fit⟩
    all_goals clear hE hS hfi hx hy hrg
    all_goals simp [*]
  · subst hg0
    have ei : i.toNat = l.length := by omega
    have e : spareE room l = none := by
      unfold spareE
      rw [if_neg (by omega), ← ei, ← hfi, if_pos hb]
    rw [e]
    exact p_ret hE rfl rfl ⟨_, rfl, rfl, Ag.in_ hS.fit⟩
  · have ei : i.toNat = l.length := by omega
    have hfi2 : fi.toNat < l.length := by omega
    have hz := del_len l fi.toNat hfi2
    repeat' (first | refine wl_nil ?_ | refine then_n ?_ | refine c_block ?_ | refine c_skip ?_ | refine c_exit ?_ | refine c_ret ?_ | refine then_r ?_ | refine then_e ?_ | refine inb_n ?_ | refine inb_r ?_ | refine inb_e ?_ | refine inb_o rfl ?_ | refine c_cond_t hE rfl ?_ | refine c_cond_f hE rfl ?_ | refine c_rnd ?_ | (refine c_regI 12 ?_; all_goals (refine wl hE rfl ?_; refine qm hE ?_; clear hE a; intro a hE); all_goals (refine wl hE rfl ?_; refine qm hE ?_; clear hE a; intro a hE); all_goals (refine wl hE rfl ?_; (first | refine qn hE ?_ | refine qnf hE ?_); clear hE a; intro a hE); all_goals (refine wl hE rfl ?_; (first | refine qf hE ?_ | refine qFF hE ?_ | refine qF hE ?_); clear hE a; intro a hE); all_goals (refine wl hE rfl ?_; (first | refine qf hE ?_ | refine qFF hE ?_ | refine qF hE ?_); clear hE a; intro a hE); all_goals (refine wl hE rfl ?_; (first | refine ql hE hS ?_ | refine qL hE hS ?_ | refine qlr hE hS ?_); clear hE a; intro a hE); all_goals (refine wl hE rfl ?_; refine qm hE ?_; clear hE a; intro a hE); all_goals (refine wl hE rfl ?_; refine qm hE ?_; clear hE a; intro a hE); all_goals (refine wl hE rfl ?_; (first | refine qb hE ?_ | refine qb2 hE ?_ | refine qbE hE ?_ | refine qbN hE ?_ | refine qpn hE ?_); clear hE a; intro a hE); all_goals (refine wl hE rfl ?_; refine is_call 75 rfl ?_; refine qc hE (delete_j A c l fi u0 _ _ (by omega) (by omega) hl hS.fit) ?_; clear hE hS; clear a; rintro _ a w ⟨rfl, hS⟩ hE); all_goals (refine wl hE rfl ?_; (first | refine qn hE ?_ | refine qnf hE ?_); clear hE a; intro a hE); all_goals (refine wl hE rfl ?_; (first | refine qf hE ?_ | refine qFF hE ?_ | refine qF hE ?_); clear hE a; intro a hE); all_goals (refine wl hE rfl ?_; (first | refine qf hE ?_ | refine qFF hE ?_ | refine qF hE ?_); clear hE a; intro a hE); all_goals (refine wl hE rfl ?_; (first | refine qst0 hE hS ?_ | refine qst hE hS ?_); clear hS; intro w hS)) | (refine c_regI 13 ?_; all_goals (refine wl hE rfl ?_; refine qa hE ?_; clear hE a; intro a hE)) | refine c_seq ?_ | ((refine c_cond hE rfl ?_ ?_) <;> (intro hb; (first | replace hb := of_decide_eq_true hb | replace hb := of_decide_eq_false hb | (simp only [Bool.not_eq_true', Bool.not_eq_false', decide_eq_true_eq, decide_eq_false_iff_not] at hb) | skip); try (exfalso; first | omega | exact absurd trivial hb | exact absurd rfl hb | (simp only [beq_self_eq_true, bne_self_eq_false, reduceCtorEq] at hb; done)))))
    all_goals subst hg0
    have e : spareE room l = some (l.eraseIdx fi.toNat) := by
      unfold spareE
      rw [if_neg (by omega), ← ei, ← hfi, if_neg hb]
    rw [e]
    refine p_ret hE rfl rfl ⟨_, rfl, rfl, Ag.in_ (A := A) (c := c) ?_⟩
    simp only [Option.getD_some]
    rw [hz]
    exact hS.fit
  · refine ⟨_, ?_, i + 1, by omega, by omega, rfl, ?_, hS.fit⟩
    · omega
    have e : oldestTo l (i + 1).toNat = i := by
      have e1 : (i + 1).toNat = i.toNat + 1 := by omega
      rw [e1, oldestTo, ← hfi, hx, hy, if_pos hb]
      omega
    rw [e]
    exact hE.cut ⟨rfl, rfl, rfl, rfl, rfl, trivial⟩
  · refine ⟨_, ?_, i + 1, by omega, by omega, rfl, ?_, hS.fit⟩
    · omega
    have e : oldestTo l (i + 1).toNat = fi := by
      have e1 : (i + 1).toNat = i.toNat + 1 := by omega
      rw [e1, oldestTo, ← hfi, hx, hy, if_neg (by rw [hb]; decide)]
    rw [e]
    exact hE.cut ⟨rfl, rfl, rfl, rfl, rfl, trivial⟩
end Go.Proofs.Ytdaciolahgfhiaa

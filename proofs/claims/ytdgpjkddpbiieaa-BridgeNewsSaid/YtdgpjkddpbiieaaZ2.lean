/- DERIVED. Texts Sm, Ty, C1, C2, C4, C5, Sf, C6, C7, C3, C8, A1, A2 of this session, put together by a program of it (merge.py). No condition. -/
import Derived.Maps.Own
import Derived.Maps.Views
import Derived.Test.YtdgpjkddpbiieaaProg
import Derived.KernelRfl
import Derived.RangeFuncFrom
import Derived.RangeFuncKeeps
import Derived.RangeFuncLeaves
import Derived.RangeFuncCalls
import Derived.TacticsIn
import Derived.RangeFuncBox
import Derived.RangeFuncNested
import Derived.Shelf.Abstract
import Derived.WalkKit
import Derived.OwnWalkIn
import Derived.TacticsInMore
import Derived.LoopNIn
import Derived.LoopIn
import Derived.Maps.AppendAt
import Derived.Maps.OwnIn
import Derived.Test.YtdgpjkddpbiieaaZ1
/- DERIVED. Maps with keys of an integer kind, as functions; calls of function values. No condition. -/
namespace Go.Sx
open Go.RowKit
set_option linter.unusedVariables false
set_option linter.unusedSimpArgs false
/-- How a map's value reads: as itself. -/
def asIs (v : Value) : Option (DataW (Option Value) × List MemPlace) := some (.held (some v), [])
/-- The block b is a map of at most n entries, that has these. -/
def mapOwn (P : Program) (k : TypeId) (q : IntKind) (w : World) (b n : Nat) (f : Int → Option Value) : Prop :=
  ∃ D, w.ownsMap P k asIs b n D ∧ ∀ x, D.atKey (.int q x) (.held none) = .held (f x)
def mpA (P : Program) (k : TypeId) (q : IntKind) (b n : Nat) (f : Int → Option Value) : Asn where
  P w F := mapOwn P k q w b n f ∧ ∀ i, F i ↔ i = b
  move := by
    rintro w w' F ⟨⟨D, ⟨es, clock, hb, h1, h2, h3⟩, h⟩, hF⟩ hm
    exact ⟨⟨D, ⟨es, clock, (hm b ((hF b).2 rfl)).trans hb, h1, h2, h3⟩, h⟩, hF⟩
class MapTy (P : Program) (t : TypeId) (k e : outParam TypeId) (q : outParam IntKind) (z : outParam Value) : Prop where
  h1 : P.underlying t = some (.map k e)
  h2 : P.underlying k = some (.int q)
  h3 : (P.info? e).map (·.zero) = some (some z)
theorem mp_zero {P : Program} {t k e : TypeId} {q : IntKind} {z : Value} (T : MapTy P t k e q z) (w : World) : (zeroValue e).run P w = .ok z w := by
  have h := T.h3
  cases hi : P.info? e with
  | none => rw [hi] at h; simp at h
  | some i =>
    rw [hi] at h
    have hz : i.zero = some z := by simpa using h
    simp [zeroValue, typeInfo, hi, hz]
section
variable {P : Program} {o : Oper} {a : Act} {w w0 : World} {Q : Exit → Act → World → Prop} {n : Nat} {env : List (Nat × Value)} {L L' : List Asn} {K : Act → World → Prop}
theorem Sep.map_at {k : TypeId} {q : IntKind} {b m : Nat} {f : Int → Option Value} (h : Sep w0 w L) (hp : Pull (mpA P k q b m f) L L' := by repeat (first | exact Pull.here | apply Pull.there)) : mapOwn P k q w b m f := by
  obtain ⟨F, ⟨F1, F2, _, _, hA, _⟩, _⟩ := (h.pull hp).own
  exact hA.1
/-- A new map. -/
theorem qmk {t k e : TypeId} {q : IntKind} {z : Value} {d : Tmp} (hE : Env a n env) (hS : Sep w0 w L) (kk : ∀ b a' w', Env a' n ((d, .map (some b)) :: env) → Sep w0 w' (mpA P k q b 0 (fun _ => none) :: L) → K a' w') (ho : o.op = .makeMap t none := by exact rfl) (T : MapTy P t k e q z := by infer_instance) (hd : o.dst = some d := by exact rfl) (hlt : Nat.blt d n = true := by exact rfl) : o.wp P a w K Q := by
  have hr : (execOp a.eval o).run P w = .ok (.value (.map (some w.heap.size))) (w.alloc (.map #[] 0)) := by
    simp [execOp, ho, run_makeMap]
  unfold Oper.wp
  rw [hr]
  refine kk _ _ _ (hE.putS _ hd hlt) (hS.new _ fun w' hw => ⟨⟨.map [], ⟨#[], 0, hw, ⟨by simp, MapKept.stamped_empty 0, by simp⟩, Nat.le_refl _, rfl⟩, fun x => rfl⟩, fun _ => Iff.rfl⟩)
theorem look_at {t k e : TypeId} {q : IntKind} {z : Value} (T : MapTy P t k e q z) {b m : Nat} {f : Int → Option Value} (h : mapOwn P k q w b m f) {x : Int} (hx : (Lit.int q x).wf = true) (c : Bool) :
    (Instr.lookup t (.map (some b)) (.int q x) c).run P w = .ok (if c then .tuple #[(f x).getD z, .bool (f x).isSome] else (f x).getD z) w := by
  obtain ⟨D, ⟨es, clock, hb, F, _, rfl⟩, hD⟩ := h
  have hkey := Maps.keyOf_int_mk T.h2 hx
  rcases Maps.fit_look c (Maps.int_keyed T.h2) T.h1 (mp_zero T w) hb F hkey with ⟨hrun, _, hat⟩ | ⟨e0, y, _, _, hrun, hRv, hat, _⟩
  · have h1 := (hat (.held none)).symm.trans (hD x)
    have h2 : f x = none := by injection h1 with h1; exact h1.symm
    rw [hrun, h2]
    rfl
  · have h1 := (hat (.held none)).symm.trans (hD x)
    have h3 : y = (.held (some e0.val), []) := by
      have : asIs e0.val = some y := hRv
      exact (Option.some.inj this).symm
    subst h3
    have h2 : f x = some e0.val := by injection h1 with h1; exact h1.symm
    rw [hrun, h2]
    rfl
/-- m[k]. -/
theorem qlk {t k e : TypeId} {q : IntKind} {z v : Value} {m x : Operand} {b N : Nat} {f : Int → Option Value} {i : Int} {d : Tmp} (hE : Env a n env) (hS : Sep w0 w L) (hx : (Lit.int q i).wf = true) (hv : (f i).getD z = v) (kk : ∀ a', Env a' n ((d, v) :: env) → K a' w) (ho : o.op = .lookup t m x false := by exact rfl) (T : MapTy P t k e q z := by infer_instance)
    (hm : opv env m = some (.map (some b)) := by exact rfl) (hi : opv env x = some (.int q i) := by exact rfl) (hp : Pull (mpA P k q b N f) L L' := by repeat (first | exact Pull.here | apply Pull.there)) (hd : o.dst = some d := by exact rfl) (hlt : Nat.blt d n = true := by exact rfl) : o.wp P a w K Q := by
  subst hv
  exact o_val hE (by simp [execOp, ho, hE.eval hm, hE.eval hi, look_at T (hS.map_at hp) hx]) hd hlt kk
/-- m[k], and whether it is there. -/
theorem qlk2 {t k e : TypeId} {q : IntKind} {z v : Value} {c : Bool} {m x : Operand} {b N : Nat} {f : Int → Option Value} {i : Int} {d : Tmp} (hE : Env a n env) (hS : Sep w0 w L) (hx : (Lit.int q i).wf = true) (hv : (f i).getD z = v) (hc : (f i).isSome = c) (kk : ∀ a', Env a' n ((d, .tuple #[v, .bool c]) :: env) → K a' w) (ho : o.op = .lookup t m x true := by exact rfl) (T : MapTy P t k e q z := by infer_instance)
    (hm : opv env m = some (.map (some b)) := by exact rfl) (hi : opv env x = some (.int q i) := by exact rfl) (hp : Pull (mpA P k q b N f) L L' := by repeat (first | exact Pull.here | apply Pull.there)) (hd : o.dst = some d := by exact rfl) (hlt : Nat.blt d n = true := by exact rfl) : o.wp P a w K Q := by
  subst hv hc
  exact o_val hE (by simp [execOp, ho, hE.eval hm, hE.eval hi, look_at T (hS.map_at hp) hx]) hd hlt kk
def fput (f : Int → Option Value) (i : Int) (v : Value) : Int → Option Value := fun x => if x = i then some v else f x
/-- m[k] = v. -/
theorem qup {t k e : TypeId} {q : IntKind} {z v : Value} {m x y : Operand} {b N : Nat} {f : Int → Option Value} {i : Int} (hE : Env a n env) (hS : Sep w0 w L) (hx : (Lit.int q i).wf = true) (kk : ∀ w', Sep w0 w' (mpA P k q b (N + 1) (fput f i v) :: L') → K a w') (ho : o.op = .mapUpdate t m x y := by exact rfl) (T : MapTy P t k e q z := by infer_instance)
    (hm : opv env m = some (.map (some b)) := by exact rfl) (hi : opv env x = some (.int q i) := by exact rfl) (hy : opv env y = some v := by exact rfl) (hp : Pull (mpA P k q b N f) L L' := by repeat (first | exact Pull.here | apply Pull.there)) (hN : N < maxLen := by first | omega | (unfold maxLen; omega)) (hd : o.dst = none := by exact rfl) : o.wp P a w K Q := by
  obtain ⟨D, hown, hD⟩ := hS.map_at hp
  have hkey := Maps.keyOf_int_mk T.h2 hx
  obtain ⟨w', hrun, hown', hg⟩ := hown.update (Maps.int_keyed T.h2) T.h1 hN hkey (rfl : asIs v = some _)
  have hr : (execOp a.eval o).run P w = .ok .skip w' ∨ (execOp a.eval o).run P w = .ok (.value undef) w' := by
    first
    | exact .inl (by simp [execOp, ho, hE.eval hm, hE.eval hi, hE.eval hy, hrun])
    | exact .inr (by simp [execOp, ho, hE.eval hm, hE.eval hi, hE.eval hy, hrun])
  have hf : ∀ x, (D.put (.int q i) (.held (some v))).atKey (.int q x) (.held none) = .held (fput f i v x) := fun x => by
    have hmD : Maps.IsMap D := by
      obtain ⟨es, clock, _, _, _, rfl⟩ := hown
      exact ⟨_, rfl⟩
    unfold fput
    by_cases e : x = i
    · subst e
      rw [if_pos rfl, Maps.atKey_put_same hmD ((Maps.int_keyed T.h2).key hkey)]
    · rw [if_neg e, Maps.atKey_put_other (fun h => e (by injection h)), hD]
  have hlt : b < w.heap.size := hown.lt
  have hS' : Sep w0 w' (mpA P k q b (N + 1) (fput f i v) :: L') := by
    refine Sep.turn (M := [mpA P k q b (N + 1) (fput f i v)]) (hS.pull hp) hg.os hg.tape hg.output hg.size fun F hA hF => ⟨fun j hj hn => hg.block j hj (fun e => hn ((hA.2 j).2 (by injection e))), fun j => j = b, ⟨fun j => j = b, fun _ => False, fun j => by simp, fun _ _ h => h, ⟨⟨_, hown', hf⟩, fun j => Iff.rfl⟩, fun _ h => h⟩, fun j hj => ?_⟩
    subst hj
    exact ⟨.inl ((hA.2 _).2 rfl), hown'.lt⟩
  have e : ∀ u, a.put o.dst u = a := fun u => by rw [hd]; rfl
  unfold Oper.wp
  rcases hr with hr | hr
  · rw [hr]
    show K (a.put o.dst undef) w'
    rw [e]
    exact kk w' hS'
  · rw [hr]
    show K (a.put o.dst undef) w'
    rw [e]
    exact kk w' hS'
/-- A function value. -/
theorem qmf2 {f : FuncId} {A B : Array Operand} {va vb : List Value} {d : Tmp} (hE : Env a n env) (k : ∀ a', Env a' n ((d, .func (.func f) va.toArray vb.toArray) :: env) → K a' w) (ho : o.op = .makeFunc (.func f) A B := by exact rfl) (ha : argsOf env A.toList = some va := by exact rfl) (hb : argsOf env B.toList = some vb := by exact rfl) (hd : o.dst = some d := by exact rfl) (hlt : Nat.blt d n = true := by exact rfl) : o.wp P a w K Q := by
  have e1 : A.map a.eval = va.toArray := Array.toList_inj.1 (by simpa using hE.args ha)
  have e2 : B.map a.eval = vb.toArray := Array.toList_inj.1 (by simpa using hE.args hb)
  refine o_makeFunc hE ho e1 e2 ?_ hd hlt k
  rfl
/-- A call of a function value. -/
theorem qcF {f : FuncId} {x : Operand} {cs : List Value} {ars : Array Operand} {ts : Array TypeId} {vs : List Value} {R : Value → World → Prop} {d : Tmp} (hE : Env a n env) (hc : Calls P f (vs ++ cs).toArray w fun e w' => ∃ v, e = .returned v ∧ R v w') (kk : ∀ v a' w', R v w' → Env a' n ((d, v) :: env) → K a' w') (ho : o.op = .call { callee := .value x, args := ars, argTypes := ts } := by exact rfl)
    (hx : opv env x = some (.func (.func f) #[] cs.toArray) := by exact rfl) (F : FnTy P f := by infer_instance) (ha : argsOf env ars.toList = some vs := by exact rfl) (hd : o.dst = some d := by exact rfl) (hlt : Nat.blt d n = true := by exact rfl) : o.wp P a w K Q := by
  obtain ⟨fn, hf, hn, hb⟩ := F.h
  have hm : ars.map a.eval = vs.toArray := Array.toList_inj.1 (by simpa using hE.args ha)
  have hr : (execOp a.eval o).run P w = .ok (.enter f (vs ++ cs).toArray) w := by
    have hb' : fn.body ≠ none := by intro h; rw [h] at hb; simp at hb
    have hn' : fn.name ≠ "runtime.NumGoroutine" := by simpa using hn
    simp [execOp, ho, resolve, hm, hE.eval hx, Deferred.ofValue, invoke, callFunc, program, Sem.run, hf, hn', hb']
  unfold Oper.wp
  rw [hr]
  refine Calls.mono hc ?_
  rintro e w' ⟨v, rfl, hR⟩
  exact kk v _ w' hR (hE.putS v hd hlt)
end
end Go.Sx
/- DERIVED. Written by a program of this session (ty.py): what the walk asks of this seat's types and functions. -/
namespace Go.Proofs.YtdgpjkddpbiieaaTy
open Go.Sx
set_option maxRecDepth 100000
instance : TyInfo Try.prog 1 false 1 := ⟨by kernel_rfl, by kernel_rfl⟩
instance : ZeroTy Try.prog 1 [.nilFunc] := ⟨by kernel_rfl⟩
instance : TyInfo Try.prog 2 false 1 := ⟨by kernel_rfl, by kernel_rfl⟩
instance : ZeroTy Try.prog 2 [.int .i64 0] := ⟨by kernel_rfl⟩
instance : IntTy Try.prog 2 .i64 := ⟨Try.underlying2⟩
instance : TyInfo Try.prog 3 false 1 := ⟨by kernel_rfl, by kernel_rfl⟩
instance : ZeroTy Try.prog 3 [.int .i64 0] := ⟨by kernel_rfl⟩
instance : IntTy Try.prog 3 .i64 := ⟨Try.underlying3⟩
instance : TyInfo Try.prog 4 false 1 := ⟨by kernel_rfl, by kernel_rfl⟩
instance : ZeroTy Try.prog 4 [.bool false] := ⟨by kernel_rfl⟩
instance : BoolTy Try.prog 4 := ⟨Try.underlying4⟩
instance : TyInfo Try.prog 5 false 1 := ⟨by kernel_rfl, by kernel_rfl⟩
instance : ZeroTy Try.prog 5 [.int .u8 0] := ⟨by kernel_rfl⟩
instance : IntTy Try.prog 5 .u8 := ⟨Try.underlying5⟩
instance : TyInfo Try.prog 9 false 1 := ⟨by kernel_rfl, by kernel_rfl⟩
instance : ZeroTy Try.prog 9 [.string ⟨#[]⟩] := ⟨by kernel_rfl⟩
instance : StrTy Try.prog 9 := ⟨Try.underlying9⟩
instance : TyInfo Try.prog 12 false 1 := ⟨by kernel_rfl, by kernel_rfl⟩
instance : ZeroTy Try.prog 12 [.int .u64 0] := ⟨by kernel_rfl⟩
instance : IntTy Try.prog 12 .u64 := ⟨Try.underlying12⟩
instance : TyInfo Try.prog 20 false 1 := ⟨by kernel_rfl, by kernel_rfl⟩
instance : ZeroTy Try.prog 20 [.nilIface] := ⟨by kernel_rfl⟩
instance : TyInfo Try.prog 21 false 1 := ⟨by kernel_rfl, by kernel_rfl⟩
instance : ZeroTy Try.prog 21 [.int .i32 0] := ⟨by kernel_rfl⟩
instance : IntTy Try.prog 21 .i32 := ⟨Try.underlying21⟩
instance : TyInfo Try.prog 22 false 1 := ⟨by kernel_rfl, by kernel_rfl⟩
instance : ZeroTy Try.prog 22 [.slice none 0 0] := ⟨by kernel_rfl⟩
instance : SliceTy Try.prog 22 55 3 := ⟨Try.underlying22, by kernel_rfl, by decide⟩
instance : AppTy Try.prog 22 55 3 := ⟨Try.underlying22, by kernel_rfl, by decide⟩
instance : TyInfo Try.prog 23 true 4 := ⟨by kernel_rfl, by kernel_rfl⟩
instance : ZeroTy Try.prog 23 [.int .i64 0, .int .i64 0, .int .i64 0, .int .i64 0] := ⟨by kernel_rfl⟩
instance : StructTy Try.prog 23 [(0, 1), (1, 1), (2, 1), (3, 1)] := ⟨_, Try.underlying23, by kernel_rfl⟩
instance : FldTy Try.prog 23 0 0 false 1 := ⟨⟨_, _, Try.underlying23, rfl, rfl, ⟨by kernel_rfl, by kernel_rfl⟩⟩, rfl⟩
instance : FieldTy Try.prog 23 0 0 := ⟨_, Try.underlying23, _, rfl, rfl, _, rfl, by decide⟩
instance : FldTy Try.prog 23 1 1 false 1 := ⟨⟨_, _, Try.underlying23, rfl, rfl, ⟨by kernel_rfl, by kernel_rfl⟩⟩, rfl⟩
instance : FieldTy Try.prog 23 1 1 := ⟨_, Try.underlying23, _, rfl, rfl, _, rfl, by decide⟩
instance : FldTy Try.prog 23 2 2 false 1 := ⟨⟨_, _, Try.underlying23, rfl, rfl, ⟨by kernel_rfl, by kernel_rfl⟩⟩, rfl⟩
instance : FieldTy Try.prog 23 2 2 := ⟨_, Try.underlying23, _, rfl, rfl, _, rfl, by decide⟩
instance : FldTy Try.prog 23 3 3 false 1 := ⟨⟨_, _, Try.underlying23, rfl, rfl, ⟨by kernel_rfl, by kernel_rfl⟩⟩, rfl⟩
instance : FieldTy Try.prog 23 3 3 := ⟨_, Try.underlying23, _, rfl, rfl, _, rfl, by decide⟩
instance : TyInfo Try.prog 24 true 4 := ⟨by kernel_rfl, by kernel_rfl⟩
instance : ZeroTy Try.prog 24 [.int .i64 0, .int .i64 0, .int .i64 0, .int .i64 0] := ⟨by kernel_rfl⟩
instance : StructTy Try.prog 24 [(0, 1), (1, 1), (2, 1), (3, 1)] := ⟨_, Try.underlying24, by kernel_rfl⟩
instance : FldTy Try.prog 24 0 0 false 1 := ⟨⟨_, _, Try.underlying24, rfl, rfl, ⟨by kernel_rfl, by kernel_rfl⟩⟩, rfl⟩
instance : FieldTy Try.prog 24 0 0 := ⟨_, Try.underlying24, _, rfl, rfl, _, rfl, by decide⟩
instance : FldTy Try.prog 24 1 1 false 1 := ⟨⟨_, _, Try.underlying24, rfl, rfl, ⟨by kernel_rfl, by kernel_rfl⟩⟩, rfl⟩
instance : FieldTy Try.prog 24 1 1 := ⟨_, Try.underlying24, _, rfl, rfl, _, rfl, by decide⟩
instance : FldTy Try.prog 24 2 2 false 1 := ⟨⟨_, _, Try.underlying24, rfl, rfl, ⟨by kernel_rfl, by kernel_rfl⟩⟩, rfl⟩
instance : FieldTy Try.prog 24 2 2 := ⟨_, Try.underlying24, _, rfl, rfl, _, rfl, by decide⟩
instance : FldTy Try.prog 24 3 3 false 1 := ⟨⟨_, _, Try.underlying24, rfl, rfl, ⟨by kernel_rfl, by kernel_rfl⟩⟩, rfl⟩
instance : FieldTy Try.prog 24 3 3 := ⟨_, Try.underlying24, _, rfl, rfl, _, rfl, by decide⟩
instance : TyInfo Try.prog 25 true 5 := ⟨by kernel_rfl, by kernel_rfl⟩
instance : ZeroTy Try.prog 25 [.slice none 0 0, .int .i64 0, .int .i64 0, .int .i64 0, .int .i64 0] := ⟨by kernel_rfl⟩
instance : StructTy Try.prog 25 [(0, 1), (1, 4)] := ⟨_, Try.underlying25, by kernel_rfl⟩
instance : FldTy Try.prog 25 0 0 false 1 := ⟨⟨_, _, Try.underlying25, rfl, rfl, ⟨by kernel_rfl, by kernel_rfl⟩⟩, rfl⟩
instance : FieldTy Try.prog 25 0 0 := ⟨_, Try.underlying25, _, rfl, rfl, _, rfl, by decide⟩
instance : FldTy Try.prog 25 1 1 true 4 := ⟨⟨_, _, Try.underlying25, rfl, rfl, ⟨by kernel_rfl, by kernel_rfl⟩⟩, rfl⟩
instance : FieldTy Try.prog 25 1 1 := ⟨_, Try.underlying25, _, rfl, rfl, _, rfl, by decide⟩
instance : TyInfo Try.prog 26 true 5 := ⟨by kernel_rfl, by kernel_rfl⟩
instance : ZeroTy Try.prog 26 [.slice none 0 0, .int .i64 0, .int .i64 0, .int .i64 0, .int .i64 0] := ⟨by kernel_rfl⟩
instance : StructTy Try.prog 26 [(0, 1), (1, 4)] := ⟨_, Try.underlying26, by kernel_rfl⟩
instance : FldTy Try.prog 26 0 0 false 1 := ⟨⟨_, _, Try.underlying26, rfl, rfl, ⟨by kernel_rfl, by kernel_rfl⟩⟩, rfl⟩
instance : FieldTy Try.prog 26 0 0 := ⟨_, Try.underlying26, _, rfl, rfl, _, rfl, by decide⟩
instance : FldTy Try.prog 26 1 1 true 4 := ⟨⟨_, _, Try.underlying26, rfl, rfl, ⟨by kernel_rfl, by kernel_rfl⟩⟩, rfl⟩
instance : FieldTy Try.prog 26 1 1 := ⟨_, Try.underlying26, _, rfl, rfl, _, rfl, by decide⟩
instance : TyInfo Try.prog 27 false 1 := ⟨by kernel_rfl, by kernel_rfl⟩
instance : ZeroTy Try.prog 27 [.slice none 0 0] := ⟨by kernel_rfl⟩
instance : SliceTy Try.prog 27 41 12 := ⟨Try.underlying27, by kernel_rfl, by decide⟩
instance : AppTy Try.prog 27 41 12 := ⟨Try.underlying27, by kernel_rfl, by decide⟩
instance : TyInfo Try.prog 28 false 1 := ⟨by kernel_rfl, by kernel_rfl⟩
instance : ZeroTy Try.prog 28 [.nilFunc] := ⟨by kernel_rfl⟩
instance : TyInfo Try.prog 29 false 1 := ⟨by kernel_rfl, by kernel_rfl⟩
instance : ZeroTy Try.prog 29 [.pointer none] := ⟨by kernel_rfl⟩
instance : PtrTy Try.prog 29 := ⟨_, Try.underlying29⟩
instance : TyInfo Try.prog 30 false 1 := ⟨by kernel_rfl, by kernel_rfl⟩
instance : ZeroTy Try.prog 30 [.int .i64 0] := ⟨by kernel_rfl⟩
instance : IntTy Try.prog 30 .i64 := ⟨Try.underlying30⟩
instance : TyInfo Try.prog 32 false 1 := ⟨by kernel_rfl, by kernel_rfl⟩
instance : ZeroTy Try.prog 32 [.nilFunc] := ⟨by kernel_rfl⟩
instance : TyInfo Try.prog 33 false 1 := ⟨by kernel_rfl, by kernel_rfl⟩
instance : ZeroTy Try.prog 33 [.nilFunc] := ⟨by kernel_rfl⟩
instance : TyInfo Try.prog 34 false 1 := ⟨by kernel_rfl, by kernel_rfl⟩
instance : ZeroTy Try.prog 34 [.slice none 0 0] := ⟨by kernel_rfl⟩
instance : SliceTy Try.prog 34 3 1 := ⟨Try.underlying34, by kernel_rfl, by decide⟩
instance : AppTy Try.prog 34 3 1 := ⟨Try.underlying34, by kernel_rfl, by decide⟩
instance : TyInfo Try.prog 35 false 1 := ⟨by kernel_rfl, by kernel_rfl⟩
instance : ZeroTy Try.prog 35 [.int .u64 0] := ⟨by kernel_rfl⟩
instance : IntTy Try.prog 35 .u64 := ⟨Try.underlying35⟩
instance : TyInfo Try.prog 36 true 4 := ⟨by kernel_rfl, by kernel_rfl⟩
instance : ZeroTy Try.prog 36 [.bool false, .int .i64 0, .bool false, .int .i64 0] := ⟨by kernel_rfl⟩
instance : StructTy Try.prog 36 [(0, 1), (1, 1), (2, 1), (3, 1)] := ⟨_, Try.underlying36, by kernel_rfl⟩
instance : FldTy Try.prog 36 0 0 false 1 := ⟨⟨_, _, Try.underlying36, rfl, rfl, ⟨by kernel_rfl, by kernel_rfl⟩⟩, rfl⟩
instance : FieldTy Try.prog 36 0 0 := ⟨_, Try.underlying36, _, rfl, rfl, _, rfl, by decide⟩
instance : FldTy Try.prog 36 1 1 false 1 := ⟨⟨_, _, Try.underlying36, rfl, rfl, ⟨by kernel_rfl, by kernel_rfl⟩⟩, rfl⟩
instance : FieldTy Try.prog 36 1 1 := ⟨_, Try.underlying36, _, rfl, rfl, _, rfl, by decide⟩
instance : FldTy Try.prog 36 2 2 false 1 := ⟨⟨_, _, Try.underlying36, rfl, rfl, ⟨by kernel_rfl, by kernel_rfl⟩⟩, rfl⟩
instance : FieldTy Try.prog 36 2 2 := ⟨_, Try.underlying36, _, rfl, rfl, _, rfl, by decide⟩
instance : FldTy Try.prog 36 3 3 false 1 := ⟨⟨_, _, Try.underlying36, rfl, rfl, ⟨by kernel_rfl, by kernel_rfl⟩⟩, rfl⟩
instance : FieldTy Try.prog 36 3 3 := ⟨_, Try.underlying36, _, rfl, rfl, _, rfl, by decide⟩
instance : TyInfo Try.prog 37 true 4 := ⟨by kernel_rfl, by kernel_rfl⟩
instance : ZeroTy Try.prog 37 [.bool false, .int .i64 0, .bool false, .int .i64 0] := ⟨by kernel_rfl⟩
instance : StructTy Try.prog 37 [(0, 1), (1, 1), (2, 1), (3, 1)] := ⟨_, Try.underlying37, by kernel_rfl⟩
instance : FldTy Try.prog 37 0 0 false 1 := ⟨⟨_, _, Try.underlying37, rfl, rfl, ⟨by kernel_rfl, by kernel_rfl⟩⟩, rfl⟩
instance : FieldTy Try.prog 37 0 0 := ⟨_, Try.underlying37, _, rfl, rfl, _, rfl, by decide⟩
instance : FldTy Try.prog 37 1 1 false 1 := ⟨⟨_, _, Try.underlying37, rfl, rfl, ⟨by kernel_rfl, by kernel_rfl⟩⟩, rfl⟩
instance : FieldTy Try.prog 37 1 1 := ⟨_, Try.underlying37, _, rfl, rfl, _, rfl, by decide⟩
instance : FldTy Try.prog 37 2 2 false 1 := ⟨⟨_, _, Try.underlying37, rfl, rfl, ⟨by kernel_rfl, by kernel_rfl⟩⟩, rfl⟩
instance : FieldTy Try.prog 37 2 2 := ⟨_, Try.underlying37, _, rfl, rfl, _, rfl, by decide⟩
instance : FldTy Try.prog 37 3 3 false 1 := ⟨⟨_, _, Try.underlying37, rfl, rfl, ⟨by kernel_rfl, by kernel_rfl⟩⟩, rfl⟩
instance : FieldTy Try.prog 37 3 3 := ⟨_, Try.underlying37, _, rfl, rfl, _, rfl, by decide⟩
instance : TyInfo Try.prog 38 true 8 := ⟨by kernel_rfl, by kernel_rfl⟩
instance : ZeroTy Try.prog 38 [.int .u64 0, .int .u64 0, .bool false, .int .i64 0, .bool false, .int .i64 0, .int .i64 0, .string ⟨#[]⟩] := ⟨by kernel_rfl⟩
instance : StructTy Try.prog 38 [(0, 1), (1, 1), (2, 4), (6, 1), (7, 1)] := ⟨_, Try.underlying38, by kernel_rfl⟩
instance : FldTy Try.prog 38 0 0 false 1 := ⟨⟨_, _, Try.underlying38, rfl, rfl, ⟨by kernel_rfl, by kernel_rfl⟩⟩, rfl⟩
instance : FieldTy Try.prog 38 0 0 := ⟨_, Try.underlying38, _, rfl, rfl, _, rfl, by decide⟩
instance : FldTy Try.prog 38 1 1 false 1 := ⟨⟨_, _, Try.underlying38, rfl, rfl, ⟨by kernel_rfl, by kernel_rfl⟩⟩, rfl⟩
instance : FieldTy Try.prog 38 1 1 := ⟨_, Try.underlying38, _, rfl, rfl, _, rfl, by decide⟩
instance : FldTy Try.prog 38 2 2 true 4 := ⟨⟨_, _, Try.underlying38, rfl, rfl, ⟨by kernel_rfl, by kernel_rfl⟩⟩, rfl⟩
instance : FieldTy Try.prog 38 2 2 := ⟨_, Try.underlying38, _, rfl, rfl, _, rfl, by decide⟩
instance : FldTy Try.prog 38 3 6 false 1 := ⟨⟨_, _, Try.underlying38, rfl, rfl, ⟨by kernel_rfl, by kernel_rfl⟩⟩, rfl⟩
instance : FieldTy Try.prog 38 3 6 := ⟨_, Try.underlying38, _, rfl, rfl, _, rfl, by decide⟩
instance : FldTy Try.prog 38 4 7 false 1 := ⟨⟨_, _, Try.underlying38, rfl, rfl, ⟨by kernel_rfl, by kernel_rfl⟩⟩, rfl⟩
instance : FieldTy Try.prog 38 4 7 := ⟨_, Try.underlying38, _, rfl, rfl, _, rfl, by decide⟩
instance : TyInfo Try.prog 39 true 8 := ⟨by kernel_rfl, by kernel_rfl⟩
instance : ZeroTy Try.prog 39 [.int .u64 0, .int .u64 0, .bool false, .int .i64 0, .bool false, .int .i64 0, .int .i64 0, .string ⟨#[]⟩] := ⟨by kernel_rfl⟩
instance : StructTy Try.prog 39 [(0, 1), (1, 1), (2, 4), (6, 1), (7, 1)] := ⟨_, Try.underlying39, by kernel_rfl⟩
instance : FldTy Try.prog 39 0 0 false 1 := ⟨⟨_, _, Try.underlying39, rfl, rfl, ⟨by kernel_rfl, by kernel_rfl⟩⟩, rfl⟩
instance : FieldTy Try.prog 39 0 0 := ⟨_, Try.underlying39, _, rfl, rfl, _, rfl, by decide⟩
instance : FldTy Try.prog 39 1 1 false 1 := ⟨⟨_, _, Try.underlying39, rfl, rfl, ⟨by kernel_rfl, by kernel_rfl⟩⟩, rfl⟩
instance : FieldTy Try.prog 39 1 1 := ⟨_, Try.underlying39, _, rfl, rfl, _, rfl, by decide⟩
instance : FldTy Try.prog 39 2 2 true 4 := ⟨⟨_, _, Try.underlying39, rfl, rfl, ⟨by kernel_rfl, by kernel_rfl⟩⟩, rfl⟩
instance : FieldTy Try.prog 39 2 2 := ⟨_, Try.underlying39, _, rfl, rfl, _, rfl, by decide⟩
instance : FldTy Try.prog 39 3 6 false 1 := ⟨⟨_, _, Try.underlying39, rfl, rfl, ⟨by kernel_rfl, by kernel_rfl⟩⟩, rfl⟩
instance : FieldTy Try.prog 39 3 6 := ⟨_, Try.underlying39, _, rfl, rfl, _, rfl, by decide⟩
instance : FldTy Try.prog 39 4 7 false 1 := ⟨⟨_, _, Try.underlying39, rfl, rfl, ⟨by kernel_rfl, by kernel_rfl⟩⟩, rfl⟩
instance : FieldTy Try.prog 39 4 7 := ⟨_, Try.underlying39, _, rfl, rfl, _, rfl, by decide⟩
instance : TyInfo Try.prog 40 true 12 := ⟨by kernel_rfl, by kernel_rfl⟩
instance : ZeroTy Try.prog 40 [.int .i64 0, .int .i64 0, .int .i64 0, .int .u64 0, .int .u64 0, .bool false, .int .i64 0, .bool false, .int .i64 0, .int .i64 0, .string ⟨#[]⟩, .int .i64 0] := ⟨by kernel_rfl⟩
instance : StructTy Try.prog 40 [(0, 1), (1, 1), (2, 1), (3, 8), (11, 1)] := ⟨_, Try.underlying40, by kernel_rfl⟩
instance : FldTy Try.prog 40 0 0 false 1 := ⟨⟨_, _, Try.underlying40, rfl, rfl, ⟨by kernel_rfl, by kernel_rfl⟩⟩, rfl⟩
instance : FieldTy Try.prog 40 0 0 := ⟨_, Try.underlying40, _, rfl, rfl, _, rfl, by decide⟩
instance : FldTy Try.prog 40 1 1 false 1 := ⟨⟨_, _, Try.underlying40, rfl, rfl, ⟨by kernel_rfl, by kernel_rfl⟩⟩, rfl⟩
instance : FieldTy Try.prog 40 1 1 := ⟨_, Try.underlying40, _, rfl, rfl, _, rfl, by decide⟩
instance : FldTy Try.prog 40 2 2 false 1 := ⟨⟨_, _, Try.underlying40, rfl, rfl, ⟨by kernel_rfl, by kernel_rfl⟩⟩, rfl⟩
instance : FieldTy Try.prog 40 2 2 := ⟨_, Try.underlying40, _, rfl, rfl, _, rfl, by decide⟩
instance : FldTy Try.prog 40 3 3 true 8 := ⟨⟨_, _, Try.underlying40, rfl, rfl, ⟨by kernel_rfl, by kernel_rfl⟩⟩, rfl⟩
instance : FieldTy Try.prog 40 3 3 := ⟨_, Try.underlying40, _, rfl, rfl, _, rfl, by decide⟩
instance : FldTy Try.prog 40 4 11 false 1 := ⟨⟨_, _, Try.underlying40, rfl, rfl, ⟨by kernel_rfl, by kernel_rfl⟩⟩, rfl⟩
instance : FieldTy Try.prog 40 4 11 := ⟨_, Try.underlying40, _, rfl, rfl, _, rfl, by decide⟩
instance : TyInfo Try.prog 41 true 12 := ⟨by kernel_rfl, by kernel_rfl⟩
instance : ZeroTy Try.prog 41 [.int .i64 0, .int .i64 0, .int .i64 0, .int .u64 0, .int .u64 0, .bool false, .int .i64 0, .bool false, .int .i64 0, .int .i64 0, .string ⟨#[]⟩, .int .i64 0] := ⟨by kernel_rfl⟩
instance : StructTy Try.prog 41 [(0, 1), (1, 1), (2, 1), (3, 8), (11, 1)] := ⟨_, Try.underlying41, by kernel_rfl⟩
instance : FldTy Try.prog 41 0 0 false 1 := ⟨⟨_, _, Try.underlying41, rfl, rfl, ⟨by kernel_rfl, by kernel_rfl⟩⟩, rfl⟩
instance : FieldTy Try.prog 41 0 0 := ⟨_, Try.underlying41, _, rfl, rfl, _, rfl, by decide⟩
instance : FldTy Try.prog 41 1 1 false 1 := ⟨⟨_, _, Try.underlying41, rfl, rfl, ⟨by kernel_rfl, by kernel_rfl⟩⟩, rfl⟩
instance : FieldTy Try.prog 41 1 1 := ⟨_, Try.underlying41, _, rfl, rfl, _, rfl, by decide⟩
instance : FldTy Try.prog 41 2 2 false 1 := ⟨⟨_, _, Try.underlying41, rfl, rfl, ⟨by kernel_rfl, by kernel_rfl⟩⟩, rfl⟩
instance : FieldTy Try.prog 41 2 2 := ⟨_, Try.underlying41, _, rfl, rfl, _, rfl, by decide⟩
instance : FldTy Try.prog 41 3 3 true 8 := ⟨⟨_, _, Try.underlying41, rfl, rfl, ⟨by kernel_rfl, by kernel_rfl⟩⟩, rfl⟩
instance : FieldTy Try.prog 41 3 3 := ⟨_, Try.underlying41, _, rfl, rfl, _, rfl, by decide⟩
instance : FldTy Try.prog 41 4 11 false 1 := ⟨⟨_, _, Try.underlying41, rfl, rfl, ⟨by kernel_rfl, by kernel_rfl⟩⟩, rfl⟩
instance : FieldTy Try.prog 41 4 11 := ⟨_, Try.underlying41, _, rfl, rfl, _, rfl, by decide⟩
instance : TyInfo Try.prog 42 false 1 := ⟨by kernel_rfl, by kernel_rfl⟩
instance : ZeroTy Try.prog 42 [.nilFunc] := ⟨by kernel_rfl⟩
instance : TyInfo Try.prog 43 false 1 := ⟨by kernel_rfl, by kernel_rfl⟩
instance : ZeroTy Try.prog 43 [.slice none 0 0] := ⟨by kernel_rfl⟩
instance : SliceTy Try.prog 43 57 9 := ⟨Try.underlying43, by kernel_rfl, by decide⟩
instance : AppTy Try.prog 43 57 9 := ⟨Try.underlying43, by kernel_rfl, by decide⟩
instance : TyInfo Try.prog 44 false 1 := ⟨by kernel_rfl, by kernel_rfl⟩
instance : ZeroTy Try.prog 44 [.int .u32 0] := ⟨by kernel_rfl⟩
instance : IntTy Try.prog 44 .u32 := ⟨Try.underlying44⟩
instance : TyInfo Try.prog 45 true 13 := ⟨by kernel_rfl, by kernel_rfl⟩
instance : ZeroTy Try.prog 45 [.int .i64 0, .int .i64 0, .int .u64 0, .int .u64 0, .bool false, .int .i64 0, .bool false, .int .i64 0, .int .i64 0, .string ⟨#[]⟩, .slice none 0 0, .int .u32 0, .bool false] := ⟨by kernel_rfl⟩
instance : StructTy Try.prog 45 [(0, 1), (1, 1), (2, 8), (10, 1), (11, 1), (12, 1)] := ⟨_, Try.underlying45, by kernel_rfl⟩
instance : FldTy Try.prog 45 0 0 false 1 := ⟨⟨_, _, Try.underlying45, rfl, rfl, ⟨by kernel_rfl, by kernel_rfl⟩⟩, rfl⟩
instance : FieldTy Try.prog 45 0 0 := ⟨_, Try.underlying45, _, rfl, rfl, _, rfl, by decide⟩
instance : FldTy Try.prog 45 1 1 false 1 := ⟨⟨_, _, Try.underlying45, rfl, rfl, ⟨by kernel_rfl, by kernel_rfl⟩⟩, rfl⟩
instance : FieldTy Try.prog 45 1 1 := ⟨_, Try.underlying45, _, rfl, rfl, _, rfl, by decide⟩
instance : FldTy Try.prog 45 2 2 true 8 := ⟨⟨_, _, Try.underlying45, rfl, rfl, ⟨by kernel_rfl, by kernel_rfl⟩⟩, rfl⟩
instance : FieldTy Try.prog 45 2 2 := ⟨_, Try.underlying45, _, rfl, rfl, _, rfl, by decide⟩
instance : FldTy Try.prog 45 3 10 false 1 := ⟨⟨_, _, Try.underlying45, rfl, rfl, ⟨by kernel_rfl, by kernel_rfl⟩⟩, rfl⟩
instance : FieldTy Try.prog 45 3 10 := ⟨_, Try.underlying45, _, rfl, rfl, _, rfl, by decide⟩
instance : FldTy Try.prog 45 4 11 false 1 := ⟨⟨_, _, Try.underlying45, rfl, rfl, ⟨by kernel_rfl, by kernel_rfl⟩⟩, rfl⟩
instance : FieldTy Try.prog 45 4 11 := ⟨_, Try.underlying45, _, rfl, rfl, _, rfl, by decide⟩
instance : FldTy Try.prog 45 5 12 false 1 := ⟨⟨_, _, Try.underlying45, rfl, rfl, ⟨by kernel_rfl, by kernel_rfl⟩⟩, rfl⟩
instance : FieldTy Try.prog 45 5 12 := ⟨_, Try.underlying45, _, rfl, rfl, _, rfl, by decide⟩
instance : TyInfo Try.prog 46 true 13 := ⟨by kernel_rfl, by kernel_rfl⟩
instance : ZeroTy Try.prog 46 [.int .i64 0, .int .i64 0, .int .u64 0, .int .u64 0, .bool false, .int .i64 0, .bool false, .int .i64 0, .int .i64 0, .string ⟨#[]⟩, .slice none 0 0, .int .u32 0, .bool false] := ⟨by kernel_rfl⟩
instance : StructTy Try.prog 46 [(0, 1), (1, 1), (2, 8), (10, 1), (11, 1), (12, 1)] := ⟨_, Try.underlying46, by kernel_rfl⟩
instance : FldTy Try.prog 46 0 0 false 1 := ⟨⟨_, _, Try.underlying46, rfl, rfl, ⟨by kernel_rfl, by kernel_rfl⟩⟩, rfl⟩
instance : FieldTy Try.prog 46 0 0 := ⟨_, Try.underlying46, _, rfl, rfl, _, rfl, by decide⟩
instance : FldTy Try.prog 46 1 1 false 1 := ⟨⟨_, _, Try.underlying46, rfl, rfl, ⟨by kernel_rfl, by kernel_rfl⟩⟩, rfl⟩
instance : FieldTy Try.prog 46 1 1 := ⟨_, Try.underlying46, _, rfl, rfl, _, rfl, by decide⟩
instance : FldTy Try.prog 46 2 2 true 8 := ⟨⟨_, _, Try.underlying46, rfl, rfl, ⟨by kernel_rfl, by kernel_rfl⟩⟩, rfl⟩
instance : FieldTy Try.prog 46 2 2 := ⟨_, Try.underlying46, _, rfl, rfl, _, rfl, by decide⟩
instance : FldTy Try.prog 46 3 10 false 1 := ⟨⟨_, _, Try.underlying46, rfl, rfl, ⟨by kernel_rfl, by kernel_rfl⟩⟩, rfl⟩
instance : FieldTy Try.prog 46 3 10 := ⟨_, Try.underlying46, _, rfl, rfl, _, rfl, by decide⟩
instance : FldTy Try.prog 46 4 11 false 1 := ⟨⟨_, _, Try.underlying46, rfl, rfl, ⟨by kernel_rfl, by kernel_rfl⟩⟩, rfl⟩
instance : FieldTy Try.prog 46 4 11 := ⟨_, Try.underlying46, _, rfl, rfl, _, rfl, by decide⟩
instance : FldTy Try.prog 46 5 12 false 1 := ⟨⟨_, _, Try.underlying46, rfl, rfl, ⟨by kernel_rfl, by kernel_rfl⟩⟩, rfl⟩
instance : FieldTy Try.prog 46 5 12 := ⟨_, Try.underlying46, _, rfl, rfl, _, rfl, by decide⟩
instance : TyInfo Try.prog 47 false 1 := ⟨by kernel_rfl, by kernel_rfl⟩
instance : ZeroTy Try.prog 47 [.nilFunc] := ⟨by kernel_rfl⟩
instance : TyInfo Try.prog 48 false 1 := ⟨by kernel_rfl, by kernel_rfl⟩
instance : ZeroTy Try.prog 48 [.nilFunc] := ⟨by kernel_rfl⟩
instance : TyInfo Try.prog 49 false 1 := ⟨by kernel_rfl, by kernel_rfl⟩
instance : ZeroTy Try.prog 49 [.nilFunc] := ⟨by kernel_rfl⟩
instance : TyInfo Try.prog 50 false 1 := ⟨by kernel_rfl, by kernel_rfl⟩
instance : ZeroTy Try.prog 50 [.nilFunc] := ⟨by kernel_rfl⟩
instance : TyInfo Try.prog 51 false 1 := ⟨by kernel_rfl, by kernel_rfl⟩
instance : ZeroTy Try.prog 51 [.nilFunc] := ⟨by kernel_rfl⟩
instance : TyInfo Try.prog 52 false 1 := ⟨by kernel_rfl, by kernel_rfl⟩
instance : ZeroTy Try.prog 52 [.nilFunc] := ⟨by kernel_rfl⟩
instance : TyInfo Try.prog 53 false 1 := ⟨by kernel_rfl, by kernel_rfl⟩
instance : ZeroTy Try.prog 53 [.nilFunc] := ⟨by kernel_rfl⟩
instance : TyInfo Try.prog 54 true 3 := ⟨by kernel_rfl, by kernel_rfl⟩
instance : ZeroTy Try.prog 54 [.bool false, .int .i64 0, .slice none 0 0] := ⟨by kernel_rfl⟩
instance : StructTy Try.prog 54 [(0, 1), (1, 1), (2, 1)] := ⟨_, Try.underlying54, by kernel_rfl⟩
instance : FldTy Try.prog 54 0 0 false 1 := ⟨⟨_, _, Try.underlying54, rfl, rfl, ⟨by kernel_rfl, by kernel_rfl⟩⟩, rfl⟩
instance : FieldTy Try.prog 54 0 0 := ⟨_, Try.underlying54, _, rfl, rfl, _, rfl, by decide⟩
instance : FldTy Try.prog 54 1 1 false 1 := ⟨⟨_, _, Try.underlying54, rfl, rfl, ⟨by kernel_rfl, by kernel_rfl⟩⟩, rfl⟩
instance : FieldTy Try.prog 54 1 1 := ⟨_, Try.underlying54, _, rfl, rfl, _, rfl, by decide⟩
instance : FldTy Try.prog 54 2 2 false 1 := ⟨⟨_, _, Try.underlying54, rfl, rfl, ⟨by kernel_rfl, by kernel_rfl⟩⟩, rfl⟩
instance : FieldTy Try.prog 54 2 2 := ⟨_, Try.underlying54, _, rfl, rfl, _, rfl, by decide⟩
instance : TyInfo Try.prog 55 true 3 := ⟨by kernel_rfl, by kernel_rfl⟩
instance : ZeroTy Try.prog 55 [.bool false, .int .i64 0, .slice none 0 0] := ⟨by kernel_rfl⟩
instance : StructTy Try.prog 55 [(0, 1), (1, 1), (2, 1)] := ⟨_, Try.underlying55, by kernel_rfl⟩
instance : FldTy Try.prog 55 0 0 false 1 := ⟨⟨_, _, Try.underlying55, rfl, rfl, ⟨by kernel_rfl, by kernel_rfl⟩⟩, rfl⟩
instance : FieldTy Try.prog 55 0 0 := ⟨_, Try.underlying55, _, rfl, rfl, _, rfl, by decide⟩
instance : FldTy Try.prog 55 1 1 false 1 := ⟨⟨_, _, Try.underlying55, rfl, rfl, ⟨by kernel_rfl, by kernel_rfl⟩⟩, rfl⟩
instance : FieldTy Try.prog 55 1 1 := ⟨_, Try.underlying55, _, rfl, rfl, _, rfl, by decide⟩
instance : FldTy Try.prog 55 2 2 false 1 := ⟨⟨_, _, Try.underlying55, rfl, rfl, ⟨by kernel_rfl, by kernel_rfl⟩⟩, rfl⟩
instance : FieldTy Try.prog 55 2 2 := ⟨_, Try.underlying55, _, rfl, rfl, _, rfl, by decide⟩
instance : TyInfo Try.prog 56 true 9 := ⟨by kernel_rfl, by kernel_rfl⟩
instance : ZeroTy Try.prog 56 [.int .i64 0, .int .u64 0, .int .u64 0, .bool false, .int .i64 0, .bool false, .int .i64 0, .int .i64 0, .string ⟨#[]⟩] := ⟨by kernel_rfl⟩
instance : StructTy Try.prog 56 [(0, 1), (1, 8)] := ⟨_, Try.underlying56, by kernel_rfl⟩
instance : FldTy Try.prog 56 0 0 false 1 := ⟨⟨_, _, Try.underlying56, rfl, rfl, ⟨by kernel_rfl, by kernel_rfl⟩⟩, rfl⟩
instance : FieldTy Try.prog 56 0 0 := ⟨_, Try.underlying56, _, rfl, rfl, _, rfl, by decide⟩
instance : FldTy Try.prog 56 1 1 true 8 := ⟨⟨_, _, Try.underlying56, rfl, rfl, ⟨by kernel_rfl, by kernel_rfl⟩⟩, rfl⟩
instance : FieldTy Try.prog 56 1 1 := ⟨_, Try.underlying56, _, rfl, rfl, _, rfl, by decide⟩
instance : TyInfo Try.prog 57 true 9 := ⟨by kernel_rfl, by kernel_rfl⟩
instance : ZeroTy Try.prog 57 [.int .i64 0, .int .u64 0, .int .u64 0, .bool false, .int .i64 0, .bool false, .int .i64 0, .int .i64 0, .string ⟨#[]⟩] := ⟨by kernel_rfl⟩
instance : StructTy Try.prog 57 [(0, 1), (1, 8)] := ⟨_, Try.underlying57, by kernel_rfl⟩
instance : FldTy Try.prog 57 0 0 false 1 := ⟨⟨_, _, Try.underlying57, rfl, rfl, ⟨by kernel_rfl, by kernel_rfl⟩⟩, rfl⟩
instance : FieldTy Try.prog 57 0 0 := ⟨_, Try.underlying57, _, rfl, rfl, _, rfl, by decide⟩
instance : FldTy Try.prog 57 1 1 true 8 := ⟨⟨_, _, Try.underlying57, rfl, rfl, ⟨by kernel_rfl, by kernel_rfl⟩⟩, rfl⟩
instance : FieldTy Try.prog 57 1 1 := ⟨_, Try.underlying57, _, rfl, rfl, _, rfl, by decide⟩
instance : TyInfo Try.prog 58 false 1 := ⟨by kernel_rfl, by kernel_rfl⟩
instance : ZeroTy Try.prog 58 [.nilFunc] := ⟨by kernel_rfl⟩
instance : TyInfo Try.prog 59 false 1 := ⟨by kernel_rfl, by kernel_rfl⟩
instance : ZeroTy Try.prog 59 [.nilFunc] := ⟨by kernel_rfl⟩
instance : TyInfo Try.prog 60 false 1 := ⟨by kernel_rfl, by kernel_rfl⟩
instance : ZeroTy Try.prog 60 [.nilFunc] := ⟨by kernel_rfl⟩
instance : TyInfo Try.prog 61 false 1 := ⟨by kernel_rfl, by kernel_rfl⟩
instance : ZeroTy Try.prog 61 [.nilFunc] := ⟨by kernel_rfl⟩
instance : TyInfo Try.prog 62 false 1 := ⟨by kernel_rfl, by kernel_rfl⟩
instance : ZeroTy Try.prog 62 [.pointer none] := ⟨by kernel_rfl⟩
instance : PtrTy Try.prog 62 := ⟨_, Try.underlying62⟩
instance : TyInfo Try.prog 64 false 1 := ⟨by kernel_rfl, by kernel_rfl⟩
instance : ZeroTy Try.prog 64 [.nilFunc] := ⟨by kernel_rfl⟩
instance : TyInfo Try.prog 65 false 1 := ⟨by kernel_rfl, by kernel_rfl⟩
instance : ZeroTy Try.prog 65 [.slice none 0 0] := ⟨by kernel_rfl⟩
instance : SliceTy Try.prog 65 130 6 := ⟨Try.underlying65, by kernel_rfl, by decide⟩
instance : AppTy Try.prog 65 130 6 := ⟨Try.underlying65, by kernel_rfl, by decide⟩
instance : TyInfo Try.prog 66 false 1 := ⟨by kernel_rfl, by kernel_rfl⟩
instance : ZeroTy Try.prog 66 [.nilFunc] := ⟨by kernel_rfl⟩
instance : TyInfo Try.prog 67 false 1 := ⟨by kernel_rfl, by kernel_rfl⟩
instance : ZeroTy Try.prog 67 [.nilFunc] := ⟨by kernel_rfl⟩
instance : TyInfo Try.prog 68 false 1 := ⟨by kernel_rfl, by kernel_rfl⟩
instance : ZeroTy Try.prog 68 [.nilFunc] := ⟨by kernel_rfl⟩
instance : TyInfo Try.prog 69 false 1 := ⟨by kernel_rfl, by kernel_rfl⟩
instance : ZeroTy Try.prog 69 [.nilFunc] := ⟨by kernel_rfl⟩
instance : TyInfo Try.prog 70 false 1 := ⟨by kernel_rfl, by kernel_rfl⟩
instance : ZeroTy Try.prog 70 [.pointer none] := ⟨by kernel_rfl⟩
instance : PtrTy Try.prog 70 := ⟨_, Try.underlying70⟩
instance : TyInfo Try.prog 72 false 1 := ⟨by kernel_rfl, by kernel_rfl⟩
instance : ZeroTy Try.prog 72 [.nilFunc] := ⟨by kernel_rfl⟩
instance : TyInfo Try.prog 73 true 65 := ⟨by kernel_rfl, by kernel_rfl⟩
instance : ZeroTy Try.prog 73 [.int .i64 0, .int .i64 0, .int .i64 0, .int .i64 0, .int .i64 0, .int .i64 0, .int .i64 0, .int .i64 0, .int .i64 0, .int .i64 0, .int .i64 0, .int .i64 0, .int .i64 0, .int .i64 0, .int .i64 0, .int .i64 0, .int .i64 0, .int .i64 0, .int .i64 0, .int .i64 0, .int .i64 0, .int .i64 0, .int .i64 0, .int .i64 0, .int .i64 0, .int .i64 0, .int .i64 0, .int .i64 0, .int .i64 0, .int .i64 0, .int .i64 0, .int .i64 0, .int .i64 0, .int .i64 0, .int .i64 0, .int .i64 0, .int .i64 0, .int .i64 0, .int .i64 0, .int .i64 0, .int .i64 0, .int .i64 0, .int .i64 0, .int .i64 0, .int .i64 0, .int .i64 0, .int .i64 0, .int .i64 0, .int .i64 0, .int .i64 0, .int .i64 0, .int .i64 0, .int .i64 0, .int .i64 0, .int .i64 0, .int .i64 0, .int .i64 0, .int .i64 0, .int .i64 0, .int .i64 0, .int .i64 0, .int .i64 0, .int .i64 0, .int .i64 0, .int .i64 0] := ⟨by kernel_rfl⟩
instance : ArrTy Try.prog 73 65 3 false 1 := ⟨Try.underlying73, ⟨by kernel_rfl, by kernel_rfl⟩, fun _ => rfl⟩
instance : TyInfo Try.prog 74 true 67 := ⟨by kernel_rfl, by kernel_rfl⟩
instance : ZeroTy Try.prog 74 [.slice none 0 0, .int .i64 0, .int .i64 0, .int .i64 0, .int .i64 0, .int .i64 0, .int .i64 0, .int .i64 0, .int .i64 0, .int .i64 0, .int .i64 0, .int .i64 0, .int .i64 0, .int .i64 0, .int .i64 0, .int .i64 0, .int .i64 0, .int .i64 0, .int .i64 0, .int .i64 0, .int .i64 0, .int .i64 0, .int .i64 0, .int .i64 0, .int .i64 0, .int .i64 0, .int .i64 0, .int .i64 0, .int .i64 0, .int .i64 0, .int .i64 0, .int .i64 0, .int .i64 0, .int .i64 0, .int .i64 0, .int .i64 0, .int .i64 0, .int .i64 0, .int .i64 0, .int .i64 0, .int .i64 0, .int .i64 0, .int .i64 0, .int .i64 0, .int .i64 0, .int .i64 0, .int .i64 0, .int .i64 0, .int .i64 0, .int .i64 0, .int .i64 0, .int .i64 0, .int .i64 0, .int .i64 0, .int .i64 0, .int .i64 0, .int .i64 0, .int .i64 0, .int .i64 0, .int .i64 0, .int .i64 0, .int .i64 0, .int .i64 0, .int .i64 0, .int .i64 0, .int .i64 0, .pointer none] := ⟨by kernel_rfl⟩
instance : StructTy Try.prog 74 [(0, 1), (1, 65), (66, 1)] := ⟨_, Try.underlying74, by kernel_rfl⟩
instance : FldTy Try.prog 74 0 0 false 1 := ⟨⟨_, _, Try.underlying74, rfl, rfl, ⟨by kernel_rfl, by kernel_rfl⟩⟩, rfl⟩
instance : FieldTy Try.prog 74 0 0 := ⟨_, Try.underlying74, _, rfl, rfl, _, rfl, by decide⟩
instance : FldTy Try.prog 74 1 1 true 65 := ⟨⟨_, _, Try.underlying74, rfl, rfl, ⟨by kernel_rfl, by kernel_rfl⟩⟩, rfl⟩
instance : FieldTy Try.prog 74 1 1 := ⟨_, Try.underlying74, _, rfl, rfl, _, rfl, by decide⟩
instance : FldTy Try.prog 74 2 66 false 1 := ⟨⟨_, _, Try.underlying74, rfl, rfl, ⟨by kernel_rfl, by kernel_rfl⟩⟩, rfl⟩
instance : FieldTy Try.prog 74 2 66 := ⟨_, Try.underlying74, _, rfl, rfl, _, rfl, by decide⟩
instance : TyInfo Try.prog 75 true 67 := ⟨by kernel_rfl, by kernel_rfl⟩
instance : ZeroTy Try.prog 75 [.slice none 0 0, .int .i64 0, .int .i64 0, .int .i64 0, .int .i64 0, .int .i64 0, .int .i64 0, .int .i64 0, .int .i64 0, .int .i64 0, .int .i64 0, .int .i64 0, .int .i64 0, .int .i64 0, .int .i64 0, .int .i64 0, .int .i64 0, .int .i64 0, .int .i64 0, .int .i64 0, .int .i64 0, .int .i64 0, .int .i64 0, .int .i64 0, .int .i64 0, .int .i64 0, .int .i64 0, .int .i64 0, .int .i64 0, .int .i64 0, .int .i64 0, .int .i64 0, .int .i64 0, .int .i64 0, .int .i64 0, .int .i64 0, .int .i64 0, .int .i64 0, .int .i64 0, .int .i64 0, .int .i64 0, .int .i64 0, .int .i64 0, .int .i64 0, .int .i64 0, .int .i64 0, .int .i64 0, .int .i64 0, .int .i64 0, .int .i64 0, .int .i64 0, .int .i64 0, .int .i64 0, .int .i64 0, .int .i64 0, .int .i64 0, .int .i64 0, .int .i64 0, .int .i64 0, .int .i64 0, .int .i64 0, .int .i64 0, .int .i64 0, .int .i64 0, .int .i64 0, .int .i64 0, .pointer none] := ⟨by kernel_rfl⟩
instance : StructTy Try.prog 75 [(0, 1), (1, 65), (66, 1)] := ⟨_, Try.underlying75, by kernel_rfl⟩
instance : FldTy Try.prog 75 0 0 false 1 := ⟨⟨_, _, Try.underlying75, rfl, rfl, ⟨by kernel_rfl, by kernel_rfl⟩⟩, rfl⟩
instance : FieldTy Try.prog 75 0 0 := ⟨_, Try.underlying75, _, rfl, rfl, _, rfl, by decide⟩
instance : FldTy Try.prog 75 1 1 true 65 := ⟨⟨_, _, Try.underlying75, rfl, rfl, ⟨by kernel_rfl, by kernel_rfl⟩⟩, rfl⟩
instance : FieldTy Try.prog 75 1 1 := ⟨_, Try.underlying75, _, rfl, rfl, _, rfl, by decide⟩
instance : FldTy Try.prog 75 2 66 false 1 := ⟨⟨_, _, Try.underlying75, rfl, rfl, ⟨by kernel_rfl, by kernel_rfl⟩⟩, rfl⟩
instance : FieldTy Try.prog 75 2 66 := ⟨_, Try.underlying75, _, rfl, rfl, _, rfl, by decide⟩
instance : TyInfo Try.prog 76 false 1 := ⟨by kernel_rfl, by kernel_rfl⟩
instance : ZeroTy Try.prog 76 [.nilFunc] := ⟨by kernel_rfl⟩
instance : TyInfo Try.prog 77 false 1 := ⟨by kernel_rfl, by kernel_rfl⟩
instance : ZeroTy Try.prog 77 [.nilFunc] := ⟨by kernel_rfl⟩
instance : TyInfo Try.prog 78 false 1 := ⟨by kernel_rfl, by kernel_rfl⟩
instance : ZeroTy Try.prog 78 [.nilFunc] := ⟨by kernel_rfl⟩
instance : TyInfo Try.prog 80 false 1 := ⟨by kernel_rfl, by kernel_rfl⟩
instance : ZeroTy Try.prog 80 [.nilFunc] := ⟨by kernel_rfl⟩
instance : TyInfo Try.prog 81 false 1 := ⟨by kernel_rfl, by kernel_rfl⟩
instance : ZeroTy Try.prog 81 [.nilFunc] := ⟨by kernel_rfl⟩
instance : TyInfo Try.prog 82 true 2 := ⟨by kernel_rfl, by kernel_rfl⟩
instance : ZeroTy Try.prog 82 [.int .i64 0, .int .u32 0] := ⟨by kernel_rfl⟩
instance : StructTy Try.prog 82 [(0, 1), (1, 1)] := ⟨_, Try.underlying82, by kernel_rfl⟩
instance : FldTy Try.prog 82 0 0 false 1 := ⟨⟨_, _, Try.underlying82, rfl, rfl, ⟨by kernel_rfl, by kernel_rfl⟩⟩, rfl⟩
instance : FieldTy Try.prog 82 0 0 := ⟨_, Try.underlying82, _, rfl, rfl, _, rfl, by decide⟩
instance : FldTy Try.prog 82 1 1 false 1 := ⟨⟨_, _, Try.underlying82, rfl, rfl, ⟨by kernel_rfl, by kernel_rfl⟩⟩, rfl⟩
instance : FieldTy Try.prog 82 1 1 := ⟨_, Try.underlying82, _, rfl, rfl, _, rfl, by decide⟩
instance : TyInfo Try.prog 83 true 2 := ⟨by kernel_rfl, by kernel_rfl⟩
instance : ZeroTy Try.prog 83 [.int .i64 0, .int .u32 0] := ⟨by kernel_rfl⟩
instance : StructTy Try.prog 83 [(0, 1), (1, 1)] := ⟨_, Try.underlying83, by kernel_rfl⟩
instance : FldTy Try.prog 83 0 0 false 1 := ⟨⟨_, _, Try.underlying83, rfl, rfl, ⟨by kernel_rfl, by kernel_rfl⟩⟩, rfl⟩
instance : FieldTy Try.prog 83 0 0 := ⟨_, Try.underlying83, _, rfl, rfl, _, rfl, by decide⟩
instance : FldTy Try.prog 83 1 1 false 1 := ⟨⟨_, _, Try.underlying83, rfl, rfl, ⟨by kernel_rfl, by kernel_rfl⟩⟩, rfl⟩
instance : FieldTy Try.prog 83 1 1 := ⟨_, Try.underlying83, _, rfl, rfl, _, rfl, by decide⟩
instance : TyInfo Try.prog 84 false 1 := ⟨by kernel_rfl, by kernel_rfl⟩
instance : ZeroTy Try.prog 84 [.nilFunc] := ⟨by kernel_rfl⟩
instance : TyInfo Try.prog 85 false 1 := ⟨by kernel_rfl, by kernel_rfl⟩
instance : ZeroTy Try.prog 85 [.nilFunc] := ⟨by kernel_rfl⟩
instance : TyInfo Try.prog 86 false 1 := ⟨by kernel_rfl, by kernel_rfl⟩
instance : ZeroTy Try.prog 86 [.pointer none] := ⟨by kernel_rfl⟩
instance : PtrTy Try.prog 86 := ⟨_, Try.underlying86⟩
instance : TyInfo Try.prog 87 false 1 := ⟨by kernel_rfl, by kernel_rfl⟩
instance : ZeroTy Try.prog 87 [.nilFunc] := ⟨by kernel_rfl⟩
instance : TyInfo Try.prog 88 false 1 := ⟨by kernel_rfl, by kernel_rfl⟩
instance : ZeroTy Try.prog 88 [.nilFunc] := ⟨by kernel_rfl⟩
instance : TyInfo Try.prog 89 false 1 := ⟨by kernel_rfl, by kernel_rfl⟩
instance : ZeroTy Try.prog 89 [.nilFunc] := ⟨by kernel_rfl⟩
instance : TyInfo Try.prog 90 false 1 := ⟨by kernel_rfl, by kernel_rfl⟩
instance : ZeroTy Try.prog 90 [.pointer none] := ⟨by kernel_rfl⟩
instance : PtrTy Try.prog 90 := ⟨_, Try.underlying90⟩
instance : TyInfo Try.prog 92 false 1 := ⟨by kernel_rfl, by kernel_rfl⟩
instance : ZeroTy Try.prog 92 [.nilFunc] := ⟨by kernel_rfl⟩
instance : TyInfo Try.prog 93 true 3 := ⟨by kernel_rfl, by kernel_rfl⟩
instance : ZeroTy Try.prog 93 [.slice none 0 0, .slice none 0 0, .pointer none] := ⟨by kernel_rfl⟩
instance : StructTy Try.prog 93 [(0, 1), (1, 1), (2, 1)] := ⟨_, Try.underlying93, by kernel_rfl⟩
instance : FldTy Try.prog 93 0 0 false 1 := ⟨⟨_, _, Try.underlying93, rfl, rfl, ⟨by kernel_rfl, by kernel_rfl⟩⟩, rfl⟩
instance : FieldTy Try.prog 93 0 0 := ⟨_, Try.underlying93, _, rfl, rfl, _, rfl, by decide⟩
instance : FldTy Try.prog 93 1 1 false 1 := ⟨⟨_, _, Try.underlying93, rfl, rfl, ⟨by kernel_rfl, by kernel_rfl⟩⟩, rfl⟩
instance : FieldTy Try.prog 93 1 1 := ⟨_, Try.underlying93, _, rfl, rfl, _, rfl, by decide⟩
instance : FldTy Try.prog 93 2 2 false 1 := ⟨⟨_, _, Try.underlying93, rfl, rfl, ⟨by kernel_rfl, by kernel_rfl⟩⟩, rfl⟩
instance : FieldTy Try.prog 93 2 2 := ⟨_, Try.underlying93, _, rfl, rfl, _, rfl, by decide⟩
instance : TyInfo Try.prog 94 true 3 := ⟨by kernel_rfl, by kernel_rfl⟩
instance : ZeroTy Try.prog 94 [.slice none 0 0, .slice none 0 0, .pointer none] := ⟨by kernel_rfl⟩
instance : StructTy Try.prog 94 [(0, 1), (1, 1), (2, 1)] := ⟨_, Try.underlying94, by kernel_rfl⟩
instance : FldTy Try.prog 94 0 0 false 1 := ⟨⟨_, _, Try.underlying94, rfl, rfl, ⟨by kernel_rfl, by kernel_rfl⟩⟩, rfl⟩
instance : FieldTy Try.prog 94 0 0 := ⟨_, Try.underlying94, _, rfl, rfl, _, rfl, by decide⟩
instance : FldTy Try.prog 94 1 1 false 1 := ⟨⟨_, _, Try.underlying94, rfl, rfl, ⟨by kernel_rfl, by kernel_rfl⟩⟩, rfl⟩
instance : FieldTy Try.prog 94 1 1 := ⟨_, Try.underlying94, _, rfl, rfl, _, rfl, by decide⟩
instance : FldTy Try.prog 94 2 2 false 1 := ⟨⟨_, _, Try.underlying94, rfl, rfl, ⟨by kernel_rfl, by kernel_rfl⟩⟩, rfl⟩
instance : FieldTy Try.prog 94 2 2 := ⟨_, Try.underlying94, _, rfl, rfl, _, rfl, by decide⟩
instance : TyInfo Try.prog 95 false 1 := ⟨by kernel_rfl, by kernel_rfl⟩
instance : ZeroTy Try.prog 95 [.nilFunc] := ⟨by kernel_rfl⟩
instance : TyInfo Try.prog 96 false 1 := ⟨by kernel_rfl, by kernel_rfl⟩
instance : ZeroTy Try.prog 96 [.nilFunc] := ⟨by kernel_rfl⟩
instance : TyInfo Try.prog 97 false 1 := ⟨by kernel_rfl, by kernel_rfl⟩
instance : ZeroTy Try.prog 97 [.pointer none] := ⟨by kernel_rfl⟩
instance : PtrTy Try.prog 97 := ⟨_, Try.underlying97⟩
instance : TyInfo Try.prog 99 false 1 := ⟨by kernel_rfl, by kernel_rfl⟩
instance : ZeroTy Try.prog 99 [.nilFunc] := ⟨by kernel_rfl⟩
instance : TyInfo Try.prog 100 false 1 := ⟨by kernel_rfl, by kernel_rfl⟩
instance : ZeroTy Try.prog 100 [.map none] := ⟨by kernel_rfl⟩
instance : MapTy Try.prog 100 35 34 .u64 (.slice none 0 0) := ⟨Try.underlying100, Try.underlying35, by kernel_rfl⟩
instance : TyInfo Try.prog 101 true 6 := ⟨by kernel_rfl, by kernel_rfl⟩
instance : ZeroTy Try.prog 101 [.pointer none, .int .i64 0, .int .i64 0, .int .i64 0, .int .i64 0, .map none] := ⟨by kernel_rfl⟩
instance : StructTy Try.prog 101 [(0, 1), (1, 4), (5, 1)] := ⟨_, Try.underlying101, by kernel_rfl⟩
instance : FldTy Try.prog 101 0 0 false 1 := ⟨⟨_, _, Try.underlying101, rfl, rfl, ⟨by kernel_rfl, by kernel_rfl⟩⟩, rfl⟩
instance : FieldTy Try.prog 101 0 0 := ⟨_, Try.underlying101, _, rfl, rfl, _, rfl, by decide⟩
instance : FldTy Try.prog 101 1 1 true 4 := ⟨⟨_, _, Try.underlying101, rfl, rfl, ⟨by kernel_rfl, by kernel_rfl⟩⟩, rfl⟩
instance : FieldTy Try.prog 101 1 1 := ⟨_, Try.underlying101, _, rfl, rfl, _, rfl, by decide⟩
instance : FldTy Try.prog 101 2 5 false 1 := ⟨⟨_, _, Try.underlying101, rfl, rfl, ⟨by kernel_rfl, by kernel_rfl⟩⟩, rfl⟩
instance : FieldTy Try.prog 101 2 5 := ⟨_, Try.underlying101, _, rfl, rfl, _, rfl, by decide⟩
instance : TyInfo Try.prog 102 true 6 := ⟨by kernel_rfl, by kernel_rfl⟩
instance : ZeroTy Try.prog 102 [.pointer none, .int .i64 0, .int .i64 0, .int .i64 0, .int .i64 0, .map none] := ⟨by kernel_rfl⟩
instance : StructTy Try.prog 102 [(0, 1), (1, 4), (5, 1)] := ⟨_, Try.underlying102, by kernel_rfl⟩
instance : FldTy Try.prog 102 0 0 false 1 := ⟨⟨_, _, Try.underlying102, rfl, rfl, ⟨by kernel_rfl, by kernel_rfl⟩⟩, rfl⟩
instance : FieldTy Try.prog 102 0 0 := ⟨_, Try.underlying102, _, rfl, rfl, _, rfl, by decide⟩
instance : FldTy Try.prog 102 1 1 true 4 := ⟨⟨_, _, Try.underlying102, rfl, rfl, ⟨by kernel_rfl, by kernel_rfl⟩⟩, rfl⟩
instance : FieldTy Try.prog 102 1 1 := ⟨_, Try.underlying102, _, rfl, rfl, _, rfl, by decide⟩
instance : FldTy Try.prog 102 2 5 false 1 := ⟨⟨_, _, Try.underlying102, rfl, rfl, ⟨by kernel_rfl, by kernel_rfl⟩⟩, rfl⟩
instance : FieldTy Try.prog 102 2 5 := ⟨_, Try.underlying102, _, rfl, rfl, _, rfl, by decide⟩
instance : TyInfo Try.prog 103 false 1 := ⟨by kernel_rfl, by kernel_rfl⟩
instance : ZeroTy Try.prog 103 [.nilFunc] := ⟨by kernel_rfl⟩
instance : TyInfo Try.prog 104 false 1 := ⟨by kernel_rfl, by kernel_rfl⟩
instance : ZeroTy Try.prog 104 [.nilFunc] := ⟨by kernel_rfl⟩
instance : TyInfo Try.prog 105 false 1 := ⟨by kernel_rfl, by kernel_rfl⟩
instance : ZeroTy Try.prog 105 [.nilFunc] := ⟨by kernel_rfl⟩
instance : TyInfo Try.prog 106 true 4 := ⟨by kernel_rfl, by kernel_rfl⟩
instance : ZeroTy Try.prog 106 [.int .u64 0, .int .u64 0, .int .i64 0, .bool false] := ⟨by kernel_rfl⟩
instance : StructTy Try.prog 106 [(0, 1), (1, 1), (2, 1), (3, 1)] := ⟨_, Try.underlying106, by kernel_rfl⟩
instance : FldTy Try.prog 106 0 0 false 1 := ⟨⟨_, _, Try.underlying106, rfl, rfl, ⟨by kernel_rfl, by kernel_rfl⟩⟩, rfl⟩
instance : FieldTy Try.prog 106 0 0 := ⟨_, Try.underlying106, _, rfl, rfl, _, rfl, by decide⟩
instance : FldTy Try.prog 106 1 1 false 1 := ⟨⟨_, _, Try.underlying106, rfl, rfl, ⟨by kernel_rfl, by kernel_rfl⟩⟩, rfl⟩
instance : FieldTy Try.prog 106 1 1 := ⟨_, Try.underlying106, _, rfl, rfl, _, rfl, by decide⟩
instance : FldTy Try.prog 106 2 2 false 1 := ⟨⟨_, _, Try.underlying106, rfl, rfl, ⟨by kernel_rfl, by kernel_rfl⟩⟩, rfl⟩
instance : FieldTy Try.prog 106 2 2 := ⟨_, Try.underlying106, _, rfl, rfl, _, rfl, by decide⟩
instance : FldTy Try.prog 106 3 3 false 1 := ⟨⟨_, _, Try.underlying106, rfl, rfl, ⟨by kernel_rfl, by kernel_rfl⟩⟩, rfl⟩
instance : FieldTy Try.prog 106 3 3 := ⟨_, Try.underlying106, _, rfl, rfl, _, rfl, by decide⟩
instance : TyInfo Try.prog 107 true 4 := ⟨by kernel_rfl, by kernel_rfl⟩
instance : ZeroTy Try.prog 107 [.int .u64 0, .int .u64 0, .int .i64 0, .bool false] := ⟨by kernel_rfl⟩
instance : StructTy Try.prog 107 [(0, 1), (1, 1), (2, 1), (3, 1)] := ⟨_, Try.underlying107, by kernel_rfl⟩
instance : FldTy Try.prog 107 0 0 false 1 := ⟨⟨_, _, Try.underlying107, rfl, rfl, ⟨by kernel_rfl, by kernel_rfl⟩⟩, rfl⟩
instance : FieldTy Try.prog 107 0 0 := ⟨_, Try.underlying107, _, rfl, rfl, _, rfl, by decide⟩
instance : FldTy Try.prog 107 1 1 false 1 := ⟨⟨_, _, Try.underlying107, rfl, rfl, ⟨by kernel_rfl, by kernel_rfl⟩⟩, rfl⟩
instance : FieldTy Try.prog 107 1 1 := ⟨_, Try.underlying107, _, rfl, rfl, _, rfl, by decide⟩
instance : FldTy Try.prog 107 2 2 false 1 := ⟨⟨_, _, Try.underlying107, rfl, rfl, ⟨by kernel_rfl, by kernel_rfl⟩⟩, rfl⟩
instance : FieldTy Try.prog 107 2 2 := ⟨_, Try.underlying107, _, rfl, rfl, _, rfl, by decide⟩
instance : FldTy Try.prog 107 3 3 false 1 := ⟨⟨_, _, Try.underlying107, rfl, rfl, ⟨by kernel_rfl, by kernel_rfl⟩⟩, rfl⟩
instance : FieldTy Try.prog 107 3 3 := ⟨_, Try.underlying107, _, rfl, rfl, _, rfl, by decide⟩
instance : TyInfo Try.prog 109 false 1 := ⟨by kernel_rfl, by kernel_rfl⟩
instance : ZeroTy Try.prog 109 [.nilFunc] := ⟨by kernel_rfl⟩
instance : TyInfo Try.prog 110 false 1 := ⟨by kernel_rfl, by kernel_rfl⟩
instance : ZeroTy Try.prog 110 [.nilFunc] := ⟨by kernel_rfl⟩
instance : TyInfo Try.prog 111 false 1 := ⟨by kernel_rfl, by kernel_rfl⟩
instance : ZeroTy Try.prog 111 [.nilFunc] := ⟨by kernel_rfl⟩
instance : TyInfo Try.prog 112 false 1 := ⟨by kernel_rfl, by kernel_rfl⟩
instance : ZeroTy Try.prog 112 [.nilFunc] := ⟨by kernel_rfl⟩
instance : TyInfo Try.prog 113 false 1 := ⟨by kernel_rfl, by kernel_rfl⟩
instance : ZeroTy Try.prog 113 [.nilFunc] := ⟨by kernel_rfl⟩
instance : TyInfo Try.prog 115 false 1 := ⟨by kernel_rfl, by kernel_rfl⟩
instance : ZeroTy Try.prog 115 [.nilFunc] := ⟨by kernel_rfl⟩
instance : TyInfo Try.prog 116 false 1 := ⟨by kernel_rfl, by kernel_rfl⟩
instance : ZeroTy Try.prog 116 [.nilFunc] := ⟨by kernel_rfl⟩
instance : TyInfo Try.prog 117 false 1 := ⟨by kernel_rfl, by kernel_rfl⟩
instance : ZeroTy Try.prog 117 [.nilFunc] := ⟨by kernel_rfl⟩
instance : TyInfo Try.prog 118 false 1 := ⟨by kernel_rfl, by kernel_rfl⟩
instance : ZeroTy Try.prog 118 [.nilFunc] := ⟨by kernel_rfl⟩
instance : TyInfo Try.prog 119 false 1 := ⟨by kernel_rfl, by kernel_rfl⟩
instance : ZeroTy Try.prog 119 [.pointer none] := ⟨by kernel_rfl⟩
instance : PtrTy Try.prog 119 := ⟨_, Try.underlying119⟩
instance : TyInfo Try.prog 121 false 1 := ⟨by kernel_rfl, by kernel_rfl⟩
instance : ZeroTy Try.prog 121 [.nilFunc] := ⟨by kernel_rfl⟩
instance : TyInfo Try.prog 122 false 1 := ⟨by kernel_rfl, by kernel_rfl⟩
instance : ZeroTy Try.prog 122 [.slice none 0 0] := ⟨by kernel_rfl⟩
instance : SliceTy Try.prog 122 181 3 := ⟨Try.underlying122, by kernel_rfl, by decide⟩
instance : AppTy Try.prog 122 181 3 := ⟨Try.underlying122, by kernel_rfl, by decide⟩
instance : TyInfo Try.prog 123 true 6 := ⟨by kernel_rfl, by kernel_rfl⟩
instance : ZeroTy Try.prog 123 [.pointer none, .int .i64 0, .int .i64 0, .int .i64 0, .int .i64 0, .slice none 0 0] := ⟨by kernel_rfl⟩
instance : StructTy Try.prog 123 [(0, 1), (1, 4), (5, 1)] := ⟨_, Try.underlying123, by kernel_rfl⟩
instance : FldTy Try.prog 123 0 0 false 1 := ⟨⟨_, _, Try.underlying123, rfl, rfl, ⟨by kernel_rfl, by kernel_rfl⟩⟩, rfl⟩
instance : FieldTy Try.prog 123 0 0 := ⟨_, Try.underlying123, _, rfl, rfl, _, rfl, by decide⟩
instance : FldTy Try.prog 123 1 1 true 4 := ⟨⟨_, _, Try.underlying123, rfl, rfl, ⟨by kernel_rfl, by kernel_rfl⟩⟩, rfl⟩
instance : FieldTy Try.prog 123 1 1 := ⟨_, Try.underlying123, _, rfl, rfl, _, rfl, by decide⟩
instance : FldTy Try.prog 123 2 5 false 1 := ⟨⟨_, _, Try.underlying123, rfl, rfl, ⟨by kernel_rfl, by kernel_rfl⟩⟩, rfl⟩
instance : FieldTy Try.prog 123 2 5 := ⟨_, Try.underlying123, _, rfl, rfl, _, rfl, by decide⟩
instance : TyInfo Try.prog 124 true 6 := ⟨by kernel_rfl, by kernel_rfl⟩
instance : ZeroTy Try.prog 124 [.pointer none, .int .i64 0, .int .i64 0, .int .i64 0, .int .i64 0, .slice none 0 0] := ⟨by kernel_rfl⟩
instance : StructTy Try.prog 124 [(0, 1), (1, 4), (5, 1)] := ⟨_, Try.underlying124, by kernel_rfl⟩
instance : FldTy Try.prog 124 0 0 false 1 := ⟨⟨_, _, Try.underlying124, rfl, rfl, ⟨by kernel_rfl, by kernel_rfl⟩⟩, rfl⟩
instance : FieldTy Try.prog 124 0 0 := ⟨_, Try.underlying124, _, rfl, rfl, _, rfl, by decide⟩
instance : FldTy Try.prog 124 1 1 true 4 := ⟨⟨_, _, Try.underlying124, rfl, rfl, ⟨by kernel_rfl, by kernel_rfl⟩⟩, rfl⟩
instance : FieldTy Try.prog 124 1 1 := ⟨_, Try.underlying124, _, rfl, rfl, _, rfl, by decide⟩
instance : FldTy Try.prog 124 2 5 false 1 := ⟨⟨_, _, Try.underlying124, rfl, rfl, ⟨by kernel_rfl, by kernel_rfl⟩⟩, rfl⟩
instance : FieldTy Try.prog 124 2 5 := ⟨_, Try.underlying124, _, rfl, rfl, _, rfl, by decide⟩
instance : TyInfo Try.prog 125 false 1 := ⟨by kernel_rfl, by kernel_rfl⟩
instance : ZeroTy Try.prog 125 [.slice none 0 0] := ⟨by kernel_rfl⟩
instance : SliceTy Try.prog 125 107 4 := ⟨Try.underlying125, by kernel_rfl, by decide⟩
instance : AppTy Try.prog 125 107 4 := ⟨Try.underlying125, by kernel_rfl, by decide⟩
instance : TyInfo Try.prog 126 false 1 := ⟨by kernel_rfl, by kernel_rfl⟩
instance : ZeroTy Try.prog 126 [.nilFunc] := ⟨by kernel_rfl⟩
instance : TyInfo Try.prog 127 false 1 := ⟨by kernel_rfl, by kernel_rfl⟩
instance : ZeroTy Try.prog 127 [.int .u64 0] := ⟨by kernel_rfl⟩
instance : IntTy Try.prog 127 .u64 := ⟨Try.underlying127⟩
instance : TyInfo Try.prog 128 false 1 := ⟨by kernel_rfl, by kernel_rfl⟩
instance : ZeroTy Try.prog 128 [.nilFunc] := ⟨by kernel_rfl⟩
instance : TyInfo Try.prog 129 true 6 := ⟨by kernel_rfl, by kernel_rfl⟩
instance : ZeroTy Try.prog 129 [.int .i64 0, .int .u64 0, .int .i64 0, .int .u32 0, .int .i64 0, .bool false] := ⟨by kernel_rfl⟩
instance : StructTy Try.prog 129 [(0, 1), (1, 1), (2, 2), (4, 1), (5, 1)] := ⟨_, Try.underlying129, by kernel_rfl⟩
instance : FldTy Try.prog 129 0 0 false 1 := ⟨⟨_, _, Try.underlying129, rfl, rfl, ⟨by kernel_rfl, by kernel_rfl⟩⟩, rfl⟩
instance : FieldTy Try.prog 129 0 0 := ⟨_, Try.underlying129, _, rfl, rfl, _, rfl, by decide⟩
instance : FldTy Try.prog 129 1 1 false 1 := ⟨⟨_, _, Try.underlying129, rfl, rfl, ⟨by kernel_rfl, by kernel_rfl⟩⟩, rfl⟩
instance : FieldTy Try.prog 129 1 1 := ⟨_, Try.underlying129, _, rfl, rfl, _, rfl, by decide⟩
instance : FldTy Try.prog 129 2 2 true 2 := ⟨⟨_, _, Try.underlying129, rfl, rfl, ⟨by kernel_rfl, by kernel_rfl⟩⟩, rfl⟩
instance : FieldTy Try.prog 129 2 2 := ⟨_, Try.underlying129, _, rfl, rfl, _, rfl, by decide⟩
instance : FldTy Try.prog 129 3 4 false 1 := ⟨⟨_, _, Try.underlying129, rfl, rfl, ⟨by kernel_rfl, by kernel_rfl⟩⟩, rfl⟩
instance : FieldTy Try.prog 129 3 4 := ⟨_, Try.underlying129, _, rfl, rfl, _, rfl, by decide⟩
instance : FldTy Try.prog 129 4 5 false 1 := ⟨⟨_, _, Try.underlying129, rfl, rfl, ⟨by kernel_rfl, by kernel_rfl⟩⟩, rfl⟩
instance : FieldTy Try.prog 129 4 5 := ⟨_, Try.underlying129, _, rfl, rfl, _, rfl, by decide⟩
instance : TyInfo Try.prog 130 true 6 := ⟨by kernel_rfl, by kernel_rfl⟩
instance : ZeroTy Try.prog 130 [.int .i64 0, .int .u64 0, .int .i64 0, .int .u32 0, .int .i64 0, .bool false] := ⟨by kernel_rfl⟩
instance : StructTy Try.prog 130 [(0, 1), (1, 1), (2, 2), (4, 1), (5, 1)] := ⟨_, Try.underlying130, by kernel_rfl⟩
instance : FldTy Try.prog 130 0 0 false 1 := ⟨⟨_, _, Try.underlying130, rfl, rfl, ⟨by kernel_rfl, by kernel_rfl⟩⟩, rfl⟩
instance : FieldTy Try.prog 130 0 0 := ⟨_, Try.underlying130, _, rfl, rfl, _, rfl, by decide⟩
instance : FldTy Try.prog 130 1 1 false 1 := ⟨⟨_, _, Try.underlying130, rfl, rfl, ⟨by kernel_rfl, by kernel_rfl⟩⟩, rfl⟩
instance : FieldTy Try.prog 130 1 1 := ⟨_, Try.underlying130, _, rfl, rfl, _, rfl, by decide⟩
instance : FldTy Try.prog 130 2 2 true 2 := ⟨⟨_, _, Try.underlying130, rfl, rfl, ⟨by kernel_rfl, by kernel_rfl⟩⟩, rfl⟩
instance : FieldTy Try.prog 130 2 2 := ⟨_, Try.underlying130, _, rfl, rfl, _, rfl, by decide⟩
instance : FldTy Try.prog 130 3 4 false 1 := ⟨⟨_, _, Try.underlying130, rfl, rfl, ⟨by kernel_rfl, by kernel_rfl⟩⟩, rfl⟩
instance : FieldTy Try.prog 130 3 4 := ⟨_, Try.underlying130, _, rfl, rfl, _, rfl, by decide⟩
instance : FldTy Try.prog 130 4 5 false 1 := ⟨⟨_, _, Try.underlying130, rfl, rfl, ⟨by kernel_rfl, by kernel_rfl⟩⟩, rfl⟩
instance : FieldTy Try.prog 130 4 5 := ⟨_, Try.underlying130, _, rfl, rfl, _, rfl, by decide⟩
instance : TyInfo Try.prog 131 false 1 := ⟨by kernel_rfl, by kernel_rfl⟩
instance : ZeroTy Try.prog 131 [.nilFunc] := ⟨by kernel_rfl⟩
instance : TyInfo Try.prog 132 false 1 := ⟨by kernel_rfl, by kernel_rfl⟩
instance : ZeroTy Try.prog 132 [.nilFunc] := ⟨by kernel_rfl⟩
instance : TyInfo Try.prog 133 true 2 := ⟨by kernel_rfl, by kernel_rfl⟩
instance : ZeroTy Try.prog 133 [.slice none 0 0, .nilFunc] := ⟨by kernel_rfl⟩
instance : StructTy Try.prog 133 [(0, 1), (1, 1)] := ⟨_, Try.underlying133, by kernel_rfl⟩
instance : FldTy Try.prog 133 0 0 false 1 := ⟨⟨_, _, Try.underlying133, rfl, rfl, ⟨by kernel_rfl, by kernel_rfl⟩⟩, rfl⟩
instance : FieldTy Try.prog 133 0 0 := ⟨_, Try.underlying133, _, rfl, rfl, _, rfl, by decide⟩
instance : FldTy Try.prog 133 1 1 false 1 := ⟨⟨_, _, Try.underlying133, rfl, rfl, ⟨by kernel_rfl, by kernel_rfl⟩⟩, rfl⟩
instance : FieldTy Try.prog 133 1 1 := ⟨_, Try.underlying133, _, rfl, rfl, _, rfl, by decide⟩
instance : TyInfo Try.prog 134 true 2 := ⟨by kernel_rfl, by kernel_rfl⟩
instance : ZeroTy Try.prog 134 [.slice none 0 0, .nilFunc] := ⟨by kernel_rfl⟩
instance : StructTy Try.prog 134 [(0, 1), (1, 1)] := ⟨_, Try.underlying134, by kernel_rfl⟩
instance : FldTy Try.prog 134 0 0 false 1 := ⟨⟨_, _, Try.underlying134, rfl, rfl, ⟨by kernel_rfl, by kernel_rfl⟩⟩, rfl⟩
instance : FieldTy Try.prog 134 0 0 := ⟨_, Try.underlying134, _, rfl, rfl, _, rfl, by decide⟩
instance : FldTy Try.prog 134 1 1 false 1 := ⟨⟨_, _, Try.underlying134, rfl, rfl, ⟨by kernel_rfl, by kernel_rfl⟩⟩, rfl⟩
instance : FieldTy Try.prog 134 1 1 := ⟨_, Try.underlying134, _, rfl, rfl, _, rfl, by decide⟩
instance : TyInfo Try.prog 135 true 4 := ⟨by kernel_rfl, by kernel_rfl⟩
instance : ZeroTy Try.prog 135 [.slice none 0 0, .nilFunc, .int .i64 0, .int .i64 0] := ⟨by kernel_rfl⟩
instance : StructTy Try.prog 135 [(0, 2), (2, 1), (3, 1)] := ⟨_, Try.underlying135, by kernel_rfl⟩
instance : FldTy Try.prog 135 0 0 true 2 := ⟨⟨_, _, Try.underlying135, rfl, rfl, ⟨by kernel_rfl, by kernel_rfl⟩⟩, rfl⟩
instance : FieldTy Try.prog 135 0 0 := ⟨_, Try.underlying135, _, rfl, rfl, _, rfl, by decide⟩
instance : FldTy Try.prog 135 1 2 false 1 := ⟨⟨_, _, Try.underlying135, rfl, rfl, ⟨by kernel_rfl, by kernel_rfl⟩⟩, rfl⟩
instance : FieldTy Try.prog 135 1 2 := ⟨_, Try.underlying135, _, rfl, rfl, _, rfl, by decide⟩
instance : FldTy Try.prog 135 2 3 false 1 := ⟨⟨_, _, Try.underlying135, rfl, rfl, ⟨by kernel_rfl, by kernel_rfl⟩⟩, rfl⟩
instance : FieldTy Try.prog 135 2 3 := ⟨_, Try.underlying135, _, rfl, rfl, _, rfl, by decide⟩
instance : TyInfo Try.prog 136 true 4 := ⟨by kernel_rfl, by kernel_rfl⟩
instance : ZeroTy Try.prog 136 [.slice none 0 0, .nilFunc, .int .i64 0, .int .i64 0] := ⟨by kernel_rfl⟩
instance : StructTy Try.prog 136 [(0, 2), (2, 1), (3, 1)] := ⟨_, Try.underlying136, by kernel_rfl⟩
instance : FldTy Try.prog 136 0 0 true 2 := ⟨⟨_, _, Try.underlying136, rfl, rfl, ⟨by kernel_rfl, by kernel_rfl⟩⟩, rfl⟩
instance : FieldTy Try.prog 136 0 0 := ⟨_, Try.underlying136, _, rfl, rfl, _, rfl, by decide⟩
instance : FldTy Try.prog 136 1 2 false 1 := ⟨⟨_, _, Try.underlying136, rfl, rfl, ⟨by kernel_rfl, by kernel_rfl⟩⟩, rfl⟩
instance : FieldTy Try.prog 136 1 2 := ⟨_, Try.underlying136, _, rfl, rfl, _, rfl, by decide⟩
instance : FldTy Try.prog 136 2 3 false 1 := ⟨⟨_, _, Try.underlying136, rfl, rfl, ⟨by kernel_rfl, by kernel_rfl⟩⟩, rfl⟩
instance : FieldTy Try.prog 136 2 3 := ⟨_, Try.underlying136, _, rfl, rfl, _, rfl, by decide⟩
instance : TyInfo Try.prog 138 false 1 := ⟨by kernel_rfl, by kernel_rfl⟩
instance : ZeroTy Try.prog 138 [.nilFunc] := ⟨by kernel_rfl⟩
instance : TyInfo Try.prog 139 false 1 := ⟨by kernel_rfl, by kernel_rfl⟩
instance : ZeroTy Try.prog 139 [.nilFunc] := ⟨by kernel_rfl⟩
instance : TyInfo Try.prog 140 false 1 := ⟨by kernel_rfl, by kernel_rfl⟩
instance : ZeroTy Try.prog 140 [.nilFunc] := ⟨by kernel_rfl⟩
instance : TyInfo Try.prog 141 false 1 := ⟨by kernel_rfl, by kernel_rfl⟩
instance : ZeroTy Try.prog 141 [.nilFunc] := ⟨by kernel_rfl⟩
instance : TyInfo Try.prog 142 false 1 := ⟨by kernel_rfl, by kernel_rfl⟩
instance : ZeroTy Try.prog 142 [.nilFunc] := ⟨by kernel_rfl⟩
instance : TyInfo Try.prog 143 false 1 := ⟨by kernel_rfl, by kernel_rfl⟩
instance : ZeroTy Try.prog 143 [.nilFunc] := ⟨by kernel_rfl⟩
instance : TyInfo Try.prog 144 false 1 := ⟨by kernel_rfl, by kernel_rfl⟩
instance : ZeroTy Try.prog 144 [.nilFunc] := ⟨by kernel_rfl⟩
instance : TyInfo Try.prog 146 false 1 := ⟨by kernel_rfl, by kernel_rfl⟩
instance : ZeroTy Try.prog 146 [.nilFunc] := ⟨by kernel_rfl⟩
instance : TyInfo Try.prog 147 false 1 := ⟨by kernel_rfl, by kernel_rfl⟩
instance : ZeroTy Try.prog 147 [.nilFunc] := ⟨by kernel_rfl⟩
instance : TyInfo Try.prog 148 false 1 := ⟨by kernel_rfl, by kernel_rfl⟩
instance : ZeroTy Try.prog 148 [.nilFunc] := ⟨by kernel_rfl⟩
instance : TyInfo Try.prog 149 true 3 := ⟨by kernel_rfl, by kernel_rfl⟩
instance : ZeroTy Try.prog 149 [.slice none 0 0, .int .i64 0, .int .i64 0] := ⟨by kernel_rfl⟩
instance : StructTy Try.prog 149 [(0, 1), (1, 1), (2, 1)] := ⟨_, Try.underlying149, by kernel_rfl⟩
instance : FldTy Try.prog 149 0 0 false 1 := ⟨⟨_, _, Try.underlying149, rfl, rfl, ⟨by kernel_rfl, by kernel_rfl⟩⟩, rfl⟩
instance : FieldTy Try.prog 149 0 0 := ⟨_, Try.underlying149, _, rfl, rfl, _, rfl, by decide⟩
instance : FldTy Try.prog 149 1 1 false 1 := ⟨⟨_, _, Try.underlying149, rfl, rfl, ⟨by kernel_rfl, by kernel_rfl⟩⟩, rfl⟩
instance : FieldTy Try.prog 149 1 1 := ⟨_, Try.underlying149, _, rfl, rfl, _, rfl, by decide⟩
instance : FldTy Try.prog 149 2 2 false 1 := ⟨⟨_, _, Try.underlying149, rfl, rfl, ⟨by kernel_rfl, by kernel_rfl⟩⟩, rfl⟩
instance : FieldTy Try.prog 149 2 2 := ⟨_, Try.underlying149, _, rfl, rfl, _, rfl, by decide⟩
instance : TyInfo Try.prog 150 true 3 := ⟨by kernel_rfl, by kernel_rfl⟩
instance : ZeroTy Try.prog 150 [.slice none 0 0, .int .i64 0, .int .i64 0] := ⟨by kernel_rfl⟩
instance : StructTy Try.prog 150 [(0, 1), (1, 1), (2, 1)] := ⟨_, Try.underlying150, by kernel_rfl⟩
instance : FldTy Try.prog 150 0 0 false 1 := ⟨⟨_, _, Try.underlying150, rfl, rfl, ⟨by kernel_rfl, by kernel_rfl⟩⟩, rfl⟩
instance : FieldTy Try.prog 150 0 0 := ⟨_, Try.underlying150, _, rfl, rfl, _, rfl, by decide⟩
instance : FldTy Try.prog 150 1 1 false 1 := ⟨⟨_, _, Try.underlying150, rfl, rfl, ⟨by kernel_rfl, by kernel_rfl⟩⟩, rfl⟩
instance : FieldTy Try.prog 150 1 1 := ⟨_, Try.underlying150, _, rfl, rfl, _, rfl, by decide⟩
instance : FldTy Try.prog 150 2 2 false 1 := ⟨⟨_, _, Try.underlying150, rfl, rfl, ⟨by kernel_rfl, by kernel_rfl⟩⟩, rfl⟩
instance : FieldTy Try.prog 150 2 2 := ⟨_, Try.underlying150, _, rfl, rfl, _, rfl, by decide⟩
instance : TyInfo Try.prog 151 false 1 := ⟨by kernel_rfl, by kernel_rfl⟩
instance : ZeroTy Try.prog 151 [.nilFunc] := ⟨by kernel_rfl⟩
instance : TyInfo Try.prog 152 false 1 := ⟨by kernel_rfl, by kernel_rfl⟩
instance : ZeroTy Try.prog 152 [.pointer none] := ⟨by kernel_rfl⟩
instance : PtrTy Try.prog 152 := ⟨_, Try.underlying152⟩
instance : TyInfo Try.prog 153 false 1 := ⟨by kernel_rfl, by kernel_rfl⟩
instance : ZeroTy Try.prog 153 [.nilFunc] := ⟨by kernel_rfl⟩
instance : TyInfo Try.prog 154 false 1 := ⟨by kernel_rfl, by kernel_rfl⟩
instance : ZeroTy Try.prog 154 [.nilFunc] := ⟨by kernel_rfl⟩
instance : TyInfo Try.prog 155 false 1 := ⟨by kernel_rfl, by kernel_rfl⟩
instance : ZeroTy Try.prog 155 [.nilFunc] := ⟨by kernel_rfl⟩
instance : TyInfo Try.prog 156 false 1 := ⟨by kernel_rfl, by kernel_rfl⟩
instance : ZeroTy Try.prog 156 [.nilFunc] := ⟨by kernel_rfl⟩
instance : TyInfo Try.prog 157 false 1 := ⟨by kernel_rfl, by kernel_rfl⟩
instance : ZeroTy Try.prog 157 [.nilFunc] := ⟨by kernel_rfl⟩
instance : TyInfo Try.prog 158 false 1 := ⟨by kernel_rfl, by kernel_rfl⟩
instance : ZeroTy Try.prog 158 [.nilFunc] := ⟨by kernel_rfl⟩
instance : TyInfo Try.prog 159 false 1 := ⟨by kernel_rfl, by kernel_rfl⟩
instance : ZeroTy Try.prog 159 [.nilFunc] := ⟨by kernel_rfl⟩
instance : TyInfo Try.prog 160 false 1 := ⟨by kernel_rfl, by kernel_rfl⟩
instance : ZeroTy Try.prog 160 [.nilFunc] := ⟨by kernel_rfl⟩
instance : TyInfo Try.prog 161 false 1 := ⟨by kernel_rfl, by kernel_rfl⟩
instance : ZeroTy Try.prog 161 [.nilFunc] := ⟨by kernel_rfl⟩
instance : TyInfo Try.prog 162 false 1 := ⟨by kernel_rfl, by kernel_rfl⟩
instance : ZeroTy Try.prog 162 [.nilFunc] := ⟨by kernel_rfl⟩
instance : TyInfo Try.prog 163 false 1 := ⟨by kernel_rfl, by kernel_rfl⟩
instance : ZeroTy Try.prog 163 [.nilFunc] := ⟨by kernel_rfl⟩
instance : TyInfo Try.prog 164 false 1 := ⟨by kernel_rfl, by kernel_rfl⟩
instance : ZeroTy Try.prog 164 [.nilFunc] := ⟨by kernel_rfl⟩
instance : TyInfo Try.prog 165 false 1 := ⟨by kernel_rfl, by kernel_rfl⟩
instance : ZeroTy Try.prog 165 [.nilFunc] := ⟨by kernel_rfl⟩
instance : TyInfo Try.prog 171 false 1 := ⟨by kernel_rfl, by kernel_rfl⟩
instance : ZeroTy Try.prog 171 [.nilFunc] := ⟨by kernel_rfl⟩
instance : TyInfo Try.prog 174 false 1 := ⟨by kernel_rfl, by kernel_rfl⟩
instance : ZeroTy Try.prog 174 [.nilFunc] := ⟨by kernel_rfl⟩
instance : TyInfo Try.prog 175 false 1 := ⟨by kernel_rfl, by kernel_rfl⟩
instance : ZeroTy Try.prog 175 [.pointer none] := ⟨by kernel_rfl⟩
instance : PtrTy Try.prog 175 := ⟨_, Try.underlying175⟩
instance : TyInfo Try.prog 180 true 3 := ⟨by kernel_rfl, by kernel_rfl⟩
instance : ZeroTy Try.prog 180 [.int .i64 0, .int .u64 0, .int .i64 0] := ⟨by kernel_rfl⟩
instance : StructTy Try.prog 180 [(0, 1), (1, 1), (2, 1)] := ⟨_, Try.underlying180, by kernel_rfl⟩
instance : FldTy Try.prog 180 0 0 false 1 := ⟨⟨_, _, Try.underlying180, rfl, rfl, ⟨by kernel_rfl, by kernel_rfl⟩⟩, rfl⟩
instance : FieldTy Try.prog 180 0 0 := ⟨_, Try.underlying180, _, rfl, rfl, _, rfl, by decide⟩
instance : FldTy Try.prog 180 1 1 false 1 := ⟨⟨_, _, Try.underlying180, rfl, rfl, ⟨by kernel_rfl, by kernel_rfl⟩⟩, rfl⟩
instance : FieldTy Try.prog 180 1 1 := ⟨_, Try.underlying180, _, rfl, rfl, _, rfl, by decide⟩
instance : FldTy Try.prog 180 2 2 false 1 := ⟨⟨_, _, Try.underlying180, rfl, rfl, ⟨by kernel_rfl, by kernel_rfl⟩⟩, rfl⟩
instance : FieldTy Try.prog 180 2 2 := ⟨_, Try.underlying180, _, rfl, rfl, _, rfl, by decide⟩
instance : TyInfo Try.prog 181 true 3 := ⟨by kernel_rfl, by kernel_rfl⟩
instance : ZeroTy Try.prog 181 [.int .i64 0, .int .u64 0, .int .i64 0] := ⟨by kernel_rfl⟩
instance : StructTy Try.prog 181 [(0, 1), (1, 1), (2, 1)] := ⟨_, Try.underlying181, by kernel_rfl⟩
instance : FldTy Try.prog 181 0 0 false 1 := ⟨⟨_, _, Try.underlying181, rfl, rfl, ⟨by kernel_rfl, by kernel_rfl⟩⟩, rfl⟩
instance : FieldTy Try.prog 181 0 0 := ⟨_, Try.underlying181, _, rfl, rfl, _, rfl, by decide⟩
instance : FldTy Try.prog 181 1 1 false 1 := ⟨⟨_, _, Try.underlying181, rfl, rfl, ⟨by kernel_rfl, by kernel_rfl⟩⟩, rfl⟩
instance : FieldTy Try.prog 181 1 1 := ⟨_, Try.underlying181, _, rfl, rfl, _, rfl, by decide⟩
instance : FldTy Try.prog 181 2 2 false 1 := ⟨⟨_, _, Try.underlying181, rfl, rfl, ⟨by kernel_rfl, by kernel_rfl⟩⟩, rfl⟩
instance : FieldTy Try.prog 181 2 2 := ⟨_, Try.underlying181, _, rfl, rfl, _, rfl, by decide⟩
instance : EqTy Try.prog 2 false [some (.i .i64)] 1 := ⟨eqat_int Try.underlying2⟩
instance : EqTy Try.prog 3 false [some (.i .i64)] 1 := ⟨eqat_int Try.underlying3⟩
instance : EqTy Try.prog 4 false [some .b] 1 := ⟨eqat_bool Try.underlying4⟩
instance : EqTy Try.prog 5 false [some (.i .u8)] 1 := ⟨eqat_int Try.underlying5⟩
instance : EqTy Try.prog 9 false [some .s] 1 := ⟨eqat_string Try.underlying9⟩
instance : EqTy Try.prog 12 false [some (.i .u64)] 1 := ⟨eqat_int Try.underlying12⟩
instance : EqTy Try.prog 21 false [some (.i .i32)] 1 := ⟨eqat_int Try.underlying21⟩
instance : EqTy Try.prog 23 true [some (.i .i64), some (.i .i64), some (.i .i64), some (.i .i64)] 2 := ⟨eqat_struct Try.underlying23 (by kernel_rfl) (FieldsEq.cons (agg := false) (m' := 1) (sh1 := [some (.i .i64)]) (by decide) rfl (show EqTy Try.prog 3 false [some (.i .i64)] 1 from inferInstance) rfl (show TyInfo Try.prog 3 false 1 from inferInstance) rfl (FieldsEq.cons (agg := false) (m' := 1) (sh1 := [some (.i .i64)]) (by decide) rfl (show EqTy Try.prog 3 false [some (.i .i64)] 1 from inferInstance) rfl (show TyInfo Try.prog 3 false 1 from inferInstance) rfl (FieldsEq.cons (agg := false) (m' := 1) (sh1 := [some (.i .i64)]) (by decide) rfl (show EqTy Try.prog 3 false [some (.i .i64)] 1 from inferInstance) rfl (show TyInfo Try.prog 3 false 1 from inferInstance) rfl (FieldsEq.cons (agg := false) (m' := 1) (sh1 := [some (.i .i64)]) (by decide) rfl (show EqTy Try.prog 3 false [some (.i .i64)] 1 from inferInstance) rfl (show TyInfo Try.prog 3 false 1 from inferInstance) rfl FieldsEq.nil))))⟩
instance : NoGuard Try.prog 23 := ⟨by kernel_rfl⟩
instance : EqTy Try.prog 24 true [some (.i .i64), some (.i .i64), some (.i .i64), some (.i .i64)] 2 := ⟨eqat_struct Try.underlying24 (by kernel_rfl) (FieldsEq.cons (agg := false) (m' := 1) (sh1 := [some (.i .i64)]) (by decide) rfl (show EqTy Try.prog 3 false [some (.i .i64)] 1 from inferInstance) rfl (show TyInfo Try.prog 3 false 1 from inferInstance) rfl (FieldsEq.cons (agg := false) (m' := 1) (sh1 := [some (.i .i64)]) (by decide) rfl (show EqTy Try.prog 3 false [some (.i .i64)] 1 from inferInstance) rfl (show TyInfo Try.prog 3 false 1 from inferInstance) rfl (FieldsEq.cons (agg := false) (m' := 1) (sh1 := [some (.i .i64)]) (by decide) rfl (show EqTy Try.prog 3 false [some (.i .i64)] 1 from inferInstance) rfl (show TyInfo Try.prog 3 false 1 from inferInstance) rfl (FieldsEq.cons (agg := false) (m' := 1) (sh1 := [some (.i .i64)]) (by decide) rfl (show EqTy Try.prog 3 false [some (.i .i64)] 1 from inferInstance) rfl (show TyInfo Try.prog 3 false 1 from inferInstance) rfl FieldsEq.nil))))⟩
instance : NoGuard Try.prog 24 := ⟨by kernel_rfl⟩
instance : EqTy Try.prog 30 false [some (.i .i64)] 1 := ⟨eqat_int Try.underlying30⟩
instance : EqTy Try.prog 35 false [some (.i .u64)] 1 := ⟨eqat_int Try.underlying35⟩
instance : EqTy Try.prog 36 true [some .b, some (.i .i64), some .b, some (.i .i64)] 2 := ⟨eqat_struct Try.underlying36 (by kernel_rfl) (FieldsEq.cons (agg := false) (m' := 1) (sh1 := [some .b]) (by decide) rfl (show EqTy Try.prog 4 false [some .b] 1 from inferInstance) rfl (show TyInfo Try.prog 4 false 1 from inferInstance) rfl (FieldsEq.cons (agg := false) (m' := 1) (sh1 := [some (.i .i64)]) (by decide) rfl (show EqTy Try.prog 3 false [some (.i .i64)] 1 from inferInstance) rfl (show TyInfo Try.prog 3 false 1 from inferInstance) rfl (FieldsEq.cons (agg := false) (m' := 1) (sh1 := [some .b]) (by decide) rfl (show EqTy Try.prog 4 false [some .b] 1 from inferInstance) rfl (show TyInfo Try.prog 4 false 1 from inferInstance) rfl (FieldsEq.cons (agg := false) (m' := 1) (sh1 := [some (.i .i64)]) (by decide) rfl (show EqTy Try.prog 3 false [some (.i .i64)] 1 from inferInstance) rfl (show TyInfo Try.prog 3 false 1 from inferInstance) rfl FieldsEq.nil))))⟩
instance : NoGuard Try.prog 36 := ⟨by kernel_rfl⟩
instance : EqTy Try.prog 37 true [some .b, some (.i .i64), some .b, some (.i .i64)] 2 := ⟨eqat_struct Try.underlying37 (by kernel_rfl) (FieldsEq.cons (agg := false) (m' := 1) (sh1 := [some .b]) (by decide) rfl (show EqTy Try.prog 4 false [some .b] 1 from inferInstance) rfl (show TyInfo Try.prog 4 false 1 from inferInstance) rfl (FieldsEq.cons (agg := false) (m' := 1) (sh1 := [some (.i .i64)]) (by decide) rfl (show EqTy Try.prog 3 false [some (.i .i64)] 1 from inferInstance) rfl (show TyInfo Try.prog 3 false 1 from inferInstance) rfl (FieldsEq.cons (agg := false) (m' := 1) (sh1 := [some .b]) (by decide) rfl (show EqTy Try.prog 4 false [some .b] 1 from inferInstance) rfl (show TyInfo Try.prog 4 false 1 from inferInstance) rfl (FieldsEq.cons (agg := false) (m' := 1) (sh1 := [some (.i .i64)]) (by decide) rfl (show EqTy Try.prog 3 false [some (.i .i64)] 1 from inferInstance) rfl (show TyInfo Try.prog 3 false 1 from inferInstance) rfl FieldsEq.nil))))⟩
instance : NoGuard Try.prog 37 := ⟨by kernel_rfl⟩
instance : EqTy Try.prog 38 true [some (.i .u64), some (.i .u64), some .b, some (.i .i64), some .b, some (.i .i64), some (.i .i64), some .s] 3 := ⟨eqat_struct Try.underlying38 (by kernel_rfl) (FieldsEq.cons (agg := false) (m' := 1) (sh1 := [some (.i .u64)]) (by decide) rfl (show EqTy Try.prog 35 false [some (.i .u64)] 1 from inferInstance) rfl (show TyInfo Try.prog 35 false 1 from inferInstance) rfl (FieldsEq.cons (agg := false) (m' := 1) (sh1 := [some (.i .u64)]) (by decide) rfl (show EqTy Try.prog 35 false [some (.i .u64)] 1 from inferInstance) rfl (show TyInfo Try.prog 35 false 1 from inferInstance) rfl (FieldsEq.cons (agg := true) (m' := 2) (sh1 := [some .b, some (.i .i64), some .b, some (.i .i64)]) (by decide) rfl (show EqTy Try.prog 37 true [some .b, some (.i .i64), some .b, some (.i .i64)] 2 from inferInstance) rfl (show TyInfo Try.prog 37 true 4 from inferInstance) rfl (FieldsEq.cons (agg := false) (m' := 1) (sh1 := [some (.i .i64)]) (by decide) rfl (show EqTy Try.prog 3 false [some (.i .i64)] 1 from inferInstance) rfl (show TyInfo Try.prog 3 false 1 from inferInstance) rfl (FieldsEq.cons (agg := false) (m' := 1) (sh1 := [some .s]) (by decide) rfl (show EqTy Try.prog 9 false [some .s] 1 from inferInstance) rfl (show TyInfo Try.prog 9 false 1 from inferInstance) rfl FieldsEq.nil)))))⟩
instance : NoGuard Try.prog 38 := ⟨by kernel_rfl⟩
instance : EqTy Try.prog 39 true [some (.i .u64), some (.i .u64), some .b, some (.i .i64), some .b, some (.i .i64), some (.i .i64), some .s] 3 := ⟨eqat_struct Try.underlying39 (by kernel_rfl) (FieldsEq.cons (agg := false) (m' := 1) (sh1 := [some (.i .u64)]) (by decide) rfl (show EqTy Try.prog 35 false [some (.i .u64)] 1 from inferInstance) rfl (show TyInfo Try.prog 35 false 1 from inferInstance) rfl (FieldsEq.cons (agg := false) (m' := 1) (sh1 := [some (.i .u64)]) (by decide) rfl (show EqTy Try.prog 35 false [some (.i .u64)] 1 from inferInstance) rfl (show TyInfo Try.prog 35 false 1 from inferInstance) rfl (FieldsEq.cons (agg := true) (m' := 2) (sh1 := [some .b, some (.i .i64), some .b, some (.i .i64)]) (by decide) rfl (show EqTy Try.prog 37 true [some .b, some (.i .i64), some .b, some (.i .i64)] 2 from inferInstance) rfl (show TyInfo Try.prog 37 true 4 from inferInstance) rfl (FieldsEq.cons (agg := false) (m' := 1) (sh1 := [some (.i .i64)]) (by decide) rfl (show EqTy Try.prog 3 false [some (.i .i64)] 1 from inferInstance) rfl (show TyInfo Try.prog 3 false 1 from inferInstance) rfl (FieldsEq.cons (agg := false) (m' := 1) (sh1 := [some .s]) (by decide) rfl (show EqTy Try.prog 9 false [some .s] 1 from inferInstance) rfl (show TyInfo Try.prog 9 false 1 from inferInstance) rfl FieldsEq.nil)))))⟩
instance : NoGuard Try.prog 39 := ⟨by kernel_rfl⟩
instance : EqTy Try.prog 40 true [some (.i .i64), some (.i .i64), some (.i .i64), some (.i .u64), some (.i .u64), some .b, some (.i .i64), some .b, some (.i .i64), some (.i .i64), some .s, some (.i .i64)] 4 := ⟨eqat_struct Try.underlying40 (by kernel_rfl) (FieldsEq.cons (agg := false) (m' := 1) (sh1 := [some (.i .i64)]) (by decide) rfl (show EqTy Try.prog 3 false [some (.i .i64)] 1 from inferInstance) rfl (show TyInfo Try.prog 3 false 1 from inferInstance) rfl (FieldsEq.cons (agg := false) (m' := 1) (sh1 := [some (.i .i64)]) (by decide) rfl (show EqTy Try.prog 3 false [some (.i .i64)] 1 from inferInstance) rfl (show TyInfo Try.prog 3 false 1 from inferInstance) rfl (FieldsEq.cons (agg := false) (m' := 1) (sh1 := [some (.i .i64)]) (by decide) rfl (show EqTy Try.prog 3 false [some (.i .i64)] 1 from inferInstance) rfl (show TyInfo Try.prog 3 false 1 from inferInstance) rfl (FieldsEq.cons (agg := true) (m' := 3) (sh1 := [some (.i .u64), some (.i .u64), some .b, some (.i .i64), some .b, some (.i .i64), some (.i .i64), some .s]) (by decide) rfl (show EqTy Try.prog 39 true [some (.i .u64), some (.i .u64), some .b, some (.i .i64), some .b, some (.i .i64), some (.i .i64), some .s] 3 from inferInstance) rfl (show TyInfo Try.prog 39 true 8 from inferInstance) rfl (FieldsEq.cons (agg := false) (m' := 1) (sh1 := [some (.i .i64)]) (by decide) rfl (show EqTy Try.prog 3 false [some (.i .i64)] 1 from inferInstance) rfl (show TyInfo Try.prog 3 false 1 from inferInstance) rfl FieldsEq.nil)))))⟩
instance : NoGuard Try.prog 40 := ⟨by kernel_rfl⟩
instance : EqTy Try.prog 41 true [some (.i .i64), some (.i .i64), some (.i .i64), some (.i .u64), some (.i .u64), some .b, some (.i .i64), some .b, some (.i .i64), some (.i .i64), some .s, some (.i .i64)] 4 := ⟨eqat_struct Try.underlying41 (by kernel_rfl) (FieldsEq.cons (agg := false) (m' := 1) (sh1 := [some (.i .i64)]) (by decide) rfl (show EqTy Try.prog 3 false [some (.i .i64)] 1 from inferInstance) rfl (show TyInfo Try.prog 3 false 1 from inferInstance) rfl (FieldsEq.cons (agg := false) (m' := 1) (sh1 := [some (.i .i64)]) (by decide) rfl (show EqTy Try.prog 3 false [some (.i .i64)] 1 from inferInstance) rfl (show TyInfo Try.prog 3 false 1 from inferInstance) rfl (FieldsEq.cons (agg := false) (m' := 1) (sh1 := [some (.i .i64)]) (by decide) rfl (show EqTy Try.prog 3 false [some (.i .i64)] 1 from inferInstance) rfl (show TyInfo Try.prog 3 false 1 from inferInstance) rfl (FieldsEq.cons (agg := true) (m' := 3) (sh1 := [some (.i .u64), some (.i .u64), some .b, some (.i .i64), some .b, some (.i .i64), some (.i .i64), some .s]) (by decide) rfl (show EqTy Try.prog 39 true [some (.i .u64), some (.i .u64), some .b, some (.i .i64), some .b, some (.i .i64), some (.i .i64), some .s] 3 from inferInstance) rfl (show TyInfo Try.prog 39 true 8 from inferInstance) rfl (FieldsEq.cons (agg := false) (m' := 1) (sh1 := [some (.i .i64)]) (by decide) rfl (show EqTy Try.prog 3 false [some (.i .i64)] 1 from inferInstance) rfl (show TyInfo Try.prog 3 false 1 from inferInstance) rfl FieldsEq.nil)))))⟩
instance : NoGuard Try.prog 41 := ⟨by kernel_rfl⟩
instance : EqTy Try.prog 44 false [some (.i .u32)] 1 := ⟨eqat_int Try.underlying44⟩
instance : EqTy Try.prog 56 true [some (.i .i64), some (.i .u64), some (.i .u64), some .b, some (.i .i64), some .b, some (.i .i64), some (.i .i64), some .s] 4 := ⟨eqat_struct Try.underlying56 (by kernel_rfl) (FieldsEq.cons (agg := false) (m' := 1) (sh1 := [some (.i .i64)]) (by decide) rfl (show EqTy Try.prog 3 false [some (.i .i64)] 1 from inferInstance) rfl (show TyInfo Try.prog 3 false 1 from inferInstance) rfl (FieldsEq.cons (agg := true) (m' := 3) (sh1 := [some (.i .u64), some (.i .u64), some .b, some (.i .i64), some .b, some (.i .i64), some (.i .i64), some .s]) (by decide) rfl (show EqTy Try.prog 39 true [some (.i .u64), some (.i .u64), some .b, some (.i .i64), some .b, some (.i .i64), some (.i .i64), some .s] 3 from inferInstance) rfl (show TyInfo Try.prog 39 true 8 from inferInstance) rfl FieldsEq.nil))⟩
instance : NoGuard Try.prog 56 := ⟨by kernel_rfl⟩
instance : EqTy Try.prog 57 true [some (.i .i64), some (.i .u64), some (.i .u64), some .b, some (.i .i64), some .b, some (.i .i64), some (.i .i64), some .s] 4 := ⟨eqat_struct Try.underlying57 (by kernel_rfl) (FieldsEq.cons (agg := false) (m' := 1) (sh1 := [some (.i .i64)]) (by decide) rfl (show EqTy Try.prog 3 false [some (.i .i64)] 1 from inferInstance) rfl (show TyInfo Try.prog 3 false 1 from inferInstance) rfl (FieldsEq.cons (agg := true) (m' := 3) (sh1 := [some (.i .u64), some (.i .u64), some .b, some (.i .i64), some .b, some (.i .i64), some (.i .i64), some .s]) (by decide) rfl (show EqTy Try.prog 39 true [some (.i .u64), some (.i .u64), some .b, some (.i .i64), some .b, some (.i .i64), some (.i .i64), some .s] 3 from inferInstance) rfl (show TyInfo Try.prog 39 true 8 from inferInstance) rfl FieldsEq.nil))⟩
instance : NoGuard Try.prog 57 := ⟨by kernel_rfl⟩
instance : EqTy Try.prog 73 true [some (.i .i64), some (.i .i64), some (.i .i64), some (.i .i64), some (.i .i64), some (.i .i64), some (.i .i64), some (.i .i64), some (.i .i64), some (.i .i64), some (.i .i64), some (.i .i64), some (.i .i64), some (.i .i64), some (.i .i64), some (.i .i64), some (.i .i64), some (.i .i64), some (.i .i64), some (.i .i64), some (.i .i64), some (.i .i64), some (.i .i64), some (.i .i64), some (.i .i64), some (.i .i64), some (.i .i64), some (.i .i64), some (.i .i64), some (.i .i64), some (.i .i64), some (.i .i64), some (.i .i64), some (.i .i64), some (.i .i64), some (.i .i64), some (.i .i64), some (.i .i64), some (.i .i64), some (.i .i64), some (.i .i64), some (.i .i64), some (.i .i64), some (.i .i64), some (.i .i64), some (.i .i64), some (.i .i64), some (.i .i64), some (.i .i64), some (.i .i64), some (.i .i64), some (.i .i64), some (.i .i64), some (.i .i64), some (.i .i64), some (.i .i64), some (.i .i64), some (.i .i64), some (.i .i64), some (.i .i64), some (.i .i64), some (.i .i64), some (.i .i64), some (.i .i64), some (.i .i64)] 2 := ⟨eqat_array (agg := false) (sh := [some (.i .i64)]) Try.underlying73 (show EqTy Try.prog 3 false [some (.i .i64)] 1 from inferInstance) (show TyInfo Try.prog 3 false 1 from inferInstance) rfl rfl⟩
instance : NoGuard Try.prog 73 := ⟨by kernel_rfl⟩
instance : EqTy Try.prog 82 true [some (.i .i64), some (.i .u32)] 2 := ⟨eqat_struct Try.underlying82 (by kernel_rfl) (FieldsEq.cons (agg := false) (m' := 1) (sh1 := [some (.i .i64)]) (by decide) rfl (show EqTy Try.prog 3 false [some (.i .i64)] 1 from inferInstance) rfl (show TyInfo Try.prog 3 false 1 from inferInstance) rfl (FieldsEq.cons (agg := false) (m' := 1) (sh1 := [some (.i .u32)]) (by decide) rfl (show EqTy Try.prog 44 false [some (.i .u32)] 1 from inferInstance) rfl (show TyInfo Try.prog 44 false 1 from inferInstance) rfl FieldsEq.nil))⟩
instance : NoGuard Try.prog 82 := ⟨by kernel_rfl⟩
instance : EqTy Try.prog 83 true [some (.i .i64), some (.i .u32)] 2 := ⟨eqat_struct Try.underlying83 (by kernel_rfl) (FieldsEq.cons (agg := false) (m' := 1) (sh1 := [some (.i .i64)]) (by decide) rfl (show EqTy Try.prog 3 false [some (.i .i64)] 1 from inferInstance) rfl (show TyInfo Try.prog 3 false 1 from inferInstance) rfl (FieldsEq.cons (agg := false) (m' := 1) (sh1 := [some (.i .u32)]) (by decide) rfl (show EqTy Try.prog 44 false [some (.i .u32)] 1 from inferInstance) rfl (show TyInfo Try.prog 44 false 1 from inferInstance) rfl FieldsEq.nil))⟩
instance : NoGuard Try.prog 83 := ⟨by kernel_rfl⟩
instance : EqTy Try.prog 106 true [some (.i .u64), some (.i .u64), some (.i .i64), some .b] 2 := ⟨eqat_struct Try.underlying106 (by kernel_rfl) (FieldsEq.cons (agg := false) (m' := 1) (sh1 := [some (.i .u64)]) (by decide) rfl (show EqTy Try.prog 35 false [some (.i .u64)] 1 from inferInstance) rfl (show TyInfo Try.prog 35 false 1 from inferInstance) rfl (FieldsEq.cons (agg := false) (m' := 1) (sh1 := [some (.i .u64)]) (by decide) rfl (show EqTy Try.prog 35 false [some (.i .u64)] 1 from inferInstance) rfl (show TyInfo Try.prog 35 false 1 from inferInstance) rfl (FieldsEq.cons (agg := false) (m' := 1) (sh1 := [some (.i .i64)]) (by decide) rfl (show EqTy Try.prog 3 false [some (.i .i64)] 1 from inferInstance) rfl (show TyInfo Try.prog 3 false 1 from inferInstance) rfl (FieldsEq.cons (agg := false) (m' := 1) (sh1 := [some .b]) (by decide) rfl (show EqTy Try.prog 4 false [some .b] 1 from inferInstance) rfl (show TyInfo Try.prog 4 false 1 from inferInstance) rfl FieldsEq.nil))))⟩
instance : NoGuard Try.prog 106 := ⟨by kernel_rfl⟩
instance : EqTy Try.prog 107 true [some (.i .u64), some (.i .u64), some (.i .i64), some .b] 2 := ⟨eqat_struct Try.underlying107 (by kernel_rfl) (FieldsEq.cons (agg := false) (m' := 1) (sh1 := [some (.i .u64)]) (by decide) rfl (show EqTy Try.prog 35 false [some (.i .u64)] 1 from inferInstance) rfl (show TyInfo Try.prog 35 false 1 from inferInstance) rfl (FieldsEq.cons (agg := false) (m' := 1) (sh1 := [some (.i .u64)]) (by decide) rfl (show EqTy Try.prog 35 false [some (.i .u64)] 1 from inferInstance) rfl (show TyInfo Try.prog 35 false 1 from inferInstance) rfl (FieldsEq.cons (agg := false) (m' := 1) (sh1 := [some (.i .i64)]) (by decide) rfl (show EqTy Try.prog 3 false [some (.i .i64)] 1 from inferInstance) rfl (show TyInfo Try.prog 3 false 1 from inferInstance) rfl (FieldsEq.cons (agg := false) (m' := 1) (sh1 := [some .b]) (by decide) rfl (show EqTy Try.prog 4 false [some .b] 1 from inferInstance) rfl (show TyInfo Try.prog 4 false 1 from inferInstance) rfl FieldsEq.nil))))⟩
instance : NoGuard Try.prog 107 := ⟨by kernel_rfl⟩
instance : EqTy Try.prog 127 false [some (.i .u64)] 1 := ⟨eqat_int Try.underlying127⟩
instance : EqTy Try.prog 129 true [some (.i .i64), some (.i .u64), some (.i .i64), some (.i .u32), some (.i .i64), some .b] 3 := ⟨eqat_struct Try.underlying129 (by kernel_rfl) (FieldsEq.cons (agg := false) (m' := 1) (sh1 := [some (.i .i64)]) (by decide) rfl (show EqTy Try.prog 3 false [some (.i .i64)] 1 from inferInstance) rfl (show TyInfo Try.prog 3 false 1 from inferInstance) rfl (FieldsEq.cons (agg := false) (m' := 1) (sh1 := [some (.i .u64)]) (by decide) rfl (show EqTy Try.prog 35 false [some (.i .u64)] 1 from inferInstance) rfl (show TyInfo Try.prog 35 false 1 from inferInstance) rfl (FieldsEq.cons (agg := true) (m' := 2) (sh1 := [some (.i .i64), some (.i .u32)]) (by decide) rfl (show EqTy Try.prog 83 true [some (.i .i64), some (.i .u32)] 2 from inferInstance) rfl (show TyInfo Try.prog 83 true 2 from inferInstance) rfl (FieldsEq.cons (agg := false) (m' := 1) (sh1 := [some (.i .i64)]) (by decide) rfl (show EqTy Try.prog 3 false [some (.i .i64)] 1 from inferInstance) rfl (show TyInfo Try.prog 3 false 1 from inferInstance) rfl (FieldsEq.cons (agg := false) (m' := 1) (sh1 := [some .b]) (by decide) rfl (show EqTy Try.prog 4 false [some .b] 1 from inferInstance) rfl (show TyInfo Try.prog 4 false 1 from inferInstance) rfl FieldsEq.nil)))))⟩
instance : NoGuard Try.prog 129 := ⟨by kernel_rfl⟩
instance : EqTy Try.prog 130 true [some (.i .i64), some (.i .u64), some (.i .i64), some (.i .u32), some (.i .i64), some .b] 3 := ⟨eqat_struct Try.underlying130 (by kernel_rfl) (FieldsEq.cons (agg := false) (m' := 1) (sh1 := [some (.i .i64)]) (by decide) rfl (show EqTy Try.prog 3 false [some (.i .i64)] 1 from inferInstance) rfl (show TyInfo Try.prog 3 false 1 from inferInstance) rfl (FieldsEq.cons (agg := false) (m' := 1) (sh1 := [some (.i .u64)]) (by decide) rfl (show EqTy Try.prog 35 false [some (.i .u64)] 1 from inferInstance) rfl (show TyInfo Try.prog 35 false 1 from inferInstance) rfl (FieldsEq.cons (agg := true) (m' := 2) (sh1 := [some (.i .i64), some (.i .u32)]) (by decide) rfl (show EqTy Try.prog 83 true [some (.i .i64), some (.i .u32)] 2 from inferInstance) rfl (show TyInfo Try.prog 83 true 2 from inferInstance) rfl (FieldsEq.cons (agg := false) (m' := 1) (sh1 := [some (.i .i64)]) (by decide) rfl (show EqTy Try.prog 3 false [some (.i .i64)] 1 from inferInstance) rfl (show TyInfo Try.prog 3 false 1 from inferInstance) rfl (FieldsEq.cons (agg := false) (m' := 1) (sh1 := [some .b]) (by decide) rfl (show EqTy Try.prog 4 false [some .b] 1 from inferInstance) rfl (show TyInfo Try.prog 4 false 1 from inferInstance) rfl FieldsEq.nil)))))⟩
instance : NoGuard Try.prog 130 := ⟨by kernel_rfl⟩
instance : EqTy Try.prog 180 true [some (.i .i64), some (.i .u64), some (.i .i64)] 2 := ⟨eqat_struct Try.underlying180 (by kernel_rfl) (FieldsEq.cons (agg := false) (m' := 1) (sh1 := [some (.i .i64)]) (by decide) rfl (show EqTy Try.prog 3 false [some (.i .i64)] 1 from inferInstance) rfl (show TyInfo Try.prog 3 false 1 from inferInstance) rfl (FieldsEq.cons (agg := false) (m' := 1) (sh1 := [some (.i .u64)]) (by decide) rfl (show EqTy Try.prog 35 false [some (.i .u64)] 1 from inferInstance) rfl (show TyInfo Try.prog 35 false 1 from inferInstance) rfl (FieldsEq.cons (agg := false) (m' := 1) (sh1 := [some (.i .i64)]) (by decide) rfl (show EqTy Try.prog 3 false [some (.i .i64)] 1 from inferInstance) rfl (show TyInfo Try.prog 3 false 1 from inferInstance) rfl FieldsEq.nil)))⟩
instance : NoGuard Try.prog 180 := ⟨by kernel_rfl⟩
instance : EqTy Try.prog 181 true [some (.i .i64), some (.i .u64), some (.i .i64)] 2 := ⟨eqat_struct Try.underlying181 (by kernel_rfl) (FieldsEq.cons (agg := false) (m' := 1) (sh1 := [some (.i .i64)]) (by decide) rfl (show EqTy Try.prog 3 false [some (.i .i64)] 1 from inferInstance) rfl (show TyInfo Try.prog 3 false 1 from inferInstance) rfl (FieldsEq.cons (agg := false) (m' := 1) (sh1 := [some (.i .u64)]) (by decide) rfl (show EqTy Try.prog 35 false [some (.i .u64)] 1 from inferInstance) rfl (show TyInfo Try.prog 35 false 1 from inferInstance) rfl (FieldsEq.cons (agg := false) (m' := 1) (sh1 := [some (.i .i64)]) (by decide) rfl (show EqTy Try.prog 3 false [some (.i .i64)] 1 from inferInstance) rfl (show TyInfo Try.prog 3 false 1 from inferInstance) rfl FieldsEq.nil)))⟩
instance : NoGuard Try.prog 181 := ⟨by kernel_rfl⟩
instance : FnTy Try.prog 3 := ⟨_, Try.func3, by kernel_rfl, rfl⟩
instance : FnTy Try.prog 4 := ⟨_, Try.func4, by kernel_rfl, rfl⟩
instance : FnTy Try.prog 5 := ⟨_, Try.func5, by kernel_rfl, rfl⟩
instance : FnTy Try.prog 6 := ⟨_, Try.func6, by kernel_rfl, rfl⟩
instance : FnTy Try.prog 7 := ⟨_, Try.func7, by kernel_rfl, rfl⟩
instance : FnTy Try.prog 8 := ⟨_, Try.func8, by kernel_rfl, rfl⟩
instance : FnTy Try.prog 9 := ⟨_, Try.func9, by kernel_rfl, rfl⟩
instance : FnTy Try.prog 10 := ⟨_, Try.func10, by kernel_rfl, rfl⟩
instance : FnTy Try.prog 11 := ⟨_, Try.func11, by kernel_rfl, rfl⟩
instance : FnTy Try.prog 12 := ⟨_, Try.func12, by kernel_rfl, rfl⟩
instance : FnTy Try.prog 13 := ⟨_, Try.func13, by kernel_rfl, rfl⟩
instance : FnTy Try.prog 14 := ⟨_, Try.func14, by kernel_rfl, rfl⟩
instance : FnTy Try.prog 15 := ⟨_, Try.func15, by kernel_rfl, rfl⟩
instance : FnTy Try.prog 16 := ⟨_, Try.func16, by kernel_rfl, rfl⟩
instance : FnTy Try.prog 17 := ⟨_, Try.func17, by kernel_rfl, rfl⟩
instance : FnTy Try.prog 18 := ⟨_, Try.func18, by kernel_rfl, rfl⟩
instance : FnTy Try.prog 19 := ⟨_, Try.func19, by kernel_rfl, rfl⟩
instance : FnTy Try.prog 20 := ⟨_, Try.func20, by kernel_rfl, rfl⟩
instance : FnTy Try.prog 21 := ⟨_, Try.func21, by kernel_rfl, rfl⟩
instance : FnTy Try.prog 22 := ⟨_, Try.func22, by kernel_rfl, rfl⟩
instance : FnTy Try.prog 23 := ⟨_, Try.func23, by kernel_rfl, rfl⟩
instance : FnTy Try.prog 24 := ⟨_, Try.func24, by kernel_rfl, rfl⟩
instance : FnTy Try.prog 25 := ⟨_, Try.func25, by kernel_rfl, rfl⟩
instance : FnTy Try.prog 26 := ⟨_, Try.func26, by kernel_rfl, rfl⟩
instance : FnTy Try.prog 27 := ⟨_, Try.func27, by kernel_rfl, rfl⟩
instance : FnTy Try.prog 28 := ⟨_, Try.func28, by kernel_rfl, rfl⟩
instance : FnTy Try.prog 29 := ⟨_, Try.func29, by kernel_rfl, rfl⟩
instance : FnTy Try.prog 30 := ⟨_, Try.func30, by kernel_rfl, rfl⟩
instance : FnTy Try.prog 31 := ⟨_, Try.func31, by kernel_rfl, rfl⟩
instance : FnTy Try.prog 32 := ⟨_, Try.func32, by kernel_rfl, rfl⟩
instance : FnTy Try.prog 33 := ⟨_, Try.func33, by kernel_rfl, rfl⟩
instance : FnTy Try.prog 34 := ⟨_, Try.func34, by kernel_rfl, rfl⟩
instance : FnTy Try.prog 35 := ⟨_, Try.func35, by kernel_rfl, rfl⟩
instance : FnTy Try.prog 36 := ⟨_, Try.func36, by kernel_rfl, rfl⟩
instance : FnTy Try.prog 37 := ⟨_, Try.func37, by kernel_rfl, rfl⟩
instance : FnTy Try.prog 38 := ⟨_, Try.func38, by kernel_rfl, rfl⟩
instance : FnTy Try.prog 39 := ⟨_, Try.func39, by kernel_rfl, rfl⟩
instance : FnTy Try.prog 40 := ⟨_, Try.func40, by kernel_rfl, rfl⟩
instance : FnTy Try.prog 41 := ⟨_, Try.func41, by kernel_rfl, rfl⟩
instance : FnTy Try.prog 42 := ⟨_, Try.func42, by kernel_rfl, rfl⟩
instance : FnTy Try.prog 43 := ⟨_, Try.func43, by kernel_rfl, rfl⟩
instance : FnTy Try.prog 44 := ⟨_, Try.func44, by kernel_rfl, rfl⟩
instance : FnTy Try.prog 45 := ⟨_, Try.func45, by kernel_rfl, rfl⟩
instance : FnTy Try.prog 46 := ⟨_, Try.func46, by kernel_rfl, rfl⟩
instance : FnTy Try.prog 47 := ⟨_, Try.func47, by kernel_rfl, rfl⟩
instance : FnTy Try.prog 48 := ⟨_, Try.func48, by kernel_rfl, rfl⟩
instance : FnTy Try.prog 49 := ⟨_, Try.func49, by kernel_rfl, rfl⟩
instance : FnTy Try.prog 50 := ⟨_, Try.func50, by kernel_rfl, rfl⟩
instance : FnTy Try.prog 51 := ⟨_, Try.func51, by kernel_rfl, rfl⟩
instance : FnTy Try.prog 52 := ⟨_, Try.func52, by kernel_rfl, rfl⟩
instance : FnTy Try.prog 53 := ⟨_, Try.func53, by kernel_rfl, rfl⟩
instance : FnTy Try.prog 54 := ⟨_, Try.func54, by kernel_rfl, rfl⟩
instance : FnTy Try.prog 55 := ⟨_, Try.func55, by kernel_rfl, rfl⟩
instance : FnTy Try.prog 56 := ⟨_, Try.func56, by kernel_rfl, rfl⟩
instance : FnTy Try.prog 57 := ⟨_, Try.func57, by kernel_rfl, rfl⟩
instance : FnTy Try.prog 58 := ⟨_, Try.func58, by kernel_rfl, rfl⟩
instance : FnTy Try.prog 59 := ⟨_, Try.func59, by kernel_rfl, rfl⟩
instance : FnTy Try.prog 60 := ⟨_, Try.func60, by kernel_rfl, rfl⟩
instance : FnTy Try.prog 61 := ⟨_, Try.func61, by kernel_rfl, rfl⟩
instance : FnTy Try.prog 62 := ⟨_, Try.func62, by kernel_rfl, rfl⟩
instance : FnTy Try.prog 63 := ⟨_, Try.func63, by kernel_rfl, rfl⟩
instance : FnTy Try.prog 64 := ⟨_, Try.func64, by kernel_rfl, rfl⟩
instance : FnTy Try.prog 65 := ⟨_, Try.func65, by kernel_rfl, rfl⟩
instance : FnTy Try.prog 66 := ⟨_, Try.func66, by kernel_rfl, rfl⟩
instance : FnTy Try.prog 67 := ⟨_, Try.func67, by kernel_rfl, rfl⟩
instance : FnTy Try.prog 68 := ⟨_, Try.func68, by kernel_rfl, rfl⟩
instance : FnTy Try.prog 69 := ⟨_, Try.func69, by kernel_rfl, rfl⟩
instance : FnTy Try.prog 70 := ⟨_, Try.func70, by kernel_rfl, rfl⟩
instance : FnTy Try.prog 71 := ⟨_, Try.func71, by kernel_rfl, rfl⟩
instance : FnTy Try.prog 72 := ⟨_, Try.func72, by kernel_rfl, rfl⟩
instance : FnTy Try.prog 73 := ⟨_, Try.func73, by kernel_rfl, rfl⟩
instance : FnTy Try.prog 74 := ⟨_, Try.func74, by kernel_rfl, rfl⟩
instance : FnTy Try.prog 75 := ⟨_, Try.func75, by kernel_rfl, rfl⟩
instance : FnTy Try.prog 76 := ⟨_, Try.func76, by kernel_rfl, rfl⟩
instance : FnTy Try.prog 77 := ⟨_, Try.func77, by kernel_rfl, rfl⟩
instance : FnTy Try.prog 78 := ⟨_, Try.func78, by kernel_rfl, rfl⟩
instance : FnTy Try.prog 79 := ⟨_, Try.func79, by kernel_rfl, rfl⟩
instance : FnTy Try.prog 80 := ⟨_, Try.func80, by kernel_rfl, rfl⟩
instance : FnTy Try.prog 81 := ⟨_, Try.func81, by kernel_rfl, rfl⟩
instance : FnTy Try.prog 82 := ⟨_, Try.func82, by kernel_rfl, rfl⟩
instance : FnTy Try.prog 83 := ⟨_, Try.func83, by kernel_rfl, rfl⟩
instance : FnTy Try.prog 84 := ⟨_, Try.func84, by kernel_rfl, rfl⟩
instance : FnTy Try.prog 85 := ⟨_, Try.func85, by kernel_rfl, rfl⟩
instance : FnTy Try.prog 86 := ⟨_, Try.func86, by kernel_rfl, rfl⟩
instance : FnTy Try.prog 87 := ⟨_, Try.func87, by kernel_rfl, rfl⟩
instance : FnTy Try.prog 88 := ⟨_, Try.func88, by kernel_rfl, rfl⟩
instance : FnTy Try.prog 89 := ⟨_, Try.func89, by kernel_rfl, rfl⟩
instance : FnTy Try.prog 90 := ⟨_, Try.func90, by kernel_rfl, rfl⟩
instance : OvTy Try.prog 91 125 := ⟨_, 4, Try.func91, by kernel_rfl, by kernel_rfl, by kernel_rfl, by kernel_rfl⟩
instance : FnTy Try.prog 92 := ⟨_, Try.func92, by kernel_rfl, rfl⟩
instance : FnTy Try.prog 93 := ⟨_, Try.func93, by kernel_rfl, rfl⟩
instance : FnTy Try.prog 94 := ⟨_, Try.func94, by kernel_rfl, rfl⟩
instance : FnTy Try.prog 95 := ⟨_, Try.func95, by kernel_rfl, rfl⟩
instance : Mixed Try.prog := ⟨by kernel_rfl⟩
end Go.Proofs.YtdgpjkddpbiieaaTy
/- DERIVED. Contracts of layer 16's small functions. No condition. -/
namespace Go.Proofs.Ytdgpjkddpbiieaa
open Go.RowKit Go.Sx Go.Proofs.YtdgpjkddpbiieaaTy
set_option linter.unusedVariables false
set_option linter.unusedSimpArgs false
set_option maxRecDepth 100000
attribute [local irreducible] Oper.wp Code.wp wpList wpAnyH Calls bodyPost Exit.then Exit.inBlock Code.rounds
set_option maxHeartbeats 1000000
def isVlan (v : Int) : Bool := decide (1 ≤ v) && decide (v ≤ 4094)
theorem vlan_s (v : Int) (w0 : World) : Calls Try.prog 44 #[.int .i64 v] w0 fun e w' => ∃ r, e = .returned r ∧ r = .bool (isVlan v) ∧ Sep w0 w' [] := by
  refine enter (args := [.int .i64 v]) 9 Try.func44 rfl rfl rfl ?_
  intro a hE hS
  repeat' (first | refine wl_nil ?_ | refine then_n ?_ | refine c_block ?_ | refine c_skip ?_ | refine c_exit ?_ | refine c_ret ?_ | refine then_r ?_ | refine then_e ?_ | refine inb_n ?_ | refine inb_r ?_ | refine inb_e ?_ | refine inb_o rfl ?_ | refine c_cond_t hE rfl ?_ | refine c_cond_f hE rfl ?_ | refine c_rnd ?_ | (refine c_regI 0 ?_; all_goals (refine wl hE rfl ?_; refine qa hE ?_; clear hE a; intro a hE)) | (refine c_regI 1 ?_; all_goals (refine wl hE rfl ?_; refine qm hE ?_; clear hE a; intro a hE); all_goals (refine wl hE rfl ?_; (first | refine qb hE ?_ | refine qb2 hE ?_ | refine qbE hE ?_ | refine qbN hE ?_ | refine qpn hE ?_); clear hE a; intro a hE); all_goals (refine wl hE rfl ?_; refine qm hE ?_; clear hE a; intro a hE); all_goals (first | (refine wl hE rfl ?_; refine qm hE ?_; clear hE a; intro a hE) | (refine wl_skip hE rfl rfl rfl ?_; clear hE a; intro a hE) | ((refine wl_splitg hE rfl rfl ?_ ?_) <;> (clear hE; intro hb hE; (first | replace hb := of_decide_eq_true hb | replace hb := of_decide_eq_false hb | (simp only [Bool.not_eq_true', Bool.not_eq_false', decide_eq_true_eq, decide_eq_false_iff_not] at hb) | skip); try (exfalso; first | omega | exact absurd trivial hb | exact absurd rfl hb | (simp only [beq_self_eq_true, bne_self_eq_false, reduceCtorEq] at hb; done))) <;> (first | (refine wl hE rfl ?_; refine qm hE ?_; clear hE a; intro a hE) | (refine wl_skip hE rfl rfl rfl ?_; clear hE a; intro a hE)))); all_goals (first | (refine wl hE rfl ?_; (first | refine qb hE ?_ | refine qb2 hE ?_ | refine qbE hE ?_ | refine qbN hE ?_ | refine qpn hE ?_); clear hE a; intro a hE) | (refine wl_skip hE rfl rfl rfl ?_; clear hE a; intro a hE)); all_goals (refine wl hE rfl ?_; (first | refine qpt hE ?_ | refine qpf hE ?_); clear hE a; intro a hE); all_goals (refine wl hE rfl ?_; refine qa hE ?_; clear hE a; intro a hE)) | refine c_seq ?_ | ((refine c_cond hE rfl ?_ ?_) <;> (intro hb; (first | replace hb := of_decide_eq_true hb | replace hb := of_decide_eq_false hb | (simp only [Bool.not_eq_true', Bool.not_eq_false', decide_eq_true_eq, decide_eq_false_iff_not] at hb) | skip); try (exfalso; first | omega | exact absurd trivial hb | exact absurd rfl hb | (simp only [beq_self_eq_true, bne_self_eq_false, reduceCtorEq] at hb; done)))))
  all_goals (refine p_ret hE rfl rfl ⟨_, rfl, ?_, hS⟩; simp [isVlan, *])

theorem take_succ_ne {xs : List Int} {v : Int} {i : Int} (h0 : 0 ≤ i) (h1 : i < (xs.length : Int)) (hx : ∀ y ∈ xs.take i.toNat, y ≠ v) (hne : v ≠ xs.getD i.toNat 0) : ∀ y ∈ xs.take (i + 1).toNat, y ≠ v := by
  intro y hy
  have e : (i + 1).toNat = i.toNat + 1 := by omega
  have hlt : i.toNat < xs.length := by omega
  rw [e, List.take_succ_eq_append_getElem hlt] at hy
  rcases List.mem_append.1 hy with h | h
  · exact hx y h
  · simp at h; subst h; intro h; exact hne (by simp [hlt, h])
theorem getD_mem {xs : List Int} {i : Int} (h0 : 0 ≤ i) (h1 : i < (xs.length : Int)) : xs.getD i.toNat 0 ∈ xs := by
  have hlt : i.toNat < xs.length := by omega
  simp [hlt]
theorem not_mem_of_take {xs : List Int} {v i : Int} (h : ¬ i < (xs.length : Int)) (hx : ∀ y ∈ xs.take i.toNat, y ≠ v) : v ∉ xs := fun hv => by
  rw [List.take_of_length_le (by omega)] at hx
  exact hx v hv rfl
theorem index_s (A : Option Addr) (c : Nat) (xs : List Int) (v : Int) (w0 : World) (hR : Rd w0 A (ints xs)) (hl : xs.length ≤ 9223372036854775807) :
    Calls Try.prog 65 #[.slice A xs.length c, .int .i64 v] w0 fun e w' => ∃ r, e = .returned r ∧ (∃ k : Int, r = .int .i64 k ∧ (0 ≤ k ↔ v ∈ xs)) ∧ Sep w0 w' [] := by
  have hA : (0 : Int) < xs.length → A = some (adr A) := fun h => hR.some (by rw [ints_length]; omega)
  have hT := hR.at_
  refine enter (args := [.slice A xs.length c, .int .i64 v]) 19 Try.func65 rfl rfl rfl ?_
  intro a hE hS
  repeat' (first | refine wl_nil ?_ | refine then_n ?_ | refine c_block ?_ | refine c_skip ?_ | refine c_exit ?_ | refine c_ret ?_ | refine then_r ?_ | refine then_e ?_ | refine inb_n ?_ | refine inb_r ?_ | refine inb_e ?_ | refine inb_o rfl ?_ | refine c_cond_t hE rfl ?_ | refine c_cond_f hE rfl ?_ | refine c_rnd ?_ | (refine c_regI 0 ?_; all_goals (refine wl hE rfl ?_; refine qa hE ?_; clear hE a; intro a hE)) | (refine c_regI 1 ?_; all_goals (refine wl hE rfl ?_; refine qm hE ?_; clear hE a; intro a hE); all_goals (refine wl hE rfl ?_; (first | refine qn1 hE ?_ | refine qns hE ?_); clear hE a; intro a hE); all_goals (refine wl hE rfl ?_; refine qm hE ?_; clear hE a; intro a hE)) | refine c_seq ?_ | ((refine c_cond hE rfl ?_ ?_) <;> (intro hb; (first | replace hb := of_decide_eq_true hb | replace hb := of_decide_eq_false hb | (simp only [Bool.not_eq_true', Bool.not_eq_false', decide_eq_true_eq, decide_eq_false_iff_not] at hb) | skip); try (exfalso; first | omega | exact absurd trivial hb | exact absurd rfl hb | (simp only [beq_self_eq_true, bne_self_eq_false, reduceCtorEq] at hb; done)))))
  refine c_loopN (fun m a w => ∃ i : Int, 0 ≤ i ∧ i ≤ xs.length ∧ m = (xs.length - i).toNat ∧ (∀ y ∈ xs.take i.toNat, y ≠ v) ∧ Env a 19 [(0, .slice A xs.length c), (1, .int .i64 v), (6, .slice A xs.length c), (7, .int .i64 xs.length), (8, .int .i64 i)] ∧ Sep w0 w []) _ ⟨0, by omega, by omega, rfl, by simp, hE.cut ⟨rfl, rfl, rfl, rfl, rfl, trivial⟩, hS⟩ ?_
  clear hE hS
  clear a
  rintro m a w ⟨i, h0, h1, rfl, hx, hE, hS⟩
  repeat' (first | refine wl_nil ?_ | refine then_n ?_ | refine c_block ?_ | refine c_skip ?_ | refine c_exit ?_ | refine c_ret ?_ | refine then_r ?_ | refine then_e ?_ | refine inb_n ?_ | refine inb_r ?_ | refine inb_e ?_ | refine inb_o rfl ?_ | refine c_cond_t hE rfl ?_ | refine c_cond_f hE rfl ?_ | refine c_rnd ?_ | (refine c_regI 2 ?_; all_goals (refine wl hE rfl ?_; (first | refine qb hE ?_ | refine qb2 hE ?_ | refine qbE hE ?_ | refine qbN hE ?_ | refine qpn hE ?_); clear hE a; intro a hE)) | (refine c_regI 3 ?_; all_goals (refine wl hE rfl ?_; refine qm hE ?_; clear hE a; intro a hE); all_goals (refine wl hE rfl ?_; refine qa hE ?_; clear hE a; intro a hE)) | (refine c_regI 4 ?_; all_goals (refine wl hE rfl ?_; refine qm hE ?_; clear hE a; intro a hE); all_goals (refine wl hE rfl ?_; refine qm hE ?_; clear hE a; intro a hE); all_goals (refine wl hE rfl ?_; refine qm hE ?_; clear hE a; intro a hE); all_goals (refine wl hE rfl ?_; (first | refine qi hE hA ?_ | refine qi hE (fun _ => rfl) ?_ | refine qia hE ?_); clear hE a; intro a hE); all_goals (refine wl hE rfl ?_; (first | refine q0i hE hS hT ?_ | refine ql hE hS ?_ | refine qL hE hS ?_ | refine qlr hE hS ?_); clear hE a; intro a hE); all_goals (refine wl hE rfl ?_; (first | refine qb hE ?_ | refine qb2 hE ?_ | refine qbE hE ?_ | refine qbN hE ?_ | refine qpn hE ?_); clear hE a; intro a hE)) | (refine c_regI 5 ?_; all_goals (refine wl hE rfl ?_; refine qm hE ?_; clear hE a; intro a hE); all_goals (refine wl hE rfl ?_; refine qa hE ?_; clear hE a; intro a hE)) | (refine c_regI 6 ?_; all_goals (refine wl hE rfl ?_; (first | refine qb hE ?_ | refine qb2 hE ?_ | refine qbE hE ?_ | refine qbN hE ?_ | refine qpn hE ?_); clear hE a; intro a hE); all_goals (refine wl hE rfl ?_; refine qm hE ?_; clear hE a; intro a hE)) | (refine c_regI 7 ?_; all_goals (refine wl hE rfl ?_; refine qa hE ?_; clear hE a; intro a hE)) | refine c_seq ?_ | ((refine c_cond hE rfl ?_ ?_) <;> (intro hb; (first | replace hb := of_decide_eq_true hb | replace hb := of_decide_eq_false hb | (simp only [Bool.not_eq_true', Bool.not_eq_false', decide_eq_true_eq, decide_eq_false_iff_not] at hb) | skip); try (exfalso; first | omega | exact absurd trivial hb | exact absurd rfl hb | (simp only [beq_self_eq_true, bne_self_eq_false, reduceCtorEq] at hb; done)))))
  · refine p_ret hE rfl rfl ⟨_, rfl, ⟨_, rfl, ?_⟩, hS⟩
    exact ⟨fun _ => hb ▸ getD_mem h0 (by assumption), fun _ => h0⟩
  · exact ⟨_, by omega, i + 1, by omega, by omega, rfl, take_succ_ne h0 (by assumption) hx hb, hE.cut ⟨rfl, rfl, rfl, rfl, rfl, trivial⟩, hS⟩
  · refine p_ret hE rfl rfl ⟨_, rfl, ⟨_, rfl, ?_⟩, hS⟩
    exact ⟨fun h => absurd h (by decide), fun h => absurd h (not_mem_of_take hb hx)⟩
theorem contains_s (A : Option Addr) (c : Nat) (xs : List Int) (v : Int) (w0 : World) (hR : Rd w0 A (ints xs)) (hl : xs.length ≤ 9223372036854775807) :
    Calls Try.prog 45 #[.slice A xs.length c, .int .i64 v] w0 fun e w' => ∃ r, e = .returned r ∧ r = .bool (decide (v ∈ xs)) ∧ Sep w0 w' [] := by
  refine enter (args := [.slice A xs.length c, .int .i64 v]) 9 Try.func45 rfl rfl rfl ?_
  intro a hE hS
  repeat' (first | refine wl_nil ?_ | refine then_n ?_ | refine c_block ?_ | refine c_skip ?_ | refine c_exit ?_ | refine c_ret ?_ | refine then_r ?_ | refine then_e ?_ | refine inb_n ?_ | refine inb_r ?_ | refine inb_e ?_ | refine inb_o rfl ?_ | refine c_cond_t hE rfl ?_ | refine c_cond_f hE rfl ?_ | refine c_rnd ?_ | (refine c_regI 0 ?_; all_goals (refine wl hE rfl ?_; refine qa hE ?_; clear hE a; intro a hE)) | (refine c_regI 1 ?_; all_goals (refine wl hE rfl ?_; refine qm hE ?_; clear hE a; intro a hE); all_goals (refine wl hE rfl ?_; refine qm hE ?_; clear hE a; intro a hE); all_goals (refine wl hE rfl ?_; refine is_call 65 rfl ?_; refine qc hE (index_s A c xs v _ (hR.move hS) hl) ?_; clear hE; clear a; rintro r a w ⟨⟨k, rfl, hk⟩, hS1⟩ hE; replace hS := hS.then hS1; clear hS1); all_goals (refine wl hE rfl ?_; (first | refine qb hE ?_ | refine qb2 hE ?_ | refine qbE hE ?_ | refine qbN hE ?_ | refine qpn hE ?_); clear hE a; intro a hE); all_goals (refine wl hE rfl ?_; refine qa hE ?_; clear hE a; intro a hE)) | refine c_seq ?_ | ((refine c_cond hE rfl ?_ ?_) <;> (intro hb; (first | replace hb := of_decide_eq_true hb | replace hb := of_decide_eq_false hb | (simp only [Bool.not_eq_true', Bool.not_eq_false', decide_eq_true_eq, decide_eq_false_iff_not] at hb) | skip); try (exfalso; first | omega | exact absurd trivial hb | exact absurd rfl hb | (simp only [beq_self_eq_true, bne_self_eq_false, reduceCtorEq] at hb; done)))))
  refine p_ret hE rfl rfl ⟨_, rfl, ?_, hS⟩
  rw [decide_eq_decide.2 hk]
theorem among_s (A : Option Addr) (c : Nat) (xs : List Int) (v : Int) (w0 : World) (hR : Rd w0 A (ints xs)) (hl : xs.length ≤ 9223372036854775807) :
    Calls Try.prog 42 #[.slice A xs.length c, .int .i64 v] w0 fun e w' => ∃ r, e = .returned r ∧ r = .bool (decide (v ∈ xs)) ∧ Sep w0 w' [] := by
  have hA : (0 : Int) < xs.length → A = some (adr A) := fun h => hR.some (by rw [ints_length]; omega)
  have hT := hR.at_
  refine enter (args := [.slice A xs.length c, .int .i64 v]) 18 Try.func42 rfl rfl rfl ?_
  intro a hE hS
  repeat' (first | refine wl_nil ?_ | refine then_n ?_ | refine c_block ?_ | refine c_skip ?_ | refine c_exit ?_ | refine c_ret ?_ | refine then_r ?_ | refine then_e ?_ | refine inb_n ?_ | refine inb_r ?_ | refine inb_e ?_ | refine inb_o rfl ?_ | refine c_cond_t hE rfl ?_ | refine c_cond_f hE rfl ?_ | refine c_rnd ?_ | (refine c_regI 0 ?_; all_goals (refine wl hE rfl ?_; refine qa hE ?_; clear hE a; intro a hE)) | (refine c_regI 1 ?_; all_goals (refine wl hE rfl ?_; refine qa hE ?_; clear hE a; intro a hE)) | refine c_seq ?_ | ((refine c_cond hE rfl ?_ ?_) <;> (intro hb; (first | replace hb := of_decide_eq_true hb | replace hb := of_decide_eq_false hb | (simp only [Bool.not_eq_true', Bool.not_eq_false', decide_eq_true_eq, decide_eq_false_iff_not] at hb) | skip); try (exfalso; first | omega | exact absurd trivial hb | exact absurd rfl hb | (simp only [beq_self_eq_true, bne_self_eq_false, reduceCtorEq] at hb; done)))))
  refine c_loopN (fun m a w => ∃ i : Int, 0 ≤ i ∧ i ≤ xs.length ∧ m = (xs.length - i).toNat ∧ (∀ y ∈ xs.take i.toNat, y ≠ v) ∧ Env a 18 [(0, .slice A xs.length c), (1, .int .i64 v), (5, .int .i64 i)] ∧ Sep w0 w []) _ ⟨0, by omega, by omega, rfl, by simp, hE.cut ⟨rfl, rfl, rfl, trivial⟩, hS⟩ ?_
  clear hE hS
  clear a
  rintro m a w ⟨i, h0, h1, rfl, hx, hE, hS⟩
  repeat' (first | refine wl_nil ?_ | refine then_n ?_ | refine c_block ?_ | refine c_skip ?_ | refine c_exit ?_ | refine c_ret ?_ | refine then_r ?_ | refine then_e ?_ | refine inb_n ?_ | refine inb_r ?_ | refine inb_e ?_ | refine inb_o rfl ?_ | refine c_cond_t hE rfl ?_ | refine c_cond_f hE rfl ?_ | refine c_rnd ?_ | (refine c_regI 2 ?_; all_goals (refine wl hE rfl ?_; refine qm hE ?_; clear hE a; intro a hE); all_goals (refine wl hE rfl ?_; refine qm hE ?_; clear hE a; intro a hE); all_goals (refine wl hE rfl ?_; (first | refine qn1 hE ?_ | refine qns hE ?_); clear hE a; intro a hE); all_goals (refine wl hE rfl ?_; (first | refine qb hE ?_ | refine qb2 hE ?_ | refine qbE hE ?_ | refine qbN hE ?_ | refine qpn hE ?_); clear hE a; intro a hE)) | (refine c_regI 4 ?_; all_goals (refine wl hE rfl ?_; refine qm hE ?_; clear hE a; intro a hE); all_goals (refine wl hE rfl ?_; refine qm hE ?_; clear hE a; intro a hE); all_goals (refine wl hE rfl ?_; (first | refine qi hE hA ?_ | refine qi hE (fun _ => rfl) ?_ | refine qia hE ?_); clear hE a; intro a hE); all_goals (refine wl hE rfl ?_; (first | refine q0i hE hS hT ?_ | refine ql hE hS ?_ | refine qL hE hS ?_ | refine qlr hE hS ?_); clear hE a; intro a hE); all_goals (refine wl hE rfl ?_; refine qm hE ?_; clear hE a; intro a hE); all_goals (refine wl hE rfl ?_; (first | refine qb hE ?_ | refine qb2 hE ?_ | refine qbE hE ?_ | refine qbN hE ?_ | refine qpn hE ?_); clear hE a; intro a hE)) | (refine c_regI 5 ?_; all_goals (refine wl hE rfl ?_; refine qa hE ?_; clear hE a; intro a hE)) | (refine c_regI 3 ?_; all_goals (refine wl hE rfl ?_; refine qm hE ?_; clear hE a; intro a hE); all_goals (refine wl hE rfl ?_; (first | refine qb hE ?_ | refine qb2 hE ?_ | refine qbE hE ?_ | refine qbN hE ?_ | refine qpn hE ?_); clear hE a; intro a hE); all_goals (refine wl hE rfl ?_; refine qa hE ?_; clear hE a; intro a hE)) | (refine c_regI 6 ?_; all_goals (refine wl hE rfl ?_; refine qa hE ?_; clear hE a; intro a hE)) | refine c_seq ?_ | ((refine c_cond hE rfl ?_ ?_) <;> (intro hb; (first | replace hb := of_decide_eq_true hb | replace hb := of_decide_eq_false hb | (simp only [Bool.not_eq_true', Bool.not_eq_false', decide_eq_true_eq, decide_eq_false_iff_not] at hb) | skip); try (exfalso; first | omega | exact absurd trivial hb | exact absurd rfl hb | (simp only [beq_self_eq_true, bne_self_eq_false, reduceCtorEq] at hb; done)))))
  · refine p_ret hE rfl rfl ⟨_, rfl, ?_, hS⟩
    rw [decide_eq_true (hb ▸ getD_mem h0 (by assumption))]
  · exact ⟨_, by omega, i + 1, by omega, by omega, rfl, take_succ_ne h0 (by assumption) hx (Ne.symm hb), hE.cut ⟨rfl, rfl, rfl, trivial⟩, hS⟩
  · refine p_ret hE rfl rfl ⟨_, rfl, ?_, hS⟩
    rw [decide_eq_false (not_mem_of_take hb hx)]
end Go.Proofs.Ytdgpjkddpbiieaa
/- DERIVED. Contracts of layer 16: what a port has, frames that come in and go out. No condition. -/
namespace Go.Proofs.Ytdgpjkddpbiieaa
open Go.RowKit Go.Sx Go.Proofs.YtdgpjkddpbiieaaTy
set_option linter.unusedVariables false
set_option linter.unusedSimpArgs false
set_option maxRecDepth 100000
attribute [local irreducible] Oper.wp Code.wp wpList wpAnyH Calls bodyPost Exit.then Exit.inBlock Code.rounds
set_option maxHeartbeats 1000000
def hasP (tr : Bool) (pv : Int) (xs : List Int) (vid : Int) : Bool := if tr = true then decide (vid ∈ xs) else decide (vid = pv)
theorem has_s (tr : Bool) (pv : Int) (A : Option Addr) (c : Nat) (xs : List Int) (vid : Int) (w0 : World) (hR : Rd w0 A (ints xs)) (hl : xs.length ≤ 9223372036854775807) : Calls Try.prog 47 #[.agg #[.bool tr, .int .i64 pv, .slice A xs.length c], .int .i64 vid] w0 fun e w' => ∃ r, e = .returned r ∧ r = .bool (hasP tr pv xs vid) ∧ Sep w0 w' [] := by
  refine enter (args := [.agg #[.bool tr, .int .i64 pv, .slice A xs.length c], .int .i64 vid]) 16 Try.func47 rfl rfl rfl ?_
  intro a hE hS
  repeat' (first | refine wl_nil ?_ | refine then_n ?_ | refine c_block ?_ | refine c_skip ?_ | refine c_exit ?_ | refine c_ret ?_ | refine then_r ?_ | refine then_e ?_ | refine inb_n ?_ | refine inb_r ?_ | refine inb_e ?_ | refine inb_o rfl ?_ | refine c_cond_t hE rfl ?_ | refine c_cond_f hE rfl ?_ | refine c_rnd ?_ | (refine c_regI 0 ?_; all_goals (refine wl hE rfl ?_; (first | refine qbx hE hS ?_); clear hE hS; clear a; intro g a w hE hS); all_goals (refine wl hE rfl ?_; refine qa hE ?_; clear hE a; intro a hE)) | (refine c_regI 1 ?_; all_goals (refine wl hE rfl ?_; (first | refine qf hE ?_ | refine qFF hE ?_ | refine qF hE ?_); clear hE a; intro a hE); all_goals (refine wl hE rfl ?_; (first | refine ql hE hS ?_ | refine qL hE hS ?_ | refine qlr hE hS ?_); clear hE a; intro a hE); all_goals (refine wl hE rfl ?_; (first | refine qu hE ?_ | refine qng hE ?_); clear hE a; intro a hE)) | (refine c_regI 2 ?_; all_goals (refine wl hE rfl ?_; refine qm hE ?_; clear hE a; intro a hE); all_goals (refine wl hE rfl ?_; (first | refine qf hE ?_ | refine qFF hE ?_ | refine qF hE ?_); clear hE a; intro a hE); all_goals (refine wl hE rfl ?_; (first | refine ql hE hS ?_ | refine qL hE hS ?_ | refine qlr hE hS ?_); clear hE a; intro a hE); all_goals (refine wl hE rfl ?_; (first | refine qb hE ?_ | refine qb2 hE ?_ | refine qbE hE ?_ | refine qbN hE ?_ | refine qpn hE ?_); clear hE a; intro a hE); all_goals (refine wl hE rfl ?_; refine qa hE ?_; clear hE a; intro a hE)) | (refine c_regI 3 ?_; all_goals (refine wl hE rfl ?_; (first | refine qf hE ?_ | refine qFF hE ?_ | refine qF hE ?_); clear hE a; intro a hE); all_goals (refine wl hE rfl ?_; (first | refine ql hE hS ?_ | refine qL hE hS ?_ | refine qlr hE hS ?_); clear hE a; intro a hE); all_goals (refine wl hE rfl ?_; refine qm hE ?_; clear hE a; intro a hE); all_goals (refine wl hE rfl ?_; refine is_call 45 rfl ?_; refine qc hE (contains_s A c xs _ _ (hR.move hS) hl) ?_; clear hE; clear a; rintro _ a w ⟨rfl, hS1⟩ hE; replace hS := hS.then hS1; clear hS1); all_goals (refine wl hE rfl ?_; refine qa hE ?_; clear hE a; intro a hE)) | refine c_seq ?_ | ((refine c_cond hE rfl ?_ ?_) <;> (intro hb; (first | replace hb := of_decide_eq_true hb | replace hb := of_decide_eq_false hb | (simp only [Bool.not_eq_true', Bool.not_eq_false', decide_eq_true_eq, decide_eq_false_iff_not] at hb) | skip); try (exfalso; first | omega | exact absurd trivial hb | exact absurd rfl hb | (simp only [beq_self_eq_true, bne_self_eq_false, reduceCtorEq] at hb; done)))))
  all_goals (refine p_ret hE rfl rfl ⟨_, rfl, ?_, hS.clean⟩; simp_all [hasP])
theorem refhas_s (tr : Bool) (pv : Int) (A : Option Addr) (c : Nat) (xs : List Int) (vid : Int) (w0 : World) (hR : Rd w0 A (ints xs)) (hl : xs.length ≤ 9223372036854775807) : Calls Try.prog 37 #[.agg #[.bool tr, .int .i64 pv, .slice A xs.length c], .int .i64 vid] w0 fun e w' => ∃ r, e = .returned r ∧ r = .bool (hasP tr pv xs vid) ∧ Sep w0 w' [] := by
  refine enter (args := [.agg #[.bool tr, .int .i64 pv, .slice A xs.length c], .int .i64 vid]) 24 Try.func37 rfl rfl rfl ?_
  intro a hE hS
  repeat' (first | refine wl_nil ?_ | refine then_n ?_ | refine c_block ?_ | refine c_skip ?_ | refine c_exit ?_ | refine c_ret ?_ | refine then_r ?_ | refine then_e ?_ | refine inb_n ?_ | refine inb_r ?_ | refine inb_e ?_ | refine inb_o rfl ?_ | refine c_cond_t hE rfl ?_ | refine c_cond_f hE rfl ?_ | refine c_rnd ?_ | (refine c_regI 0 ?_; all_goals (refine wl hE rfl ?_; (first | refine qbx hE hS ?_); clear hE hS; clear a; intro g a w hE hS); all_goals (refine wl hE rfl ?_; refine qa hE ?_; clear hE a; intro a hE)) | (refine c_regI 1 ?_; all_goals (refine wl hE rfl ?_; (first | refine qf hE ?_ | refine qFF hE ?_ | refine qF hE ?_); clear hE a; intro a hE); all_goals (refine wl hE rfl ?_; (first | refine ql hE hS ?_ | refine qL hE hS ?_ | refine qlr hE hS ?_); clear hE a; intro a hE); all_goals (refine wl hE rfl ?_; (first | refine qu hE ?_ | refine qng hE ?_); clear hE a; intro a hE); all_goals (refine wl hE rfl ?_; refine qm hE ?_; clear hE a; intro a hE); all_goals (first | (refine wl hE rfl ?_; refine qm hE ?_; clear hE a; intro a hE) | (refine wl_skip hE rfl rfl rfl ?_; clear hE a; intro a hE) | ((refine wl_splitg hE rfl rfl ?_ ?_) <;> (clear hE; intro hb hE; (first | replace hb := of_decide_eq_true hb | replace hb := of_decide_eq_false hb | (simp only [Bool.not_eq_true', Bool.not_eq_false', decide_eq_true_eq, decide_eq_false_iff_not] at hb) | skip); try (exfalso; first | omega | exact absurd trivial hb | exact absurd rfl hb | (simp only [beq_self_eq_true, bne_self_eq_false, reduceCtorEq] at hb; done))) <;> (first | (refine wl hE rfl ?_; refine qm hE ?_; clear hE a; intro a hE) | (refine wl_skip hE rfl rfl rfl ?_; clear hE a; intro a hE)))); all_goals (first | (refine wl hE rfl ?_; (first | refine qf hE ?_ | refine qFF hE ?_ | refine qF hE ?_); clear hE a; intro a hE) | (refine wl_skip hE rfl rfl rfl ?_; clear hE a; intro a hE)); all_goals (first | (refine wl hE rfl ?_; (first | refine ql hE hS ?_ | refine qL hE hS ?_ | refine qlr hE hS ?_); clear hE a; intro a hE) | (refine wl_skip hE rfl rfl rfl ?_; clear hE a; intro a hE)); all_goals (first | (refine wl hE rfl ?_; (first | refine qb hE ?_ | refine qb2 hE ?_ | refine qbE hE ?_ | refine qbN hE ?_ | refine qpn hE ?_); clear hE a; intro a hE) | (refine wl_skip hE rfl rfl rfl ?_; clear hE a; intro a hE)); all_goals (refine wl hE rfl ?_; (first | refine qpt hE ?_ | refine qpf hE ?_); clear hE a; intro a hE); all_goals (refine wl hE rfl ?_; refine qm hE ?_; clear hE a; intro a hE); all_goals (first | (refine wl hE rfl ?_; (first | refine qf hE ?_ | refine qFF hE ?_ | refine qF hE ?_); clear hE a; intro a hE) | (refine wl_skip hE rfl rfl rfl ?_; clear hE a; intro a hE) | ((refine wl_splitg hE rfl rfl ?_ ?_) <;> (clear hE; intro hb hE; (first | replace hb := of_decide_eq_true hb | replace hb := of_decide_eq_false hb | (simp only [Bool.not_eq_true', Bool.not_eq_false', decide_eq_true_eq, decide_eq_false_iff_not] at hb) | skip); try (exfalso; first | omega | exact absurd trivial hb | exact absurd rfl hb | (simp only [beq_self_eq_true, bne_self_eq_false, reduceCtorEq] at hb; done))) <;> (first | (refine wl hE rfl ?_; (first | refine qf hE ?_ | refine qFF hE ?_ | refine qF hE ?_); clear hE a; intro a hE) | (refine wl_skip hE rfl rfl rfl ?_; clear hE a; intro a hE)))); all_goals (first | (refine wl hE rfl ?_; (first | refine ql hE hS ?_ | refine qL hE hS ?_ | refine qlr hE hS ?_); clear hE a; intro a hE) | (refine wl_skip hE rfl rfl rfl ?_; clear hE a; intro a hE)); all_goals (first | (refine wl hE rfl ?_; refine qm hE ?_; clear hE a; intro a hE) | (refine wl_skip hE rfl rfl rfl ?_; clear hE a; intro a hE)); all_goals (first | (refine wl hE rfl ?_; (first | refine qf hE ?_ | refine qFF hE ?_ | refine qF hE ?_); clear hE a; intro a hE) | (refine wl_skip hE rfl rfl rfl ?_; clear hE a; intro a hE) | ((refine wl_splitg hE rfl rfl ?_ ?_) <;> (clear hE; intro hb hE; (first | replace hb := of_decide_eq_true hb | replace hb := of_decide_eq_false hb | (simp only [Bool.not_eq_true', Bool.not_eq_false', decide_eq_true_eq, decide_eq_false_iff_not] at hb) | skip); try (exfalso; first | omega | exact absurd trivial hb | exact absurd rfl hb | (simp only [beq_self_eq_true, bne_self_eq_false, reduceCtorEq] at hb; done))) <;> (first | (refine wl hE rfl ?_; (first | refine qf hE ?_ | refine qFF hE ?_ | refine qF hE ?_); clear hE a; intro a hE) | (refine wl_skip hE rfl rfl rfl ?_; clear hE a; intro a hE)))); all_goals (first | (refine wl hE rfl ?_; (first | refine ql hE hS ?_ | refine qL hE hS ?_ | refine qlr hE hS ?_); clear hE a; intro a hE) | (refine wl_skip hE rfl rfl rfl ?_; clear hE a; intro a hE)); all_goals (first | (refine wl hE rfl ?_; refine qm hE ?_; clear hE a; intro a hE) | (refine wl_skip hE rfl rfl rfl ?_; clear hE a; intro a hE)); all_goals (first | (refine wl hE rfl ?_; refine is_call 42 rfl ?_; refine qc hE (among_s A c xs _ _ (hR.move hS) hl) ?_; clear hE; clear a; rintro _ a w ⟨rfl, hS1⟩ hE; replace hS := hS.then hS1; clear hS1) | (refine wl_skip hE rfl rfl rfl ?_; clear hE a; intro a hE)); all_goals (first | (refine wl hE rfl ?_; (first | refine qpt hE ?_ | refine qpf hE ?_); clear hE a; intro a hE) | (refine wl_skip hE rfl rfl rfl ?_; clear hE a; intro a hE)); all_goals (refine wl hE rfl ?_; (first | refine qpt hE ?_ | refine qpf hE ?_); clear hE a; intro a hE); all_goals (refine wl hE rfl ?_; refine qa hE ?_; clear hE a; intro a hE)) | refine c_seq ?_ | ((refine c_cond hE rfl ?_ ?_) <;> (intro hb; (first | replace hb := of_decide_eq_true hb | replace hb := of_decide_eq_false hb | (simp only [Bool.not_eq_true', Bool.not_eq_false', decide_eq_true_eq, decide_eq_false_iff_not] at hb) | skip); try (exfalso; first | omega | exact absurd trivial hb | exact absurd rfl hb | (simp only [beq_self_eq_true, bne_self_eq_false, reduceCtorEq] at hb; done)))))
  all_goals (refine p_ret hE rfl rfl ⟨_, rfl, ?_, hS.clean⟩; simp_all [hasP])
theorem bare_s (d s : Int) (h : Bool) (p : Int) (dei : Bool) (v t : Int) (b : ByteArray) (w0 : World) : Calls Try.prog 48 #[.agg #[.int .u64 d, .int .u64 s, .bool h, .int .i64 p, .bool dei, .int .i64 v, .int .i64 t, .string b]] w0 fun e w' => ∃ r, e = .returned r ∧ r = .agg #[.int .u64 d, .int .u64 s, .bool false, .int .i64 0, .bool false, .int .i64 0, .int .i64 t, .string b] ∧ Sep w0 w' [] := by
  refine enter (args := [.agg #[.int .u64 d, .int .u64 s, .bool h, .int .i64 p, .bool dei, .int .i64 v, .int .i64 t, .string b]]) 6 Try.func48 rfl rfl rfl ?_
  intro a hE hS
  repeat' (first | refine wl_nil ?_ | refine then_n ?_ | refine c_block ?_ | refine c_skip ?_ | refine c_exit ?_ | refine c_ret ?_ | refine then_r ?_ | refine then_e ?_ | refine inb_n ?_ | refine inb_r ?_ | refine inb_e ?_ | refine inb_o rfl ?_ | refine c_cond_t hE rfl ?_ | refine c_cond_f hE rfl ?_ | refine c_rnd ?_ | (refine c_regI 0 ?_; all_goals (refine wl hE rfl ?_; (first | refine qbx hE hS ?_); clear hE hS; clear a; intro g a w hE hS); all_goals (refine wl hE rfl ?_; (first | refine qal hE hS ?_); clear hE hS; clear a; intro g a w hE hS)) | (refine c_regI 1 ?_; all_goals (refine wl hE rfl ?_; (first | refine qbu hE ?_ | refine qbA hE ?_); clear hE a; intro a hE); all_goals (refine wl hE rfl ?_; (first | refine qf hE ?_ | refine qFF hE ?_ | refine qF hE ?_); clear hE a; intro a hE); all_goals (refine wl hE rfl ?_; (first | refine qst0 hE hS ?_ | refine qst hE hS ?_); clear hS; intro w hS)) | (refine c_regI 2 ?_; all_goals (refine wl hE rfl ?_; (first | refine ql hE hS ?_ | refine qL hE hS ?_ | refine qlr hE hS ?_); clear hE a; intro a hE); all_goals (refine wl hE rfl ?_; (first | refine qst0 hE hS ?_ | refine qst hE hS ?_); clear hS; intro w hS)) | refine c_seq ?_ | ((refine c_cond hE rfl ?_ ?_) <;> (intro hb; (first | replace hb := of_decide_eq_true hb | replace hb := of_decide_eq_false hb | (simp only [Bool.not_eq_true', Bool.not_eq_false', decide_eq_true_eq, decide_eq_false_iff_not] at hb) | skip); try (exfalso; first | omega | exact absurd trivial hb | exact absurd rfl hb | (simp only [beq_self_eq_true, bne_self_eq_false, reduceCtorEq] at hb; done)))))
  exact p_ret1 hE rfl (rc hE hS .nil) ⟨_, rfl, rfl, hS.clean⟩
theorem tagged_s (d s : Int) (h : Bool) (p : Int) (dei : Bool) (v t : Int) (b : ByteArray) (h1 : Bool) (p1 : Int) (dei1 : Bool) (v1 : Int) (w0 : World) : Calls Try.prog 88 #[.agg #[.int .u64 d, .int .u64 s, .bool h, .int .i64 p, .bool dei, .int .i64 v, .int .i64 t, .string b], .agg #[.bool h1, .int .i64 p1, .bool dei1, .int .i64 v1]] w0 fun e w' => ∃ r, e = .returned r ∧
    r = .agg #[.int .u64 d, .int .u64 s, .bool h1, .int .i64 p1, .bool dei1, .int .i64 v1, .int .i64 t, .string b] ∧ Sep w0 w' [] := by
  refine enter (args := [.agg #[.int .u64 d, .int .u64 s, .bool h, .int .i64 p, .bool dei, .int .i64 v, .int .i64 t, .string b], .agg #[.bool h1, .int .i64 p1, .bool dei1, .int .i64 v1]]) 8 Try.func88 rfl rfl rfl ?_
  intro a hE hS
  repeat' (first | refine wl_nil ?_ | refine then_n ?_ | refine c_block ?_ | refine c_skip ?_ | refine c_exit ?_ | refine c_ret ?_ | refine then_r ?_ | refine then_e ?_ | refine inb_n ?_ | refine inb_r ?_ | refine inb_e ?_ | refine inb_o rfl ?_ | refine c_cond_t hE rfl ?_ | refine c_cond_f hE rfl ?_ | refine c_rnd ?_ | (refine c_regI 0 ?_; all_goals (refine wl hE rfl ?_; (first | refine qbx hE hS ?_); clear hE hS; clear a; intro g a w hE hS); all_goals (refine wl hE rfl ?_; (first | refine qbx hE hS ?_); clear hE hS; clear a; intro g a w hE hS); all_goals (refine wl hE rfl ?_; (first | refine qal hE hS ?_); clear hE hS; clear a; intro g a w hE hS)) | (refine c_regI 1 ?_; all_goals (refine wl hE rfl ?_; (first | refine ql hE hS ?_ | refine qL hE hS ?_ | refine qlr hE hS ?_); clear hE a; intro a hE); all_goals (refine wl hE rfl ?_; (first | refine qf hE ?_ | refine qFF hE ?_ | refine qF hE ?_); clear hE a; intro a hE); all_goals (refine wl hE rfl ?_; (first | refine qst0 hE hS ?_ | refine qst hE hS ?_); clear hS; intro w hS)) | (refine c_regI 2 ?_; all_goals (refine wl hE rfl ?_; (first | refine ql hE hS ?_ | refine qL hE hS ?_ | refine qlr hE hS ?_); clear hE a; intro a hE); all_goals (refine wl hE rfl ?_; (first | refine qst0 hE hS ?_ | refine qst hE hS ?_); clear hS; intro w hS)) | refine c_seq ?_ | ((refine c_cond hE rfl ?_ ?_) <;> (intro hb; (first | replace hb := of_decide_eq_true hb | replace hb := of_decide_eq_false hb | (simp only [Bool.not_eq_true', Bool.not_eq_false', decide_eq_true_eq, decide_eq_false_iff_not] at hb) | skip); try (exfalso; first | omega | exact absurd trivial hb | exact absurd rfl hb | (simp only [beq_self_eq_true, bne_self_eq_false, reduceCtorEq] at hb; done)))))
  exact p_ret1 hE rfl (rc hE hS .nil) ⟨_, rfl, rfl, hS.clean⟩
def inVid (h : Bool) (v pv : Int) : Int := if h = true ∧ v ≠ 0 then v else pv
def inR (ok : Bool) (vid d s t : Int) (b : ByteArray) : Value := if ok = true then .tuple #[.int .i64 vid, .agg #[.int .u64 d, .int .u64 s, .bool false, .int .i64 0, .bool false, .int .i64 0, .int .i64 t, .string b], .bool true] else .tuple #[.int .i64 0, .agg #[.int .u64 0, .int .u64 0, .bool false, .int .i64 0, .bool false, .int .i64 0, .int .i64 0, .string ⟨#[]⟩], .bool false]
theorem in_s (tr : Bool) (pv : Int) (A : Option Addr) (c : Nat) (xs : List Int) (d s : Int) (h : Bool) (p : Int) (dei : Bool) (v t : Int) (b : ByteArray) (w0 : World) (hR : Rd w0 A (ints xs)) (hl : xs.length ≤ 9223372036854775807) : Calls Try.prog 31 #[.agg #[.bool tr, .int .i64 pv, .slice A xs.length c], .agg #[.int .u64 d, .int .u64 s, .bool h, .int .i64 p, .bool dei, .int .i64 v, .int .i64 t, .string b]] w0 fun e w' => ∃ r, e = .returned r ∧ r = inR (hasP tr pv xs (inVid h v pv)) (inVid h v pv) d s t b ∧ Sep w0 w' [] := by
  refine enter (args := [.agg #[.bool tr, .int .i64 pv, .slice A xs.length c], .agg #[.int .u64 d, .int .u64 s, .bool h, .int .i64 p, .bool dei, .int .i64 v, .int .i64 t, .string b]]) 29 Try.func31 rfl rfl rfl ?_
  intro a hE hS
  repeat' (first | refine wl_nil ?_ | refine then_n ?_ | refine c_block ?_ | refine c_skip ?_ | refine c_exit ?_ | refine c_ret ?_ | refine then_r ?_ | refine then_e ?_ | refine inb_n ?_ | refine inb_r ?_ | refine inb_e ?_ | refine inb_o rfl ?_ | refine c_cond_t hE rfl ?_ | refine c_cond_f hE rfl ?_ | refine c_rnd ?_ | (refine c_regI 0 ?_; all_goals (refine wl hE rfl ?_; (first | refine qbx hE hS ?_); clear hE hS; clear a; intro g a w hE hS); all_goals (refine wl hE rfl ?_; (first | refine qbx hE hS ?_); clear hE hS; clear a; intro g a w hE hS); all_goals (refine wl hE rfl ?_; refine qa hE ?_; clear hE a; intro a hE); all_goals (refine wl hE rfl ?_; (first | refine qal hE hS ?_); clear hE hS; clear a; intro g a w hE hS); all_goals (refine wl hE rfl ?_; refine qa hE ?_; clear hE a; intro a hE)) | (refine c_regI 1 ?_; all_goals (refine wl hE rfl ?_; (first | refine qf hE ?_ | refine qFF hE ?_ | refine qF hE ?_); clear hE a; intro a hE); all_goals (refine wl hE rfl ?_; (first | refine qf hE ?_ | refine qFF hE ?_ | refine qF hE ?_); clear hE a; intro a hE); all_goals (refine wl hE rfl ?_; (first | refine ql hE hS ?_ | refine qL hE hS ?_ | refine qlr hE hS ?_); clear hE a; intro a hE); all_goals (refine wl hE rfl ?_; refine qa hE ?_; clear hE a; intro a hE)) | (refine c_regI 2 ?_; all_goals (refine wl hE rfl ?_; (first | refine qf hE ?_ | refine qFF hE ?_ | refine qF hE ?_); clear hE a; intro a hE); all_goals (refine wl hE rfl ?_; (first | refine qf hE ?_ | refine qFF hE ?_ | refine qF hE ?_); clear hE a; intro a hE); all_goals (refine wl hE rfl ?_; (first | refine ql hE hS ?_ | refine qL hE hS ?_ | refine qlr hE hS ?_); clear hE a; intro a hE); all_goals (refine wl hE rfl ?_; (first | refine qu hE ?_ | refine qng hE ?_); clear hE a; intro a hE); all_goals (refine wl hE rfl ?_; refine qm hE ?_; clear hE a; intro a hE); all_goals (first | (refine wl hE rfl ?_; refine qm hE ?_; clear hE a; intro a hE) | (refine wl_skip hE rfl rfl rfl ?_; clear hE a; intro a hE) | ((refine wl_splitg hE rfl rfl ?_ ?_) <;> (clear hE; intro hb hE; (first | replace hb := of_decide_eq_true hb | replace hb := of_decide_eq_false hb | (simp only [Bool.not_eq_true', Bool.not_eq_false', decide_eq_true_eq, decide_eq_false_iff_not] at hb) | skip); try (exfalso; first | omega | exact absurd trivial hb | exact absurd rfl hb | (simp only [beq_self_eq_true, bne_self_eq_false, reduceCtorEq] at hb; done))) <;> (first | (refine wl hE rfl ?_; refine qm hE ?_; clear hE a; intro a hE) | (refine wl_skip hE rfl rfl rfl ?_; clear hE a; intro a hE)))); all_goals (first | (refine wl hE rfl ?_; (first | refine qb hE ?_ | refine qb2 hE ?_ | refine qbE hE ?_ | refine qbN hE ?_ | refine qpn hE ?_); clear hE a; intro a hE) | (refine wl_skip hE rfl rfl rfl ?_; clear hE a; intro a hE)); all_goals (refine wl hE rfl ?_; (first | refine qpt hE ?_ | refine qpf hE ?_); clear hE a; intro a hE)) | (refine c_regI 3 ?_; all_goals (refine wl hE rfl ?_; (first | refine qf hE ?_ | refine qFF hE ?_ | refine qF hE ?_); clear hE a; intro a hE); all_goals (refine wl hE rfl ?_; (first | refine ql hE hS ?_ | refine qL hE hS ?_ | refine qlr hE hS ?_); clear hE a; intro a hE); all_goals (refine wl hE rfl ?_; refine qa hE ?_; clear hE a; intro a hE)) | (refine c_regI 4 ?_; all_goals (refine wl hE rfl ?_; (first | refine ql hE hS ?_ | refine qL hE hS ?_ | refine qlr hE hS ?_); clear hE a; intro a hE); all_goals (refine wl hE rfl ?_; refine qm hE ?_; clear hE a; intro a hE); all_goals (refine wl hE rfl ?_; refine is_call 47 rfl ?_; refine qc hE (has_s tr pv A c xs _ _ (hR.move hS) hl) ?_; clear hE; clear a; rintro _ a w ⟨rfl, hS1⟩ hE; replace hS := hS.then hS1; clear hS1); all_goals (refine wl hE rfl ?_; (first | refine qu hE ?_ | refine qng hE ?_); clear hE a; intro a hE)) | (refine c_regI 5 ?_; all_goals (refine wl hE rfl ?_; (first | refine qbu hE ?_ | refine qbA hE ?_); clear hE a; intro a hE); all_goals (refine wl hE rfl ?_; refine qa hE ?_; clear hE a; intro a hE); all_goals (refine wl hE rfl ?_; (first | refine qst0 hE hS ?_ | refine qst hE hS ?_); clear hS; intro w hS); all_goals (refine wl hE rfl ?_; refine qa hE ?_; clear hE a; intro a hE)) | (refine c_regI 6 ?_; all_goals (refine wl hE rfl ?_; refine qm hE ?_; clear hE a; intro a hE); all_goals (refine wl hE rfl ?_; (first | refine ql hE hS ?_ | refine qL hE hS ?_ | refine qlr hE hS ?_); clear hE a; intro a hE); all_goals (refine wl hE rfl ?_; refine is_call 48 rfl ?_; refine qc hE (bare_s d s h p dei v t b _) ?_; clear hE; clear a; rintro _ a w ⟨rfl, hS1⟩ hE; replace hS := hS.then hS1; clear hS1); all_goals (refine wl hE rfl ?_; refine qa hE ?_; clear hE a; intro a hE); all_goals (refine wl hE rfl ?_; (first | refine qst0 hE hS ?_ | refine qst hE hS ?_); clear hS; intro w hS); all_goals (refine wl hE rfl ?_; refine qa hE ?_; clear hE a; intro a hE)) | refine c_seq ?_ | ((refine c_cond hE rfl ?_ ?_) <;> (intro hb; (first | replace hb := of_decide_eq_true hb | replace hb := of_decide_eq_false hb | (simp only [Bool.not_eq_true', Bool.not_eq_false', decide_eq_true_eq, decide_eq_false_iff_not] at hb) | skip); try (exfalso; first | omega | exact absurd trivial hb | exact absurd rfl hb | (simp only [beq_self_eq_true, bne_self_eq_false, reduceCtorEq] at hb; done)))))
  all_goals (refine p_rets hE rfl (rt hE (rc hE hS (rt hE .nil))) rfl ⟨_, rfl, ?_, hS.clean⟩; simp_all [inR, inVid])
end Go.Proofs.Ytdgpjkddpbiieaa
/- DERIVED. Contracts of layer 16: which ports may be. No condition. -/
namespace Go.Proofs.Ytdgpjkddpbiieaa
open Go.RowKit Go.Sx Go.Proofs.YtdgpjkddpbiieaaTy
set_option linter.unusedVariables false
set_option linter.unusedSimpArgs false
set_option maxRecDepth 100000
attribute [local irreducible] Oper.wp Code.wp wpList wpAnyH Calls bodyPost Exit.then Exit.inBlock Code.rounds
set_option maxHeartbeats 1000000
def okTo (xs : List Int) (k : Nat) : Prop := ∀ i, i < k → (1 ≤ xs.getD i 0 ∧ xs.getD i 0 ≤ 4094) ∧ (0 < i → xs.getD (i - 1) 0 < xs.getD i 0)
instance (xs : List Int) (k : Nat) : Decidable (okTo xs k) := by unfold okTo; infer_instance
theorem okTo.step {xs : List Int} {i : Int} (h0 : 0 ≤ i) (h : okTo xs i.toNat) (h1 : 1 ≤ xs.getD i.toNat 0) (h2 : xs.getD i.toNat 0 ≤ 4094) (h3 : 0 < i → xs.getD (i - 1).toNat 0 < xs.getD i.toNat 0) : okTo xs (i + 1).toNat := by
  intro j hj
  by_cases e : j = i.toNat
  · subst e
    refine ⟨⟨h1, h2⟩, fun hp => ?_⟩
    have := h3 (by omega)
    rwa [show (i - 1).toNat = i.toNat - 1 by omega] at this
  · exact h j (by omega)
theorem okTo.not {xs : List Int} {i : Int} (h0 : 0 ≤ i) (hi : i < xs.length) (h : ¬ ((1 ≤ xs.getD i.toNat 0 ∧ xs.getD i.toNat 0 ≤ 4094) ∧ (0 < i → xs.getD (i - 1).toNat 0 < xs.getD i.toNat 0))) : ¬ okTo xs xs.length := fun hk => by
  have := hk i.toNat (by omega)
  apply h
  refine ⟨this.1, fun hp => ?_⟩
  have := this.2 (by omega)
  rwa [show (i - 1).toNat = i.toNat - 1 by omega]
theorem okTo.all {xs : List Int} {i : Int} (h : okTo xs i.toNat) (hi : ¬ i < xs.length) : okTo xs xs.length := fun j hj => h j (by omega)
def rightP (tr : Bool) (pv : Int) (xs : List Int) : Bool := if tr = true then decide (okTo xs xs.length) && (decide (pv = 0) || decide (pv ∈ xs)) else isVlan pv && decide (xs.length = 0)
theorem isVlan_t {v : Int} (h : isVlan v = true) : 1 ≤ v ∧ v ≤ 4094 := by simpa [isVlan] using h
theorem isVlan_f {v : Int} (h : isVlan v = false) : ¬ (1 ≤ v ∧ v ≤ 4094) := fun hv => by rw [show isVlan v = true by simpa [isVlan] using hv] at h; cases h
theorem rightP_no {tr : Bool} {pv : Int} {xs : List Int} (ht : tr = true) (h : ¬ okTo xs xs.length) : rightP tr pv xs = false := by simp [rightP, ht, h]
theorem rightP_yes {tr : Bool} {pv : Int} {xs : List Int} (ht : tr = true) (h : okTo xs xs.length) : rightP tr pv xs = (decide (pv = 0) || decide (pv ∈ xs)) := by simp [rightP, ht, h]
theorem right_s (tr : Bool) (pv : Int) (A : Option Addr) (c : Nat) (xs : List Int) (w0 : World) (hR : Rd w0 A (ints xs)) (hl : xs.length ≤ 9223372036854775807) : Calls Try.prog 25 #[.agg #[.bool tr, .int .i64 pv, .slice A xs.length c]] w0 fun e w' => ∃ r, e = .returned r ∧ r = .bool (rightP tr pv xs) ∧ Sep w0 w' [] := by
  have hA : (0 : Int) < xs.length → A = some (adr A) := fun h => hR.some (by rw [ints_length]; omega)
  have hT := hR.at_
  refine enter (args := [.agg #[.bool tr, .int .i64 pv, .slice A xs.length c]]) 53 Try.func25 rfl rfl rfl ?_
  intro a hE hS
  repeat' (first | refine wl_nil ?_ | refine then_n ?_ | refine c_block ?_ | refine c_skip ?_ | refine c_exit ?_ | refine c_ret ?_ | refine then_r ?_ | refine then_e ?_ | refine inb_n ?_ | refine inb_r ?_ | refine inb_e ?_ | refine inb_o rfl ?_ | refine c_cond_t hE rfl ?_ | refine c_cond_f hE rfl ?_ | refine c_rnd ?_ | (refine c_regI 0 ?_; all_goals (refine wl hE rfl ?_; (first | refine qbx hE hS ?_); clear hE hS; clear a; intro g a w hE hS); all_goals (refine wl hE rfl ?_; refine qa hE ?_; clear hE a; intro a hE)) | (refine c_regI 1 ?_; all_goals (refine wl hE rfl ?_; (first | refine qf hE ?_ | refine qFF hE ?_ | refine qF hE ?_); clear hE a; intro a hE); all_goals (refine wl hE rfl ?_; (first | refine q0i hE hS hT ?_ | refine ql hE hS ?_ | refine qL hE hS ?_ | refine qlr hE hS ?_); clear hE a; intro a hE); all_goals (refine wl hE rfl ?_; (first | refine qu hE ?_ | refine qng hE ?_); clear hE a; intro a hE)) | (refine c_regI 2 ?_; all_goals (refine wl hE rfl ?_; (first | refine qf hE ?_ | refine qFF hE ?_ | refine qF hE ?_); clear hE a; intro a hE); all_goals (refine wl hE rfl ?_; (first | refine q0i hE hS hT ?_ | refine ql hE hS ?_ | refine qL hE hS ?_ | refine qlr hE hS ?_); clear hE a; intro a hE); all_goals (refine wl hE rfl ?_; refine is_call 44 rfl ?_; refine qc hE (vlan_s _ _) ?_; clear hE; clear a; rintro _ a w ⟨rfl, hS1⟩ hE; replace hS := hS.then hS1; clear hS1); all_goals (refine wl hE rfl ?_; refine qm hE ?_; clear hE a; intro a hE); all_goals (first | (refine wl hE rfl ?_; (first | refine qf hE ?_ | refine qFF hE ?_ | refine qF hE ?_); clear hE a; intro a hE) | (refine wl_skip hE rfl rfl rfl ?_; clear hE a; intro a hE) | ((refine wl_splitg hE rfl rfl ?_ ?_) <;> (clear hE; intro hb hE; (first | replace hb := of_decide_eq_true hb | replace hb := of_decide_eq_false hb | (simp only [Bool.not_eq_true', Bool.not_eq_false', decide_eq_true_eq, decide_eq_false_iff_not] at hb) | skip); try (exfalso; first | omega | exact absurd trivial hb | exact absurd rfl hb | (simp only [beq_self_eq_true, bne_self_eq_false, reduceCtorEq] at hb; done))) <;> (first | (refine wl hE rfl ?_; (first | refine qf hE ?_ | refine qFF hE ?_ | refine qF hE ?_); clear hE a; intro a hE) | (refine wl_skip hE rfl rfl rfl ?_; clear hE a; intro a hE)))); all_goals (first | (refine wl hE rfl ?_; (first | refine q0i hE hS hT ?_ | refine ql hE hS ?_ | refine qL hE hS ?_ | refine qlr hE hS ?_); clear hE a; intro a hE) | (refine wl_skip hE rfl rfl rfl ?_; clear hE a; intro a hE)); all_goals (first | (refine wl hE rfl ?_; (first | refine qn1 hE ?_ | refine qns hE ?_); clear hE a; intro a hE) | (refine wl_skip hE rfl rfl rfl ?_; clear hE a; intro a hE)); all_goals (first | (refine wl hE rfl ?_; (first | refine qb hE ?_ | refine qb2 hE ?_ | refine qbE hE ?_ | refine qbN hE ?_ | refine qpn hE ?_); clear hE a; intro a hE) | (refine wl_skip hE rfl rfl rfl ?_; clear hE a; intro a hE)); all_goals (refine wl hE rfl ?_; (first | refine qpt hE ?_ | refine qpf hE ?_); clear hE a; intro a hE); all_goals (refine wl hE rfl ?_; refine qa hE ?_; clear hE a; intro a hE)) | (refine c_regI 3 ?_; all_goals (refine wl hE rfl ?_; (first | refine qf hE ?_ | refine qFF hE ?_ | refine qF hE ?_); clear hE a; intro a hE); all_goals (refine wl hE rfl ?_; (first | refine q0i hE hS hT ?_ | refine ql hE hS ?_ | refine qL hE hS ?_ | refine qlr hE hS ?_); clear hE a; intro a hE); all_goals (refine wl hE rfl ?_; (first | refine qn1 hE ?_ | refine qns hE ?_); clear hE a; intro a hE); all_goals (refine wl hE rfl ?_; refine qm hE ?_; clear hE a; intro a hE)) | refine c_seq ?_ | ((refine c_cond hE rfl ?_ ?_) <;> (intro hb; (first | replace hb := of_decide_eq_true hb | replace hb := of_decide_eq_false hb | (simp only [Bool.not_eq_true', Bool.not_eq_false', decide_eq_true_eq, decide_eq_false_iff_not] at hb) | skip); try (exfalso; first | omega | exact absurd trivial hb | exact absurd rfl hb | (simp only [beq_self_eq_true, bne_self_eq_false, reduceCtorEq] at hb; done)))))
  all_goals try (refine p_ret hE rfl rfl ⟨_, rfl, ?_, hS.clean⟩; simp_all [rightP, isVlan] <;> omega)
  refine c_loopN (fun m a w => ∃ i : Int, 0 ≤ i ∧ i ≤ xs.length ∧ m = (xs.length - i).toNat ∧ okTo xs i.toNat ∧ Env a 53 [(1, .pointer (some ⟨g, 0, none⟩)), (18, .slice A xs.length c), (19, .int .i64 xs.length), (20, .int .i64 i)] ∧ Sep w0 w [blk g [.bool tr, .int .i64 pv, .slice A xs.length c] 55]) _ ⟨0, by omega, by omega, rfl, fun i hi => absurd hi (by simp), hE.cut ⟨rfl, rfl, rfl, rfl, trivial⟩, hS⟩ ?_
  clear hE hS
  clear a
  rintro m a w ⟨i, h0, h1, rfl, hk, hE, hS⟩
  repeat' (first | refine wl_nil ?_ | refine then_n ?_ | refine c_block ?_ | refine c_skip ?_ | refine c_exit ?_ | refine c_ret ?_ | refine then_r ?_ | refine then_e ?_ | refine inb_n ?_ | refine inb_r ?_ | refine inb_e ?_ | refine inb_o rfl ?_ | refine c_cond_t hE rfl ?_ | refine c_cond_f hE rfl ?_ | refine c_rnd ?_ | (refine c_regI 4 ?_; all_goals (refine wl hE rfl ?_; (first | refine qb hE ?_ | refine qb2 hE ?_ | refine qbE hE ?_ | refine qbN hE ?_ | refine qpn hE ?_); clear hE a; intro a hE)) | (refine c_regI 5 ?_; all_goals (refine wl hE rfl ?_; refine qm hE ?_; clear hE a; intro a hE); all_goals (refine wl hE rfl ?_; (first | refine qi hE hA ?_ | refine qi hE (fun _ => rfl) ?_ | refine qia hE ?_); clear hE a; intro a hE); all_goals (refine wl hE rfl ?_; (first | refine q0i hE hS hT ?_ | refine ql hE hS ?_ | refine qL hE hS ?_ | refine qlr hE hS ?_); clear hE a; intro a hE); all_goals (refine wl hE rfl ?_; refine qa hE ?_; clear hE a; intro a hE); all_goals (refine wl hE rfl ?_; refine qa hE ?_; clear hE a; intro a hE)) | (refine c_regI 6 ?_; all_goals (refine wl hE rfl ?_; refine qm hE ?_; clear hE a; intro a hE); all_goals (refine wl hE rfl ?_; refine is_call 44 rfl ?_; refine qc hE (vlan_s _ _) ?_; clear hE; clear a; rintro _ a w ⟨rfl, hS1⟩ hE; replace hS := hS.then hS1; clear hS1); all_goals (refine wl hE rfl ?_; (first | refine qu hE ?_ | refine qng hE ?_); clear hE a; intro a hE); all_goals (refine wl hE rfl ?_; refine qm hE ?_; clear hE a; intro a hE); all_goals (first | (refine wl hE rfl ?_; refine qm hE ?_; clear hE a; intro a hE) | (refine wl_skip hE rfl rfl rfl ?_; clear hE a; intro a hE) | ((refine wl_splitg hE rfl rfl ?_ ?_) <;> (clear hE; intro hb hE; (first | replace hb := of_decide_eq_true hb | replace hb := of_decide_eq_false hb | (simp only [Bool.not_eq_true', Bool.not_eq_false', decide_eq_true_eq, decide_eq_false_iff_not] at hb) | skip); try (exfalso; first | omega | exact absurd trivial hb | exact absurd rfl hb | (simp only [beq_self_eq_true, bne_self_eq_false, reduceCtorEq] at hb; done))) <;> (first | (refine wl hE rfl ?_; refine qm hE ?_; clear hE a; intro a hE) | (refine wl_skip hE rfl rfl rfl ?_; clear hE a; intro a hE)))); all_goals (first | (refine wl hE rfl ?_; (first | refine qb hE ?_ | refine qb2 hE ?_ | refine qbE hE ?_ | refine qbN hE ?_ | refine qpn hE ?_); clear hE a; intro a hE) | (refine wl_skip hE rfl rfl rfl ?_; clear hE a; intro a hE)); all_goals (first | (refine wl hE rfl ?_; refine qm hE ?_; clear hE a; intro a hE) | (refine wl_skip hE rfl rfl rfl ?_; clear hE a; intro a hE)); all_goals (first | (refine wl hE rfl ?_; refine qm hE ?_; clear hE a; intro a hE) | (refine wl_skip hE rfl rfl rfl ?_; clear hE a; intro a hE) | ((refine wl_splitg hE rfl rfl ?_ ?_) <;> (clear hE; intro hb hE; (first | replace hb := of_decide_eq_true hb | replace hb := of_decide_eq_false hb | (simp only [Bool.not_eq_true', Bool.not_eq_false', decide_eq_true_eq, decide_eq_false_iff_not] at hb) | skip); try (exfalso; first | omega | exact absurd trivial hb | exact absurd rfl hb | (simp only [beq_self_eq_true, bne_self_eq_false, reduceCtorEq] at hb; done))) <;> (first | (refine wl hE rfl ?_; refine qm hE ?_; clear hE a; intro a hE) | (refine wl_skip hE rfl rfl rfl ?_; clear hE a; intro a hE)))); all_goals (first | (refine wl hE rfl ?_; (first | refine qf hE ?_ | refine qFF hE ?_ | refine qF hE ?_); clear hE a; intro a hE) | (refine wl_skip hE rfl rfl rfl ?_; clear hE a; intro a hE)); all_goals (first | (refine wl hE rfl ?_; (first | refine q0i hE hS hT ?_ | refine ql hE hS ?_ | refine qL hE hS ?_ | refine qlr hE hS ?_); clear hE a; intro a hE) | (refine wl_skip hE rfl rfl rfl ?_; clear hE a; intro a hE)); all_goals (first | (refine wl hE rfl ?_; refine qm hE ?_; clear hE a; intro a hE) | (refine wl_skip hE rfl rfl rfl ?_; clear hE a; intro a hE)); all_goals (first | (refine wl hE rfl ?_; (first | refine qb hE ?_ | refine qb2 hE ?_ | refine qbE hE ?_ | refine qbN hE ?_ | refine qpn hE ?_); clear hE a; intro a hE) | (refine wl_skip hE rfl rfl rfl ?_; clear hE a; intro a hE)); all_goals (first | (refine wl hE rfl ?_; (first | refine qi hE hA ?_ | refine qi hE (fun _ => rfl) ?_ | refine qia hE ?_); clear hE a; intro a hE) | (refine wl_skip hE rfl rfl rfl ?_; clear hE a; intro a hE)); all_goals (first | (refine wl hE rfl ?_; (first | refine q0i hE hS hT ?_ | refine ql hE hS ?_ | refine qL hE hS ?_ | refine qlr hE hS ?_); clear hE a; intro a hE) | (refine wl_skip hE rfl rfl rfl ?_; clear hE a; intro a hE)); all_goals (first | (refine wl hE rfl ?_; (first | refine qb hE ?_ | refine qb2 hE ?_ | refine qbE hE ?_ | refine qbN hE ?_ | refine qpn hE ?_); clear hE a; intro a hE) | (refine wl_skip hE rfl rfl rfl ?_; clear hE a; intro a hE)); all_goals (first | (refine wl hE rfl ?_; (first | refine qpt hE ?_ | refine qpf hE ?_); clear hE a; intro a hE) | (refine wl_skip hE rfl rfl rfl ?_; clear hE a; intro a hE)); all_goals (refine wl hE rfl ?_; (first | refine qpt hE ?_ | refine qpf hE ?_); clear hE a; intro a hE)) | (refine c_regI 7 ?_; all_goals (refine wl hE rfl ?_; refine qa hE ?_; clear hE a; intro a hE)) | (refine c_regI 8 ?_; all_goals (refine wl hE rfl ?_; (first | refine qb hE ?_ | refine qb2 hE ?_ | refine qbE hE ?_ | refine qbN hE ?_ | refine qpn hE ?_); clear hE a; intro a hE); all_goals (refine wl hE rfl ?_; refine qm hE ?_; clear hE a; intro a hE)) | (refine c_regI 9 ?_; all_goals (refine wl hE rfl ?_; (first | refine qf hE ?_ | refine qFF hE ?_ | refine qF hE ?_); clear hE a; intro a hE); all_goals (refine wl hE rfl ?_; (first | refine q0i hE hS hT ?_ | refine ql hE hS ?_ | refine qL hE hS ?_ | refine qlr hE hS ?_); clear hE a; intro a hE); all_goals (refine wl hE rfl ?_; (first | refine qb hE ?_ | refine qb2 hE ?_ | refine qbE hE ?_ | refine qbN hE ?_ | refine qpn hE ?_); clear hE a; intro a hE); all_goals (refine wl hE rfl ?_; refine qm hE ?_; clear hE a; intro a hE); all_goals (first | (refine wl hE rfl ?_; (first | refine qf hE ?_ | refine qFF hE ?_ | refine qF hE ?_); clear hE a; intro a hE) | (refine wl_skip hE rfl rfl rfl ?_; clear hE a; intro a hE) | ((refine wl_splitg hE rfl rfl ?_ ?_) <;> (clear hE; intro hb hE; (first | replace hb := of_decide_eq_true hb | replace hb := of_decide_eq_false hb | (simp only [Bool.not_eq_true', Bool.not_eq_false', decide_eq_true_eq, decide_eq_false_iff_not] at hb) | skip); try (exfalso; first | omega | exact absurd trivial hb | exact absurd rfl hb | (simp only [beq_self_eq_true, bne_self_eq_false, reduceCtorEq] at hb; done))) <;> (first | (refine wl hE rfl ?_; (first | refine qf hE ?_ | refine qFF hE ?_ | refine qF hE ?_); clear hE a; intro a hE) | (refine wl_skip hE rfl rfl rfl ?_; clear hE a; intro a hE)))); all_goals (first | (refine wl hE rfl ?_; (first | refine q0i hE hS hT ?_ | refine ql hE hS ?_ | refine qL hE hS ?_ | refine qlr hE hS ?_); clear hE a; intro a hE) | (refine wl_skip hE rfl rfl rfl ?_; clear hE a; intro a hE)); all_goals (first | (refine wl hE rfl ?_; (first | refine qf hE ?_ | refine qFF hE ?_ | refine qF hE ?_); clear hE a; intro a hE) | (refine wl_skip hE rfl rfl rfl ?_; clear hE a; intro a hE)); all_goals (first | (refine wl hE rfl ?_; (first | refine q0i hE hS hT ?_ | refine ql hE hS ?_ | refine qL hE hS ?_ | refine qlr hE hS ?_); clear hE a; intro a hE) | (refine wl_skip hE rfl rfl rfl ?_; clear hE a; intro a hE)); all_goals (first | (refine wl hE rfl ?_; refine is_call 45 rfl ?_; refine qc hE (contains_s A c xs _ _ (hR.move hS) hl) ?_; clear hE; clear a; rintro _ a w ⟨rfl, hS1⟩ hE; replace hS := hS.then hS1; clear hS1) | (refine wl_skip hE rfl rfl rfl ?_; clear hE a; intro a hE)); all_goals (refine wl hE rfl ?_; (first | refine qpt hE ?_ | refine qpf hE ?_); clear hE a; intro a hE); all_goals (refine wl hE rfl ?_; refine qa hE ?_; clear hE a; intro a hE)) | refine c_seq ?_ | ((refine c_cond hE rfl ?_ ?_) <;> (intro hb; (first | replace hb := of_decide_eq_true hb | replace hb := of_decide_eq_false hb | (simp only [Bool.not_eq_true', Bool.not_eq_false', decide_eq_true_eq, decide_eq_false_iff_not] at hb) | skip); try (exfalso; first | omega | exact absurd trivial hb | exact absurd rfl hb | (simp only [beq_self_eq_true, bne_self_eq_false, reduceCtorEq] at hb; done)))))
  · exact p_ret hE rfl rfl ⟨_, rfl, by rw [rightP_no (by assumption) (okTo.not h0 (by assumption) (by have := isVlan_f (by assumption); omega))], hS.clean⟩
  · exact p_ret hE rfl rfl ⟨_, rfl, by rw [rightP_no (by assumption) (okTo.not h0 (by assumption) (by omega))], hS.clean⟩
  · exact ⟨_, by omega, i + 1, by omega, by omega, rfl, hk.step h0 (isVlan_t (by assumption)).1 (isVlan_t (by assumption)).2 (by omega), hE.cut ⟨rfl, rfl, rfl, rfl, trivial⟩, hS⟩
  · exact ⟨_, by omega, i + 1, by omega, by omega, rfl, hk.step h0 (isVlan_t (by assumption)).1 (isVlan_t (by assumption)).2 (by omega), hE.cut ⟨rfl, rfl, rfl, rfl, trivial⟩, hS⟩
  · exact p_ret hE rfl rfl ⟨_, rfl, by rw [rightP_yes (by assumption) (hk.all (by assumption))]; simp_all, hS.clean⟩
  · exact p_ret hE rfl rfl ⟨_, rfl, by rw [rightP_yes (by assumption) (hk.all (by assumption))]; simp_all, hS.clean⟩
def lastOf (xs : List Int) (i : Int) : Int := if 0 < i then xs.getD (i - 1).toNat 0 else 0
theorem lastOf.step (xs : List Int) {i : Int} (h0 : 0 ≤ i) : lastOf xs (i + 1) = xs.getD i.toNat 0 := by simp [lastOf, show (0 : Int) < i + 1 by omega]
theorem lastOf.pos {xs : List Int} {i : Int} (h0 : 0 ≤ i) (h1 : i ≤ xs.length) (h : okTo xs i.toNat) : 0 ≤ lastOf xs i := by
  unfold lastOf
  split
  · have := (h (i - 1).toNat (by omega)).1; omega
  · omega
theorem refright_s (tr : Bool) (pv : Int) (A : Option Addr) (c : Nat) (xs : List Int) (w0 : World) (hR : Rd w0 A (ints xs)) (hl : xs.length ≤ 9223372036854775807) : Calls Try.prog 22 #[.agg #[.bool tr, .int .i64 pv, .slice A xs.length c]] w0 fun e w' => ∃ r, e = .returned r ∧ r = .bool (rightP tr pv xs) ∧ Sep w0 w' [] := by
  have hA : (0 : Int) < xs.length → A = some (adr A) := fun h => hR.some (by rw [ints_length]; omega)
  have hT := hR.at_
  refine enter (args := [.agg #[.bool tr, .int .i64 pv, .slice A xs.length c]]) 59 Try.func22 rfl rfl rfl ?_
  intro a hE hS
  repeat' (first | refine wl_nil ?_ | refine then_n ?_ | refine c_block ?_ | refine c_skip ?_ | refine c_exit ?_ | refine c_ret ?_ | refine then_r ?_ | refine then_e ?_ | refine inb_n ?_ | refine inb_r ?_ | refine inb_e ?_ | refine inb_o rfl ?_ | refine c_cond_t hE rfl ?_ | refine c_cond_f hE rfl ?_ | refine c_rnd ?_ | (refine c_regI 0 ?_; all_goals (refine wl hE rfl ?_; (first | refine qbx hE hS ?_); clear hE hS; clear a; intro g a w hE hS); all_goals (refine wl hE rfl ?_; refine qa hE ?_; clear hE a; intro a hE)) | (refine c_regI 1 ?_; all_goals (refine wl hE rfl ?_; (first | refine qf hE ?_ | refine qFF hE ?_ | refine qF hE ?_); clear hE a; intro a hE); all_goals (refine wl hE rfl ?_; (first | refine q0i hE hS hT ?_ | refine ql hE hS ?_ | refine qL hE hS ?_ | refine qlr hE hS ?_); clear hE a; intro a hE); all_goals (refine wl hE rfl ?_; (first | refine qu hE ?_ | refine qng hE ?_); clear hE a; intro a hE)) | (refine c_regI 2 ?_; all_goals (refine wl hE rfl ?_; (first | refine qf hE ?_ | refine qFF hE ?_ | refine qF hE ?_); clear hE a; intro a hE); all_goals (refine wl hE rfl ?_; (first | refine q0i hE hS hT ?_ | refine ql hE hS ?_ | refine qL hE hS ?_ | refine qlr hE hS ?_); clear hE a; intro a hE); all_goals (refine wl hE rfl ?_; (first | refine qb hE ?_ | refine qb2 hE ?_ | refine qbE hE ?_ | refine qbN hE ?_ | refine qpn hE ?_); clear hE a; intro a hE); all_goals (refine wl hE rfl ?_; refine qm hE ?_; clear hE a; intro a hE); all_goals (first | (refine wl hE rfl ?_; (first | refine qf hE ?_ | refine qFF hE ?_ | refine qF hE ?_); clear hE a; intro a hE) | (refine wl_skip hE rfl rfl rfl ?_; clear hE a; intro a hE) | ((refine wl_splitg hE rfl rfl ?_ ?_) <;> (clear hE; intro hb hE; (first | replace hb := of_decide_eq_true hb | replace hb := of_decide_eq_false hb | (simp only [Bool.not_eq_true', Bool.not_eq_false', decide_eq_true_eq, decide_eq_false_iff_not] at hb) | skip); try (exfalso; first | omega | exact absurd trivial hb | exact absurd rfl hb | (simp only [beq_self_eq_true, bne_self_eq_false, reduceCtorEq] at hb; done))) <;> (first | (refine wl hE rfl ?_; (first | refine qf hE ?_ | refine qFF hE ?_ | refine qF hE ?_); clear hE a; intro a hE) | (refine wl_skip hE rfl rfl rfl ?_; clear hE a; intro a hE)))); all_goals (first | (refine wl hE rfl ?_; (first | refine q0i hE hS hT ?_ | refine ql hE hS ?_ | refine qL hE hS ?_ | refine qlr hE hS ?_); clear hE a; intro a hE) | (refine wl_skip hE rfl rfl rfl ?_; clear hE a; intro a hE)); all_goals (first | (refine wl hE rfl ?_; (first | refine qb hE ?_ | refine qb2 hE ?_ | refine qbE hE ?_ | refine qbN hE ?_ | refine qpn hE ?_); clear hE a; intro a hE) | (refine wl_skip hE rfl rfl rfl ?_; clear hE a; intro a hE)); all_goals (refine wl hE rfl ?_; (first | refine qpt hE ?_ | refine qpf hE ?_); clear hE a; intro a hE); all_goals (refine wl hE rfl ?_; refine qm hE ?_; clear hE a; intro a hE); all_goals (first | (refine wl hE rfl ?_; (first | refine qf hE ?_ | refine qFF hE ?_ | refine qF hE ?_); clear hE a; intro a hE) | (refine wl_skip hE rfl rfl rfl ?_; clear hE a; intro a hE) | ((refine wl_splitg hE rfl rfl ?_ ?_) <;> (clear hE; intro hb hE; (first | replace hb := of_decide_eq_true hb | replace hb := of_decide_eq_false hb | (simp only [Bool.not_eq_true', Bool.not_eq_false', decide_eq_true_eq, decide_eq_false_iff_not] at hb) | skip); try (exfalso; first | omega | exact absurd trivial hb | exact absurd rfl hb | (simp only [beq_self_eq_true, bne_self_eq_false, reduceCtorEq] at hb; done))) <;> (first | (refine wl hE rfl ?_; (first | refine qf hE ?_ | refine qFF hE ?_ | refine qF hE ?_); clear hE a; intro a hE) | (refine wl_skip hE rfl rfl rfl ?_; clear hE a; intro a hE)))); all_goals (first | (refine wl hE rfl ?_; (first | refine q0i hE hS hT ?_ | refine ql hE hS ?_ | refine qL hE hS ?_ | refine qlr hE hS ?_); clear hE a; intro a hE) | (refine wl_skip hE rfl rfl rfl ?_; clear hE a; intro a hE)); all_goals (first | (refine wl hE rfl ?_; (first | refine qn1 hE ?_ | refine qns hE ?_); clear hE a; intro a hE) | (refine wl_skip hE rfl rfl rfl ?_; clear hE a; intro a hE)); all_goals (first | (refine wl hE rfl ?_; (first | refine qb hE ?_ | refine qb2 hE ?_ | refine qbE hE ?_ | refine qbN hE ?_ | refine qpn hE ?_); clear hE a; intro a hE) | (refine wl_skip hE rfl rfl rfl ?_; clear hE a; intro a hE)); all_goals (refine wl hE rfl ?_; (first | refine qpt hE ?_ | refine qpf hE ?_); clear hE a; intro a hE); all_goals (refine wl hE rfl ?_; refine qa hE ?_; clear hE a; intro a hE)) | (refine c_regI 3 ?_; all_goals (refine wl hE rfl ?_; refine qa hE ?_; clear hE a; intro a hE)) | (refine c_regI 4 ?_; all_goals (refine wl hE rfl ?_; refine qa hE ?_; clear hE a; intro a hE)) | refine c_seq ?_ | ((refine c_cond hE rfl ?_ ?_) <;> (intro hb; (first | replace hb := of_decide_eq_true hb | replace hb := of_decide_eq_false hb | (simp only [Bool.not_eq_true', Bool.not_eq_false', decide_eq_true_eq, decide_eq_false_iff_not] at hb) | skip); try (exfalso; first | omega | exact absurd trivial hb | exact absurd rfl hb | (simp only [beq_self_eq_true, bne_self_eq_false, reduceCtorEq] at hb; done)))))
  all_goals try (refine p_ret hE rfl rfl ⟨_, rfl, ?_, hS.clean⟩; simp_all [rightP, isVlan] <;> omega)
  refine c_loopN (fun m a w => ∃ i : Int, 0 ≤ i ∧ i ≤ xs.length ∧ m = (xs.length - i).toNat ∧ okTo xs i.toNat ∧ ∃ l, l = lastOf xs i ∧ Env a 59 [(1, .pointer (some ⟨g, 0, none⟩)), (3, .int .i64 l), (4, .int .i64 i)] ∧ Sep w0 w [blk g [.bool tr, .int .i64 pv, .slice A xs.length c] 55]) _ ⟨0, by omega, by omega, rfl, fun i hi => absurd hi (by simp), _, rfl, hE.cut ⟨rfl, rfl, rfl, trivial⟩, hS⟩ ?_
  clear hE hS
  clear a
  rintro m a w ⟨i, h0, h1, rfl, hk, l, hl', hE, hS⟩
  have hp : 0 ≤ l := hl' ▸ lastOf.pos h0 h1 hk
  have hq : 0 < i → l = xs.getD (i - 1).toNat 0 := fun h => by rw [hl']; simp [lastOf, h]
  have hq' : ¬ 0 < i → l = 0 := fun h => by rw [hl']; simp [lastOf, h]
  repeat' (first | refine wl_nil ?_ | refine then_n ?_ | refine c_block ?_ | refine c_skip ?_ | refine c_exit ?_ | refine c_ret ?_ | refine then_r ?_ | refine then_e ?_ | refine inb_n ?_ | refine inb_r ?_ | refine inb_e ?_ | refine inb_o rfl ?_ | refine c_cond_t hE rfl ?_ | refine c_cond_f hE rfl ?_ | refine c_rnd ?_ | (refine c_regI 5 ?_; all_goals (refine wl hE rfl ?_; refine qm hE ?_; clear hE a; intro a hE); all_goals (refine wl hE rfl ?_; (first | refine qf hE ?_ | refine qFF hE ?_ | refine qF hE ?_); clear hE a; intro a hE); all_goals (refine wl hE rfl ?_; (first | refine q0i hE hS hT ?_ | refine ql hE hS ?_ | refine qL hE hS ?_ | refine qlr hE hS ?_); clear hE a; intro a hE); all_goals (refine wl hE rfl ?_; (first | refine qn1 hE ?_ | refine qns hE ?_); clear hE a; intro a hE); all_goals (refine wl hE rfl ?_; (first | refine qb hE ?_ | refine qb2 hE ?_ | refine qbE hE ?_ | refine qbN hE ?_ | refine qpn hE ?_); clear hE a; intro a hE)) | (refine c_regI 7 ?_; all_goals (refine wl hE rfl ?_; (first | refine qf hE ?_ | refine qFF hE ?_ | refine qF hE ?_); clear hE a; intro a hE); all_goals (refine wl hE rfl ?_; (first | refine q0i hE hS hT ?_ | refine ql hE hS ?_ | refine qL hE hS ?_ | refine qlr hE hS ?_); clear hE a; intro a hE); all_goals (refine wl hE rfl ?_; refine qm hE ?_; clear hE a; intro a hE); all_goals (refine wl hE rfl ?_; (first | refine qi hE hA ?_ | refine qi hE (fun _ => rfl) ?_ | refine qia hE ?_); clear hE a; intro a hE); all_goals (refine wl hE rfl ?_; (first | refine q0i hE hS hT ?_ | refine ql hE hS ?_ | refine qL hE hS ?_ | refine qlr hE hS ?_); clear hE a; intro a hE); all_goals (refine wl hE rfl ?_; refine qm hE ?_; clear hE a; intro a hE); all_goals (refine wl hE rfl ?_; (first | refine qb hE ?_ | refine qb2 hE ?_ | refine qbE hE ?_ | refine qbN hE ?_ | refine qpn hE ?_); clear hE a; intro a hE); all_goals (refine wl hE rfl ?_; refine qm hE ?_; clear hE a; intro a hE); all_goals (first | (refine wl hE rfl ?_; (first | refine qf hE ?_ | refine qFF hE ?_ | refine qF hE ?_); clear hE a; intro a hE) | (refine wl_skip hE rfl rfl rfl ?_; clear hE a; intro a hE) | ((refine wl_splitg hE rfl rfl ?_ ?_) <;> (clear hE; intro hb hE; (first | replace hb := of_decide_eq_true hb | replace hb := of_decide_eq_false hb | (simp only [Bool.not_eq_true', Bool.not_eq_false', decide_eq_true_eq, decide_eq_false_iff_not] at hb) | skip); try (exfalso; first | omega | exact absurd trivial hb | exact absurd rfl hb | (simp only [beq_self_eq_true, bne_self_eq_false, reduceCtorEq] at hb; done))) <;> (first | (refine wl hE rfl ?_; (first | refine qf hE ?_ | refine qFF hE ?_ | refine qF hE ?_); clear hE a; intro a hE) | (refine wl_skip hE rfl rfl rfl ?_; clear hE a; intro a hE)))); all_goals (first | (refine wl hE rfl ?_; (first | refine q0i hE hS hT ?_ | refine ql hE hS ?_ | refine qL hE hS ?_ | refine qlr hE hS ?_); clear hE a; intro a hE) | (refine wl_skip hE rfl rfl rfl ?_; clear hE a; intro a hE)); all_goals (first | (refine wl hE rfl ?_; refine qm hE ?_; clear hE a; intro a hE) | (refine wl_skip hE rfl rfl rfl ?_; clear hE a; intro a hE)); all_goals (first | (refine wl hE rfl ?_; (first | refine qi hE hA ?_ | refine qi hE (fun _ => rfl) ?_ | refine qia hE ?_); clear hE a; intro a hE) | (refine wl_skip hE rfl rfl rfl ?_; clear hE a; intro a hE)); all_goals (first | (refine wl hE rfl ?_; (first | refine q0i hE hS hT ?_ | refine ql hE hS ?_ | refine qL hE hS ?_ | refine qlr hE hS ?_); clear hE a; intro a hE) | (refine wl_skip hE rfl rfl rfl ?_; clear hE a; intro a hE)); all_goals (first | (refine wl hE rfl ?_; (first | refine qb hE ?_ | refine qb2 hE ?_ | refine qbE hE ?_ | refine qbN hE ?_ | refine qpn hE ?_); clear hE a; intro a hE) | (refine wl_skip hE rfl rfl rfl ?_; clear hE a; intro a hE)); all_goals (refine wl hE rfl ?_; (first | refine qpt hE ?_ | refine qpf hE ?_); clear hE a; intro a hE)) | (refine c_regI 8 ?_; all_goals (refine wl hE rfl ?_; refine qa hE ?_; clear hE a; intro a hE)) | (refine c_regI 9 ?_; all_goals (refine wl hE rfl ?_; (first | refine qf hE ?_ | refine qFF hE ?_ | refine qF hE ?_); clear hE a; intro a hE); all_goals (refine wl hE rfl ?_; (first | refine q0i hE hS hT ?_ | refine ql hE hS ?_ | refine qL hE hS ?_ | refine qlr hE hS ?_); clear hE a; intro a hE); all_goals (refine wl hE rfl ?_; refine qm hE ?_; clear hE a; intro a hE); all_goals (refine wl hE rfl ?_; (first | refine qi hE hA ?_ | refine qi hE (fun _ => rfl) ?_ | refine qia hE ?_); clear hE a; intro a hE); all_goals (refine wl hE rfl ?_; (first | refine q0i hE hS hT ?_ | refine ql hE hS ?_ | refine qL hE hS ?_ | refine qlr hE hS ?_); clear hE a; intro a hE); all_goals (refine wl hE rfl ?_; refine qa hE ?_; clear hE a; intro a hE)) | (refine c_regI 6 ?_; all_goals (refine wl hE rfl ?_; refine qm hE ?_; clear hE a; intro a hE); all_goals (refine wl hE rfl ?_; (first | refine qb hE ?_ | refine qb2 hE ?_ | refine qbE hE ?_ | refine qbN hE ?_ | refine qpn hE ?_); clear hE a; intro a hE); all_goals (refine wl hE rfl ?_; refine qa hE ?_; clear hE a; intro a hE)) | (refine c_regI 10 ?_; all_goals (refine wl hE rfl ?_; (first | refine qf hE ?_ | refine qFF hE ?_ | refine qF hE ?_); clear hE a; intro a hE); all_goals (refine wl hE rfl ?_; (first | refine q0i hE hS hT ?_ | refine ql hE hS ?_ | refine qL hE hS ?_ | refine qlr hE hS ?_); clear hE a; intro a hE); all_goals (refine wl hE rfl ?_; (first | refine qb hE ?_ | refine qb2 hE ?_ | refine qbE hE ?_ | refine qbN hE ?_ | refine qpn hE ?_); clear hE a; intro a hE); all_goals (refine wl hE rfl ?_; refine qm hE ?_; clear hE a; intro a hE); all_goals (first | (refine wl hE rfl ?_; (first | refine qf hE ?_ | refine qFF hE ?_ | refine qF hE ?_); clear hE a; intro a hE) | (refine wl_skip hE rfl rfl rfl ?_; clear hE a; intro a hE) | ((refine wl_splitg hE rfl rfl ?_ ?_) <;> (clear hE; intro hb hE; (first | replace hb := of_decide_eq_true hb | replace hb := of_decide_eq_false hb | (simp only [Bool.not_eq_true', Bool.not_eq_false', decide_eq_true_eq, decide_eq_false_iff_not] at hb) | skip); try (exfalso; first | omega | exact absurd trivial hb | exact absurd rfl hb | (simp only [beq_self_eq_true, bne_self_eq_false, reduceCtorEq] at hb; done))) <;> (first | (refine wl hE rfl ?_; (first | refine qf hE ?_ | refine qFF hE ?_ | refine qF hE ?_); clear hE a; intro a hE) | (refine wl_skip hE rfl rfl rfl ?_; clear hE a; intro a hE)))); all_goals (first | (refine wl hE rfl ?_; (first | refine q0i hE hS hT ?_ | refine ql hE hS ?_ | refine qL hE hS ?_ | refine qlr hE hS ?_); clear hE a; intro a hE) | (refine wl_skip hE rfl rfl rfl ?_; clear hE a; intro a hE)); all_goals (first | (refine wl hE rfl ?_; (first | refine qf hE ?_ | refine qFF hE ?_ | refine qF hE ?_); clear hE a; intro a hE) | (refine wl_skip hE rfl rfl rfl ?_; clear hE a; intro a hE)); all_goals (first | (refine wl hE rfl ?_; (first | refine q0i hE hS hT ?_ | refine ql hE hS ?_ | refine qL hE hS ?_ | refine qlr hE hS ?_); clear hE a; intro a hE) | (refine wl_skip hE rfl rfl rfl ?_; clear hE a; intro a hE)); all_goals (first | (refine wl hE rfl ?_; refine is_call 42 rfl ?_; refine qc hE (among_s A c xs _ _ (hR.move hS) hl) ?_; clear hE; clear a; rintro _ a w ⟨rfl, hS1⟩ hE; replace hS := hS.then hS1; clear hS1) | (refine wl_skip hE rfl rfl rfl ?_; clear hE a; intro a hE)); all_goals (refine wl hE rfl ?_; (first | refine qpt hE ?_ | refine qpf hE ?_); clear hE a; intro a hE); all_goals (refine wl hE rfl ?_; refine qa hE ?_; clear hE a; intro a hE)) | refine c_seq ?_ | ((refine c_cond hE rfl ?_ ?_) <;> (intro hb; (first | replace hb := of_decide_eq_true hb | replace hb := of_decide_eq_false hb | (simp only [Bool.not_eq_true', Bool.not_eq_false', decide_eq_true_eq, decide_eq_false_iff_not] at hb) | skip); try (exfalso; first | omega | exact absurd trivial hb | exact absurd rfl hb | (simp only [beq_self_eq_true, bne_self_eq_false, reduceCtorEq] at hb; done)))))
  · exact p_ret hE rfl rfl ⟨_, rfl, by rw [rightP_no (by assumption) (okTo.not h0 (by assumption) (by omega))], hS.clean⟩
  · exact p_ret hE rfl rfl ⟨_, rfl, by rw [rightP_no (by assumption) (okTo.not h0 (by assumption) (by omega))], hS.clean⟩
  · refine ⟨_, by omega, i + 1, by omega, by omega, rfl, hk.step h0 (by omega) (by omega) (by omega), _, (lastOf.step xs h0).symm, hE.cut ⟨rfl, rfl, rfl, trivial⟩, hS⟩
  · exact p_ret hE rfl rfl ⟨_, rfl, by rw [rightP_yes (by assumption) (hk.all (by assumption))]; simp_all, hS.clean⟩
  · exact p_ret hE rfl rfl ⟨_, rfl, by rw [rightP_yes (by assumption) (hk.all (by assumption))]; simp_all, hS.clean⟩
end Go.Proofs.Ytdgpjkddpbiieaa
/- DERIVED. Contracts of layer 16: bounds, ports for the fixed calls, lists of ports. No condition. -/
namespace Go.Proofs.Ytdgpjkddpbiieaa
open Go.RowKit Go.Sx Go.Proofs.YtdgpjkddpbiieaaTy
set_option linter.unusedVariables false
set_option linter.unusedSimpArgs false
set_option maxRecDepth 100000
attribute [local irreducible] Oper.wp Code.wp wpList wpAnyH Calls bodyPost Exit.then Exit.inBlock Code.rounds
set_option maxHeartbeats 1000000
theorem bound_s (tr : Bool) (pv : Int) (A : Option Addr) (c : Nat) (xs : List Int) (w0 : World) (hR : Rd w0 A (ints xs)) (hl : xs.length ≤ 9223372036854775807) (hc : xs.length ≤ c) : Calls Try.prog 19 #[.agg #[.bool tr, .int .i64 pv, .slice A xs.length c]] w0 fun e w' => ∃ r, e = .returned r ∧ ∃ A' c', r = .agg #[.bool tr, .int .i64 pv, .slice A' (xs.take 12).length c'] ∧ Sep w0 w' [row 3 1 (.slice A' (xs.take 12).length c') (xs.take 12).length (ints (xs.take 12))] := by
  refine enter (args := [.agg #[.bool tr, .int .i64 pv, .slice A xs.length c]]) 14 Try.func19 rfl rfl rfl ?_
  intro a hE hS
  repeat' (first | refine wl_nil ?_ | refine then_n ?_ | refine c_block ?_ | refine c_skip ?_ | refine c_exit ?_ | refine c_ret ?_ | refine then_r ?_ | refine then_e ?_ | refine inb_n ?_ | refine inb_r ?_ | refine inb_e ?_ | refine inb_o rfl ?_ | refine c_cond_t hE rfl ?_ | refine c_cond_f hE rfl ?_ | refine c_rnd ?_ | (refine c_regI 0 ?_; all_goals (refine wl hE rfl ?_; (first | refine qbx hE hS ?_); clear hE hS; clear a; intro g a w hE hS); all_goals (refine wl hE rfl ?_; (first | refine qal hE hS ?_); clear hE hS; clear a; intro g a w hE hS)) | (refine c_regI 1 ?_; all_goals (refine wl hE rfl ?_; (first | refine qbs1 hE hS ?_ | refine qbs hE hS ?_ | refine qbs0 hE hS ?_); clear hE hS; clear a; intro g a w hE hS); all_goals (refine wl hE rfl ?_; (first | refine qf hE ?_ | refine qFF hE ?_ | refine qF hE ?_); clear hE a; intro a hE); all_goals (refine wl hE rfl ?_; (first | refine ql hE hS ?_ | refine qL hE hS ?_ | refine qlr hE hS ?_); clear hE a; intro a hE); all_goals (refine wl hE rfl ?_; (first | refine qf hE ?_ | refine qFF hE ?_ | refine qF hE ?_); clear hE a; intro a hE); all_goals (refine wl hE rfl ?_; (first | refine ql hE hS ?_ | refine qL hE hS ?_ | refine qlr hE hS ?_); clear hE a; intro a hE); all_goals (refine wl hE rfl ?_; (first | refine qn1 hE ?_ | refine qns hE ?_); clear hE a; intro a hE); all_goals (refine wl hE rfl ?_; (first | refine qmin hE ?_ | refine qmax hE ?_); clear hE a; intro a hE); all_goals (refine wl hE rfl ?_; (first | refine qsh (xs.take 12).length hE ?_ | refine qssh hE ?_); clear hE a; intro a hE); all_goals (refine wl hE rfl ?_; first | (refine qap hE hS (news := ints (xs.take 12)) (N := (xs.take 12).length) (ys := ints (xs.take 12)) (ints_take xs 12 ▸ (hR.move hS).take 12) (ints_one _) ?_; clear hE hS; clear a; intro A' c' a w hE hS) | ((first | refine qmin hE ?_ | refine qmax hE ?_); clear hE a; intro a hE)); all_goals (refine wl hE rfl ?_; (first | refine qf hE ?_ | refine qFF hE ?_ | refine qF hE ?_); clear hE a; intro a hE); all_goals (refine wl hE rfl ?_; (first | refine qst0 hE hS ?_ | refine qst hE hS ?_); clear hS; intro w hS)) | (refine c_regI 2 ?_; all_goals (refine wl hE rfl ?_; (first | refine ql hE hS ?_ | refine qL hE hS ?_ | refine qlr hE hS ?_); clear hE a; intro a hE); all_goals (refine wl hE rfl ?_; (first | refine qst0 hE hS ?_ | refine qst hE hS ?_); clear hS; intro w hS)) | refine c_seq ?_ | ((refine c_cond hE rfl ?_ ?_) <;> (intro hb; (first | replace hb := of_decide_eq_true hb | replace hb := of_decide_eq_false hb | (simp only [Bool.not_eq_true', Bool.not_eq_false', decide_eq_true_eq, decide_eq_false_iff_not] at hb) | skip); try (exfalso; first | omega | exact absurd trivial hb | exact absurd rfl hb | (simp only [beq_self_eq_true, bne_self_eq_false, reduceCtorEq] at hb; done)))))
  exact p_ret1 hE rfl (rc hE hS .nil) ⟨_, rfl, A', c', rfl, hS.only⟩
theorem take_step {xs ys : List Int} {i : Int} (h0 : 0 ≤ i) (h1 : i < xs.length) (h2 : i < ys.length) (h : xs.take i.toNat = ys.take i.toNat) (e : xs.getD i.toNat 0 = ys.getD i.toNat 0) : xs.take (i + 1).toNat = ys.take (i + 1).toNat := by
  have hx : i.toNat < xs.length := by omega
  have hy : i.toNat < ys.length := by omega
  rw [show (i + 1).toNat = i.toNat + 1 by omega, List.take_succ_eq_append_getElem hx, List.take_succ_eq_append_getElem hy, h]
  simp only [List.getD_eq_getElem?_getD, List.getElem?_eq_getElem hx, List.getElem?_eq_getElem hy, Option.getD_some] at e
  rw [e]
end Go.Proofs.Ytdgpjkddpbiieaa
/- DERIVED. Walks inside a fence, for ranges over a function: the code's rules, an iterator's call of yield. No condition. -/
namespace Go.Sx
open Go.RowKit
set_option linter.unusedVariables false
set_option linter.unusedSimpArgs false
/-- A fence that lets all in. -/
structure Wide (F : Fence) (P : Program) : Prop where
  fn : ∀ f, F.fn f
  depth : F.depth = none
  calls : ∀ (n : Nat) (f : FuncId) (args : Array Value) (w : World) (R : Ending → World → Prop), Calls P f args w R → CallsIn F n P f args w R
  rows : ∀ (n : Nat) (row : String) (args : Array Value) (w : World) (R : Value → World → Prop), Rows P row args w R → RowsIn F n P row args w R
theorem Wide.deep {F : Fence} {P : Program} (W : Wide F P) {q : Prop} : F.depth.isSome = true → q := fun h => by
  rw [W.depth] at h
  cases h
theorem wide_wide (P : Program) : Wide Fence.wide P := ⟨fun _ => trivial, rfl, fun _ _ _ _ _ h => callsIn_wide.2 h, fun n row args w R h c cs _ => by
  obtain ⟨v, w', r, s⟩ := h c cs
  exact ⟨v, w', r, stepsIn_wide.2 s⟩⟩
theorem wide_round (P : Program) (l : Nat) : Wide (Fence.wide.inRound l) P := ⟨fun _ => trivial, rfl, fun n f args w R h => CallsIn.inRound l (callsIn_wide.2 h), fun n row args w R h => (wide_wide P).rows n row args w R h⟩
section
variable {F : Fence} {m : Nat} {P : Program} {ops : Array Oper} {rest : List Oper} {o : Oper} {a : Act} {w w0 : World} {Q : Exit → Act → World → Prop} {n : Nat} {env : List (Nat × Value)} {L : List Asn} {K : Act → World → Prop}
theorem semAt_any (hr : ∀ c, o.op ≠ .defer c) (ρ : Operand → Value) : o.semAt F.round ρ = execOp ρ o := by
  cases F.round with
  | none => rfl
  | some l => exact Oper.semAt_some l ρ o hr
theorem oi (W : Wide F P) (hr : ∀ c, o.op ≠ .defer c) (h : o.wp P a w K Q) : o.wpIn F m P a w K Q := by
  refine ⟨fun f _ => W.fn f, ?_⟩
  rw [semAt_any hr]
  unfold Oper.wp at h
  revert h
  generalize (execOp a.eval o).run P w = r
  intro h
  unfold Oper.upon at h
  unfold Oper.uponIn
  split at h <;> first | exact h | exact h.elim | (exact ⟨W.deep, W.calls _ _ _ _ _ h⟩) | (exact ⟨W.deep, W.rows _ _ _ _ _ h⟩)
/-- An operation of a list. -/
theorem wli (W : Wide F P) (hE : Env a n env) (hg : guardIs ops env o = some true) (hr : ∀ c, o.op ≠ .defer c) (h : o.wp P a w (wpListIn F m P ops Q rest) Q) : wpListIn F m P ops Q (o :: rest) a w := by
  show (if Region.wanted o (yielded ops a.tmps) then o.wpIn F m P a w (wpListIn F m P ops Q rest) Q else _)
  rw [if_pos (hE.guard hg)]
  exact oi W hr h
theorem wli_skip (W : Wide F P) (hE : Env a n env) (hg : guardIs ops env o = some false) {d : Tmp} (hd : o.dst = some d) (hlt : Nat.blt d n = true) (k : ∀ a', Env a' n ((d, undef) :: env) → wpListIn F m P ops Q rest a' w) : wpListIn F m P ops Q (o :: rest) a w := by
  show (if Region.wanted o (yielded ops a.tmps) then o.wpIn F m P a w (wpListIn F m P ops Q rest) Q else _)
  rw [if_neg (by rw [hE.guard hg]; simp)]
  exact ⟨fun f _ => W.fn f, k _ (hE.putS _ hd hlt)⟩
theorem wli_split {l : List Oper} (hE : Env a n env) (t : Nat) {b : Bool} (hf : find env t = some (.bool b))
    (ht : b = true → Env a n ((t, .bool true) :: env) → wpListIn F m P ops Q l a w) (hn : b = false → Env a n ((t, .bool false) :: env) → wpListIn F m P ops Q l a w) : wpListIn F m P ops Q l a w := by
  cases b with
  | true => exact ht rfl (hE.know hf rfl)
  | false => exact hn rfl (hE.know hf rfl)
theorem wli_splitg {rest : List Oper} (hE : Env a n env) {t : Nat} (hg : (o.guard.bind fun p => (ops[p.1]?).bind (·.dst)) = some t) {b : Bool} (hf : find env t = some (.bool b))
    (ht : b = true → Env a n ((t, .bool true) :: env) → wpListIn F m P ops Q (o :: rest) a w) (hn : b = false → Env a n ((t, .bool false) :: env) → wpListIn F m P ops Q (o :: rest) a w) : wpListIn F m P ops Q (o :: rest) a w :=
  wli_split hE t hf ht hn
/-- The call of yield. -/
theorem wli_yield (W : Wide F P) (hE : Env a n env) (hg : guardIs ops env o = some true) {l : Nat} {x : Operand} {ars : Array Operand} {ts : Array TypeId} {vs : List Value} {R : Ending → World → Prop} (ho : o.op = .call { callee := .value x, args := ars, argTypes := ts })
    (hx : opv env x = some (.func (.yield l) #[] #[])) (ha : argsOf env ars.toList = some vs) (hy : YieldAt F (m - 1) P l vs.toArray w R) {d : Tmp} (hd : o.dst = some d) (hlt : Nat.blt d n = true)
    (k : ∀ e a' w', R e w' → ∃ v, e = .returned v ∧ (Env a' n ((d, v) :: env) → wpListIn F m P ops Q rest a' w')) : wpListIn F m P ops Q (o :: rest) a w := by
  show (if Region.wanted o (yielded ops a.tmps) then o.wpIn F m P a w (wpListIn F m P ops Q rest) Q else _)
  rw [if_pos (hE.guard hg)]
  refine ⟨fun f _ => W.fn f, ?_⟩
  rw [semAt_any (by rw [ho]; intro c h; cases h)]
  obtain ⟨fn, tmps, assign, body, hr, hR⟩ := hy
  have hm : ars.map a.eval = vs.toArray := by
    have := hE.args ha
    apply Array.toList_inj.1
    simpa using this
  have hrun : (execOp a.eval o).run P w = .ok (.round l fn tmps assign body) w := by
    simp [execOp, ho, resolve, hm, hE.eval hx, Deferred.ofValue, invoke, hr]
  rw [hrun]
  refine ⟨W.deep, hR.mono fun e w' h => ?_⟩
  cases e with
  | returned u =>
    obtain ⟨v, hv, hk⟩ := k _ (a.put o.dst u) w' h
    cases hv
    exact hk (hE.putS u hd hlt)
  | panicked ch =>
    obtain ⟨v, hv, _⟩ := k _ a w' h
    cases hv
  | outgrown =>
    obtain ⟨v, hv, _⟩ := k _ a w' h
    cases hv
/-- A function value. -/
theorem qmf {f : FuncId} {A B : Array Operand} {va vb : List Value} {d : Tmp} (hE : Env a n env) (k : ∀ a', Env a' n ((d, .func (.func f) va.toArray vb.toArray) :: env) → K a' w) (ho : o.op = .makeFunc (.func f) A B := by exact rfl) (ha : argsOf env A.toList = some va := by exact rfl) (hb : argsOf env B.toList = some vb := by exact rfl) (hd : o.dst = some d := by exact rfl) (hlt : Nat.blt d n = true := by exact rfl) : o.wp P a w K Q := by
  have e1 : A.map a.eval = va.toArray := Array.toList_inj.1 (by simpa using hE.args ha)
  have e2 : B.map a.eval = vb.toArray := Array.toList_inj.1 (by simpa using hE.args hb)
  refine o_makeFunc hE ho e1 e2 ?_ hd hlt k
  rfl
theorem wli_nil (h : Q .normal a w) : wpListIn F m P ops Q [] a w := h
end
section
variable {F : Fence} {m : Nat} {P : Program} {a : Act} {w w0 : World} {Q : Exit → Act → World → Prop} {n : Nat} {env : List (Nat × Value)} {id : Nat}
theorem ci_wide {c : Code} (h : c.wpIn Fence.wide m P Q a w) : c.wp P Q a w := wpIn_wide.1 h
theorem ci_block {c : Code} (h : c.wpIn F m P (Exit.inBlock id Q) a w) : (Code.block id c).wpIn F m P Q a w := wpIn_block h
theorem ci_skip (h : Q .normal a w) : Code.skip.wpIn F m P Q a w := wpIn_skip h
theorem ci_exit (h : Q (.exit id) a w) : (Code.exit id).wpIn F m P Q a w := wpIn_exit h
theorem ci_ret (h : Q .ret a w) : Code.ret.wpIn F m P Q a w := wpIn_ret h
theorem ci_seq {x y : Code} (h : x.wpIn F m P (Exit.then (y.wpIn F m P Q) Q) a w) : (Code.seq x y).wpIn F m P Q a w := wpIn_seq h
theorem ci_reg {l : List Oper} (h : wpListIn F m P l.toArray Q l a w) : (Code.region id l.toArray false).wpIn F m P Q a w := wpIn_region_lit h
theorem ci_regI (id : Nat) {l : List Oper} (h : wpListIn F m P l.toArray Q l a w) : (Code.region id l.toArray false).wpIn F m P Q a w := ci_reg h
theorem ci_cond {c : Operand} {x y : Code} {b : Bool} (hE : Env a n env) (hc : opv env c = some (.bool b)) (ht : b = true → x.wpIn F m P Q a w) (hf : b = false → y.wpIn F m P Q a w) : (Code.cond c x y).wpIn F m P Q a w :=
  wpIn_cond_split (hE.eval hc) ht hf
theorem ci_cond_t {c : Operand} {x y : Code} (hE : Env a n env) (hc : opv env c = some (.bool true)) (h : x.wpIn F m P Q a w) : (Code.cond c x y).wpIn F m P Q a w := wpIn_cond_true (hE.eval hc) h
theorem ci_cond_f {c : Operand} {x y : Code} (hE : Env a n env) (hc : opv env c = some (.bool false)) (h : y.wpIn F m P Q a w) : (Code.cond c x y).wpIn F m P Q a w := wpIn_cond_false (hE.eval hc) h
/-- A loop, by a number that falls. -/
theorem ci_loopN {c : Code} (I : Nat → Act → World → Prop) (k : Nat) (h₀ : I k a w) (round : ∀ k a w, I k a w → c.wpIn F m P (Exit.then (fun a' w' => ∃ k', k' < k ∧ I k' a' w') Q) a w) : (Code.loop c).wpIn F m P Q a w := by
  have least : ∀ (p : Nat → Prop) (k : Nat), p k → ∃ j, p j ∧ ∀ i, p i → j ≤ i := fun p k => by
    induction k using Nat.strongRecOn with
    | ind k ih =>
      intro hk
      by_cases h : ∃ j, j < k ∧ p j
      · obtain ⟨j, hj, hp⟩ := h
        exact ih j hj hp
      · exact ⟨k, hk, fun i hi => by
          rcases Nat.lt_or_ge i k with h1 | h1
          · exact absurd ⟨i, h1, hi⟩ h
          · exact h1⟩
  classical
  have lw : ∀ a w, (∃ k, I k a w) → ∃ j, I j a w ∧ ∀ i, I i a w → j ≤ i := fun a w ⟨k, hk⟩ => least (fun k => I k a w) k hk
  refine wpIn_loop (fun a w => ∃ k, I k a w) (fun a w => if h : ∃ k, I k a w then Classical.choose (lw a w h) else 0) ⟨k, h₀⟩ ?_
  intro a w h
  have hk := Classical.choose_spec (lw a w h)
  refine wpIn_mono (round _ a w hk.1) fun e a' w' hq => ?_
  cases e <;> first | exact hq | skip
  obtain ⟨k', hlt, hI⟩ := hq
  refine ⟨⟨k', hI⟩, ?_⟩
  have h' : ∃ k, I k a' w' := ⟨k', hI⟩
  simp only [dif_pos h, dif_pos h']
  exact Nat.lt_of_le_of_lt ((Classical.choose_spec (lw a' w' h')).2 _ hI) hlt
end
/-! ### what is owned abides what turns no cells -/
def Cellular (A : Asn) : Prop := ∀ w F, A.P w F → ∀ k, F k → ∃ o : Obj, w.heap[k]? = some o ∧ o.isCells = true
theorem blk_cellular (g : Nat) (cs : List Value) (t : TypeId) : Cellular (blk g cs t) := fun w F h k hk => by
  have := (h.2 k).1 hk
  subst this
  exact ⟨_, h.1, rfl⟩
theorem row_cellular (e : TypeId) (sz : Nat) (v : Value) (n : Nat) (xs : List Value) : Cellular (row e sz v n xs) := fun w F h k hk => by
  have hb := (h.2 k).1 hk
  rcases h.1.2 with ⟨rfl, _⟩ | ⟨g, cap, cur, rfl, _, hg, _⟩
  · simp [Value.ownBlock] at hb
  · simp [Value.ownBlock] at hb
    subst hb
    exact ⟨_, hg, rfl⟩
theorem SepL.cellular {w : World} : ∀ {L : List Asn} {F : Foot}, (∀ A ∈ L, Cellular A) → SepL w L F → ∀ k, F k → ∃ o : Obj, w.heap[k]? = some o ∧ o.isCells = true
  | [], F, _, h, k, hk => (h k hk).elim
  | A :: L, F, hc, ⟨F1, F2, hF, _, hA, hL⟩, k, hk => by
    rcases (hF k).1 hk with h1 | h2
    · exact hc A (by simp) w F1 hA k h1
    · exact SepL.cellular (fun B hB => hc B (by simp [hB])) hL k h2
theorem Sep.kept {w0 w w' : World} {L : List Asn} {r : Option Nat} {B : Nat} (h : Sep w0 w L) (hc : ∀ A ∈ L, Cellular A) (hB : w0.heap.size ≤ B) (hg : w.grownBy w' r) (hr : ∀ k, r = some k → B ≤ k ∧ ∃ o : Obj, w.heap[k]? = some o ∧ o.isCells = false) : Sep w0 w' L := by
  obtain ⟨F, hL, hF⟩ := h.own
  have hs : ∀ k, F k → w'.heap[k]? = w.heap[k]? := fun k hk => hg.block k (hF k hk).2 fun e => by
    obtain ⟨_, o, ho, hoc⟩ := hr k e.symm
    obtain ⟨o', ho', hoc'⟩ := hL.cellular hc k hk
    rw [ho] at ho'; cases ho'; rw [hoc] at hoc'; cases hoc'
  refine ⟨⟨hg.os.trans h.below.os, hg.tape.trans h.below.tape, hg.output.trans h.below.output, Nat.le_trans h.below.size hg.size, fun k hk => ?_⟩, F, hL.move hs, fun k hk => ⟨(hF k hk).1, Nat.lt_of_lt_of_le (hF k hk).2 hg.size⟩⟩
  rw [hg.block k (Nat.lt_of_lt_of_le hk h.below.size) fun e => by have := (hr k e.symm).1; omega, h.below.block k hk]
/-- What a walk of one's own made since w: all that lay there lies. -/
theorem Sep.grown {w0 w : World} {L : List Asn} (h : Sep w0 w L) : w0.grownBy w none := ⟨h.below.os, h.below.tape, h.below.output, h.below.size, fun k hk _ => h.below.block k hk⟩
/-- What an iterator asks a round to keep: these blocks. -/
def KeepsB (S : Nat → Prop) (X Y : World) : Prop := X.heap.size ≤ Y.heap.size ∧ ∀ k, S k → Y.heap[k]? = X.heap[k]?
theorem KeepsB.trans {S : Nat → Prop} {X Y Z : World} (h : KeepsB S X Y) (k : KeepsB S Y Z) : KeepsB S X Z := ⟨Nat.le_trans h.1 k.1, fun i hi => (k.2 i hi).trans (h.2 i hi)⟩
theorem KeepsB.cell {S : Nat → Prop} {X Y : World} (h : KeepsB S X Y) {ad : Addr} {v : Value} (hS : S ad.block) (hc : X.cell? ad = some v) : Y.cell? ad = some v := (World.cell?_of_block (h.2 _ hS)).trans hc
end Go.Sx
/- DERIVED. Layer 16: the ports that have a VLAN (a range over a function). No condition. -/
namespace Go.Proofs.Ytdgpjkddpbiieaa
open Go.RowKit Go.Shelf Go.Sx Go.Proofs.YtdgpjkddpbiieaaTy
set_option linter.unusedVariables false
set_option linter.unusedSimpArgs false
set_option maxRecDepth 100000
attribute [local irreducible] Oper.wp Code.wp wpList wpAnyH Calls bodyPost Exit.then Exit.inBlock Code.rounds
set_option maxHeartbeats 1000000
structure Cfg where
  tr : Bool
  pv : Int
  A : Option Addr
  c : Nat
  xs : List Int
def Cfg.cells (x : Cfg) : List Value := [.bool x.tr, .int .i64 x.pv, .slice x.A x.xs.length x.c]
def C0 : Cfg := ⟨false, 0, none, 0, []⟩
theorem clen (x : Cfg) : x.cells.length = 3 := rfl
/-- What can be read of a port. -/
def CfgR (w : World) (x : Cfg) : Prop := Rd w x.A (ints x.xs) ∧ x.xs.length ≤ 9223372036854775807
theorem CfgR.move {w0 w : World} {L : List Asn} {x : Cfg} (h : CfgR w0 x) (hS : Sep w0 w L) : CfgR w x := ⟨h.1.move hS, h.2⟩
def hasC (x : Cfg) (vid : Int) : Bool := hasP x.tr x.pv x.xs vid
/-- The numbers of those that have it, so far. -/
def portsTo (l : List Cfg) (vid : Int) : Nat → List Int
  | 0 => []
  | i + 1 => if hasC (l.getD i C0) vid = true then portsTo l vid i ++ [(i : Int) + 1] else portsTo l vid i
theorem portsTo_len (l : List Cfg) (vid : Int) : ∀ i, (portsTo l vid i).length ≤ i
  | 0 => by simp [portsTo]
  | i + 1 => by
    have := portsTo_len l vid i
    simp only [portsTo]
    split
    · rw [List.length_append, List.length_singleton]; omega
    · omega
theorem getD_memC {l : List Cfg} {i : Nat} (h : i < l.length) : l.getD i C0 ∈ l := by simp [h]
theorem having_s (A : Option Addr) (n c : Nat) (vid : Int) (w0 : World) : Calls Try.prog 75 #[.slice A n c, .int .i64 vid] w0 fun e w' => ∃ r, e = .returned r ∧ ∃ b2 b3, r = .func (.func 87) #[] #[.pointer (some ⟨b2, 0, none⟩), .pointer (some ⟨b3, 0, none⟩)] ∧ Sep w0 w' [blk b3 [.int .i64 vid] 3, blk b2 [.slice A n c] 22] := by
  refine enter (args := [.slice A n c, .int .i64 vid]) 6 Try.func75 rfl rfl rfl ?_
  intro a hE hS
  repeat' (first | refine wl_nil ?_ | refine then_n ?_ | refine c_block ?_ | refine c_skip ?_ | refine c_exit ?_ | refine c_ret ?_ | refine then_r ?_ | refine then_e ?_ | refine inb_n ?_ | refine inb_r ?_ | refine inb_e ?_ | refine inb_o rfl ?_ | refine c_cond_t hE rfl ?_ | refine c_cond_f hE rfl ?_ | refine c_rnd ?_ | (refine c_regI 0 ?_; all_goals (refine wl hE rfl ?_; (first | refine qbx hE hS ?_); clear hE hS; clear a; intro g a w hE hS); all_goals (refine wl hE rfl ?_; (first | refine qbx hE hS ?_); clear hE hS; clear a; intro g a w hE hS); all_goals (refine wl hE rfl ?_; refine qa hE ?_; clear hE a; intro a hE)) | (refine c_regI 1 ?_; all_goals (refine wl hE rfl ?_; refine qmf hE ?_; clear hE; clear a; intro a hE); all_goals (refine wl hE rfl ?_; refine qa hE ?_; clear hE a; intro a hE)) | refine c_seq ?_ | ((refine c_cond hE rfl ?_ ?_) <;> (intro hb; (first | replace hb := of_decide_eq_true hb | replace hb := of_decide_eq_false hb | (simp only [Bool.not_eq_true', Bool.not_eq_false', decide_eq_true_eq, decide_eq_false_iff_not] at hb) | skip); try (exfalso; first | omega | exact absurd trivial hb | exact absurd rfl hb | (simp only [beq_self_eq_true, bne_self_eq_false, reduceCtorEq] at hb; done)))))
  exact p_ret hE rfl rfl ⟨_, rfl, _, _, rfl, hS⟩
end Go.Proofs.Ytdgpjkddpbiieaa
/- DERIVED. Layer 16: the ports that have a VLAN: the iterator and its caller. No condition. -/
namespace Go.Proofs.Ytdgpjkddpbiieaa
open Go.RowKit Go.Shelf Go.Sx Go.Proofs.YtdgpjkddpbiieaaTy
set_option linter.unusedVariables false
set_option linter.unusedSimpArgs false
set_option maxRecDepth 100000
attribute [local irreducible] Oper.wp Code.wp wpList wpAnyH Calls bodyPost Exit.then Exit.inBlock Code.rounds
set_option maxHeartbeats 1000000
/-- What the iterator asks a round to keep. -/
def KpB (n0 b3 : Nat) (X Y : World) : Prop := Below n0 X Y ∧ Y.heap[b3]? = X.heap[b3]?
theorem KpB.trans {n0 b3 : Nat} {X Y Z : World} (h : KpB n0 b3 X Y) (k : KpB n0 b3 Y Z) : KpB n0 b3 X Z := ⟨h.1.trans k.1, k.2.trans h.2⟩
theorem sep_of_below {w0 w : World} (h : Below w0.heap.size w0 w) : Sep w0 w [] := ⟨h, fun _ => False, fun _ h => h, fun _ h => h.elim⟩
theorem having1_stops (b2 b3 : Nat) (A : Option Addr) (c : Nat) (l : List Cfg) (vid : Int) (w00 w : World) (hw : Below w00.heap.size w00 w) (hn0 : w00.heap.size ≤ w.heap.size)
    (h2 : w.heap[b2]? = some (.cells #[.slice A l.length c] 22 (0, 0))) (h3 : w.heap[b3]? = some (.cells #[.int .i64 vid] 3 (0, 0)))
    (hR : Rd w00 A (l.flatMap Cfg.cells)) (hX : ∀ x ∈ l, CfgR w00 x) (hl : l.length ≤ 1073741824) (n : Nat) :
    SeqStopsK Fence.wide n Try.prog 87 #[.pointer (some ⟨b2, 0, none⟩), .pointer (some ⟨b3, 0, none⟩)] (fun x : Int => #[Value.int .i64 x]) (KpB w00.heap.size b3) (fun ys => ys = portsTo l vid l.length) (fun _ => True) l.length w := by
  intro id J Jx W hW hJ hJx hY h0
  have hW0 : Below w00.heap.size w00 W := hw.trans (hW.mono hn0)
  have h2' : W.heap[b2]? = some (.cells #[.slice A l.length c] 22 (0, 0)) := (hW.block b2 (Array.getElem?_eq_some_iff.1 h2).1).trans h2
  have h3' : W.heap[b3]? = some (.cells #[.int .i64 vid] 3 (0, 0)) := (hW.block b3 (Array.getElem?_eq_some_iff.1 h3).1).trans h3
  have hT2 : At W ⟨b2, 0, none⟩ [.slice A l.length c] := at_blk (off := 0) h2'
  refine callsIn_wide.2 (enter (args := [.func (.yield id) #[] #[], .pointer (some ⟨b2, 0, none⟩), .pointer (some ⟨b3, 0, none⟩)]) 24 Try.func87 rfl rfl rfl ?_)
  intro a hE hS
  refine ci_wide (m := n) ?_
  have hWd := wide_wide Try.prog
  have hA : (0 : Int) < l.length → A = some (adr A) := fun h => hR.some (by rw [flat_len clen]; omega)
  have hW := hWd
  repeat' (first | (refine ci_regI 0 ?_; all_goals (refine wli hW hE rfl (by intro c h; cases h) ?_; (first | refine q0 hE hS hT2 ?_ | refine ql hE hS ?_ | refine qL hE hS ?_ | refine qlr hE hS ?_); clear hE a; intro a hE); all_goals (refine wli hW hE rfl (by intro c h; cases h) ?_; (first | refine qn1 hE ?_ | refine qns hE ?_); clear hE a; intro a hE); all_goals (refine wli hW hE rfl (by intro c h; cases h) ?_; refine qm hE ?_; clear hE a; intro a hE)) | (refine wli hW hE rfl (by intro c h; cases h) ?_; first | ((first | refine qm hE ?_ | refine qa hE ?_ | refine qb hE ?_ | refine qFF hE ?_ | refine qf hE ?_ | refine ql hE hS ?_ | refine qn hE ?_ | refine qe hE ?_ | refine qpt hE ?_ | refine qpf hE ?_ | refine qu hE ?_ | refine qn1 hE ?_ | refine qns hE ?_ | refine qL hE hS ?_ | refine qbu hE ?_ | refine qF hE ?_ | refine qnf hE ?_ | refine qmin hE ?_ | refine qmax hE ?_ | refine qssh hE ?_ | refine qix1 hE ?_ | refine qix hE ?_ | refine qia hE ?_ | refine qbA hE ?_ | refine qbE hE ?_ | refine qbN hE ?_ | refine qcv hE ?_ | refine qfd1 hE ?_ | refine qfd hE ?_ | refine qi hE (fun _ => rfl) ?_ | refine qlr hE hS ?_ | refine qb2 hE ?_ | refine qng hE ?_ | refine qpn hE ?_ | refine q0 hE hS hT2 ?_); clear hE a; intro a hE) | ((first | refine qst0 hE hS ?_ | refine qst hE hS ?_); clear hS; intro w hS) | ((first | refine qal hE hS ?_ | refine qbx hE hS ?_ | refine qbs1 hE hS ?_ | refine qbs hE hS ?_ | refine qbs0 hE hS ?_); clear hE hS; clear a; intro g a w hE hS)) | refine ci_reg ?_ | refine wli_nil ?_ | refine then_n ?_ | refine ci_block ?_ | refine ci_skip ?_ | refine ci_exit ?_ | refine ci_ret ?_ | refine then_r ?_ | refine then_e ?_ | refine inb_n ?_ | refine inb_r ?_ | refine inb_e ?_ | refine inb_o rfl ?_ | refine ci_cond_t hE rfl ?_ | refine ci_cond_f hE rfl ?_ | refine ci_seq ?_ | (refine wli_skip hW hE rfl rfl rfl ?_; clear hE a; intro a hE) | ((refine wli_splitg hE rfl rfl ?_ ?_) <;> (clear hE; intro hb hE; (first | replace hb := of_decide_eq_true hb | replace hb := of_decide_eq_false hb | (simp only [Bool.not_eq_true', Bool.not_eq_false', decide_eq_true_eq, decide_eq_false_iff_not] at hb) | skip); try (exfalso; first | omega | exact absurd trivial hb | exact absurd rfl hb | (simp only [beq_self_eq_true, bne_self_eq_false, reduceCtorEq] at hb; done)))) | ((refine ci_cond hE rfl ?_ ?_) <;> (intro hb; (first | replace hb := of_decide_eq_true hb | replace hb := of_decide_eq_false hb | (simp only [Bool.not_eq_true', Bool.not_eq_false', decide_eq_true_eq, decide_eq_false_iff_not] at hb) | skip); try (exfalso; first | omega | exact absurd trivial hb | exact absurd rfl hb | (simp only [beq_self_eq_true, bne_self_eq_false, reduceCtorEq] at hb; done)))))
  refine ci_loopN (fun m a w => ∃ i : Int, 0 ≤ i ∧ i ≤ l.length ∧ m = (l.length - i).toNat ∧ Env a 24 [(0, .func (.yield id) #[] #[]), (2, .pointer (some ⟨b3, 0, none⟩)), (6, .slice A l.length c), (7, .int .i64 l.length), (8, .int .i64 i)] ∧ Below w00.heap.size w00 w ∧ w.heap[b3]? = some (.cells #[.int .i64 vid] 3 (0, 0)) ∧ J (portsTo l vid i.toNat) w ∧ W.heap.size ≤ w.heap.size) _ ⟨0, by omega, by omega, rfl, hE.cut ⟨rfl, rfl, rfl, rfl, rfl, trivial⟩, hW0.trans (hS.below.mono hW0.size), (hS.below.block b3 (Array.getElem?_eq_some_iff.1 h3').1).trans h3', hJ _ _ _ none h0 hS.grown (fun r e => by cases e), hS.below.size⟩ ?_
  clear hE hS a
  rintro m a wr ⟨i, hi0, hi1, rfl, hE, hB, h3r, hJr, hsz⟩
  have hS := Sep.nil wr
  obtain ⟨x, hx⟩ : ∃ x, l.getD i.toNat C0 = x := ⟨_, rfl⟩
  have hT : At wr (adr A) (l.flatMap Cfg.cells) := (hR.move (sep_of_below hB)).at_
  have hT3 : At wr ⟨b3, 0, none⟩ [.int .i64 vid] := at_blk (off := 0) h3r
  have hxR : ∀ _ : Unit, i < l.length → CfgR wr x := fun _ h => CfgR.move (hX x (hx ▸ getD_memC (by omega))) (sep_of_below hB)
  have hpl := portsTo_len l vid i.toNat
  have hst : portsTo l vid (i + 1).toNat = if hasP x.tr x.pv x.xs vid = true then portsTo l vid i.toNat ++ [i + 1] else portsTo l vid i.toNat := by
    rw [show (i + 1).toNat = i.toNat + 1 by omega, portsTo, hx, hasC, Int.toNat_of_nonneg hi0]
  obtain ⟨w, hwr⟩ : ∃ w, w = wr := ⟨_, rfl⟩
  have hS' : Sep wr w [] := hwr ▸ hS
  clear hS
  have hS := hS'
  clear hS'
  rw [← hwr]
  clear hwr
  repeat' (first | (refine ci_regI 1 ?_; all_goals (refine wli hW hE rfl (by intro c h; cases h) ?_; (first | refine qb hE ?_ | refine qb2 hE ?_ | refine qbE hE ?_ | refine qbN hE ?_ | refine qpn hE ?_); clear hE a; intro a hE)) | (refine ci_regI 2 ?_; all_goals (refine wli hW hE rfl (by intro c h; cases h) ?_; refine qm hE ?_; clear hE a; intro a hE); all_goals (refine wli hW hE rfl (by intro c h; cases h) ?_; (first | refine qi hE hA ?_ | refine qi hE (fun _ => rfl) ?_ | refine qia hE ?_); clear hE a; intro a hE); all_goals (refine wli hW hE rfl (by intro c h; cases h) ?_; (first | refine qLs (i := i) (us := x.cells) (df := C0) hE hS clen hT (by rw [hx]) ?_ | refine q0 hE hS hT3 ?_ | refine ql hE hS ?_ | refine qL hE hS ?_ | refine qlr hE hS ?_); clear hE a; intro a hE); all_goals (refine wli hW hE rfl (by intro c h; cases h) ?_; (first | refine qal hE hS ?_); clear hE hS; clear a; intro g a w hE hS); all_goals (refine wli hW hE rfl (by intro c h; cases h) ?_; refine qa hE ?_; clear hE a; intro a hE); all_goals (refine wli hW hE rfl (by intro c h; cases h) ?_; (first | refine qst0 hE hS ?_ | refine qst hE hS ?_); clear hS; intro w hS)) | (refine ci_regI 4 ?_; all_goals (refine wli hW hE rfl (by intro c h; cases h) ?_; (first | refine qb hE ?_ | refine qb2 hE ?_ | refine qbE hE ?_ | refine qbN hE ?_ | refine qpn hE ?_); clear hE a; intro a hE); all_goals (refine wli hW hE rfl (by intro c h; cases h) ?_; refine qm hE ?_; clear hE a; intro a hE)) | (refine wli hW hE rfl (by intro c h; cases h) ?_; first | ((first | refine qm hE ?_ | refine qa hE ?_ | refine qb hE ?_ | refine qFF hE ?_ | refine qf hE ?_ | refine ql hE hS ?_ | refine qn hE ?_ | refine qe hE ?_ | refine qpt hE ?_ | refine qpf hE ?_ | refine qu hE ?_ | refine qn1 hE ?_ | refine qns hE ?_ | refine qL hE hS ?_ | refine qbu hE ?_ | refine qF hE ?_ | refine qnf hE ?_ | refine qmin hE ?_ | refine qmax hE ?_ | refine qssh hE ?_ | refine qix1 hE ?_ | refine qix hE ?_ | refine qia hE ?_ | refine qbA hE ?_ | refine qbE hE ?_ | refine qbN hE ?_ | refine qcv hE ?_ | refine qfd1 hE ?_ | refine qfd hE ?_ | refine qi hE (fun _ => rfl) ?_ | refine qlr hE hS ?_ | refine qb2 hE ?_ | refine qng hE ?_ | refine qpn hE ?_ | refine qi hE hA ?_ | refine qLs (i := i) (us := x.cells) (df := C0) hE hS clen hT (by rw [hx]) ?_ | refine q0 hE hS hT3 ?_); clear hE a; intro a hE) | ((first | refine qst0 hE hS ?_ | refine qst hE hS ?_); clear hS; intro w hS) | ((first | refine qal hE hS ?_ | refine qbx hE hS ?_ | refine qbs1 hE hS ?_ | refine qbs hE hS ?_ | refine qbs0 hE hS ?_); clear hE hS; clear a; intro g a w hE hS) | (refine is_call 47 rfl ?_; refine qc hE (has_s x.tr x.pv x.A x.c x.xs vid _ ((hxR () (by omega)).1.move hS) (hxR () (by omega)).2) ?_; clear hE; clear a; rintro _ a w ⟨rfl, hS1⟩ hE; replace hS := hS.then hS1; clear hS1)) | refine ci_reg ?_ | refine wli_nil ?_ | refine then_n ?_ | refine ci_block ?_ | refine ci_skip ?_ | refine ci_exit ?_ | refine ci_ret ?_ | refine then_r ?_ | refine then_e ?_ | refine inb_n ?_ | refine inb_r ?_ | refine inb_e ?_ | refine inb_o rfl ?_ | refine ci_cond_t hE rfl ?_ | refine ci_cond_f hE rfl ?_ | (refine wli_yield hW hE rfl rfl rfl rfl (hY (portsTo l vid i.toNat) (i + 1) _ (hJ _ _ _ none hJr hS.grown (fun r e => by cases e)) (by omega)) rfl rfl ?_; clear hE; rintro e a w2 (⟨rfl, hJ2, hK2⟩ | ⟨rfl, hJx2⟩) <;> (refine ⟨_, rfl, ?_⟩; intro hE)) | refine ci_seq ?_ | (refine wli_skip hW hE rfl rfl rfl ?_; clear hE a; intro a hE) | ((refine wli_splitg hE rfl rfl ?_ ?_) <;> (clear hE; intro hb hE; (first | replace hb := of_decide_eq_true hb | replace hb := of_decide_eq_false hb | (simp only [Bool.not_eq_true', Bool.not_eq_false', decide_eq_true_eq, decide_eq_false_iff_not] at hb) | skip); try (exfalso; first | omega | exact absurd trivial hb | exact absurd rfl hb | (simp only [beq_self_eq_true, bne_self_eq_false, reduceCtorEq] at hb; done)))) | ((refine ci_cond hE rfl ?_ ?_) <;> (intro hb; (first | replace hb := of_decide_eq_true hb | replace hb := of_decide_eq_false hb | (simp only [Bool.not_eq_true', Bool.not_eq_false', decide_eq_true_eq, decide_eq_false_iff_not] at hb) | skip); try (exfalso; first | omega | exact absurd trivial hb | exact absurd rfl hb | (simp only [beq_self_eq_true, bne_self_eq_false, reduceCtorEq] at hb; done)))))
  · have s1 := hS.below.size
    have s2 := hK2.1.size
    exact ⟨_, by omega, i + 1, by omega, by omega, rfl, hE.cut ⟨rfl, rfl, rfl, rfl, rfl, trivial⟩, (hB.trans (hS.below.mono hB.size)).trans hK2.1, hK2.2.trans ((hS.below.block b3 (Array.getElem?_eq_some_iff.1 h3r).1).trans h3r), by rw [hst, if_pos hb]; exact hJ2, by omega⟩
  · exact p_none hE rfl ⟨⟨_, rfl⟩, .inr ⟨_, trivial, hJx2⟩⟩
  · have s1 := hS.below.size
    exact ⟨_, by omega, i + 1, by omega, by omega, rfl, hE.cut ⟨rfl, rfl, rfl, rfl, rfl, trivial⟩, hB.trans (hS.below.mono hB.size), (hS.below.block b3 (Array.getElem?_eq_some_iff.1 h3r).1).trans h3r, by rw [hst, if_neg (by rw [hb]; decide)]; exact hJ _ _ _ none hJr hS.grown (fun r e => by cases e), by omega⟩
  · refine p_end hE rfl ⟨⟨_, rfl⟩, .inl ⟨_, rfl, ?_⟩⟩
    rw [show l.length = i.toNat by omega]
    exact hJ _ _ _ none hJr hS.grown (fun r e => by cases e)
theorem infoInt : (Try.prog.info? 3).map (fun i => (i.zero, i.size, i.bytes)) = some (some (.int .i64 0), 1, 8) := by kernel_rfl
theorem row_of_owns {w : World} {b : Nat} {e : TypeId} {sz : Nat} {v : Value} {n : Nat} {xs : List Value} (h : w.ownsRow b e sz v n xs) : oRow w 0 e sz v n xs := by
  refine ⟨h.1, ?_⟩
  rcases h.2 with h2 | ⟨g, cap, cur, h3, h4, h5, h6, h7, h8, h9⟩
  · exact .inl h2
  · exact .inr ⟨g, cap, cur, h3, Nat.zero_le _, h5, h6, by first | exact h7 | omega, by first | exact Nat.le_of_eq h8.symm | omega, h9⟩
attribute [local go_sem] Oper.semAt_some
theorem ports_s (A : Option Addr) (c : Nat) (l : List Cfg) (vid : Int) (w : World) (hR : Rd w A (l.flatMap Cfg.cells)) (hX : ∀ x ∈ l, CfgR w x) (hl : l.length ≤ 1073741824) :
    Calls Try.prog 59 #[.slice A l.length c, .int .i64 vid] w fun e w' => ∃ r, e = .returned r ∧ ∃ A' n' c', r = .slice A' n' c' ∧ n' = (portsTo l vid l.length).length ∧ Sep w w' [row 3 1 (.slice A' n' c') n' (ints (portsTo l vid l.length))] := by
  obtain ⟨i0, hi, hz0, hz1, hz2⟩ := info_parts infoInt
  refine callsIn_wide.1 (callsIn_of_wp_marks (F := Fence.wide) (n := 3) Try.func59 rfl trivial ?_ rfl)
  simp only [Try.ntmps59, List.size_toArray, List.length_cons, List.length_nil, Nat.reduceAdd, Nat.reduceSub, Array.replicate_succ, Array.replicate_zero, List.push_toArray, List.append_toArray, List.nil_append, List.cons_append]
  gi_wp2_with (refine ⟨trivial, (callsIn_wide.2 (having_s A l.length c vid _)).mono ?_⟩; rintro e w' ⟨_, rfl, b2, b3, rfl, hS⟩)
  have hBw : Below w.heap.size w w' := ((Below.refl w.heap.size w).alloc (Nat.le_refl _) _).trans (hS.below.mono (by simp))
  have bO : Boxed w' w.heap.size 34 (.slice none 0 0) := (hS.below.block w.heap.size (by simp)).trans (World.alloc_heap_new w _)
  have h3 : Boxed w' b3 3 (.int .i64 vid) := hS.blk_at .here
  have h2 : w'.heap[b2]? = some (.cells #[.slice A l.length c] 22 (0, 0)) := hS.blk_at (.there .here)
  have hne : w.heap.size ≠ b3 := fun e => by
    have a1 : w'.heap[w.heap.size]? = some (.cells #[.slice none 0 0] 34 (0, 0)) := bO
    have a2 : w'.heap[b3]? = some (.cells #[.int .i64 vid] 3 (0, 0)) := h3
    rw [← e, a1] at a2
    cases a2
  have hlw : w.heap.size ≤ w'.heap.size := hBw.size
  have hlt : w.heap.size < w'.heap.size := bO.lt
  refine wpIn_rangeFunc_ownF rfl (by decide) (gf := 87) (lb := #[.pointer (some ⟨b2, 0, none⟩), .pointer (some ⟨b3, 0, none⟩)]) rfl trivial (enters_of Try.func87 (by kernel_rfl) rfl)
    (having1_stops b2 b3 A c l vid w w' hBw hlw h2 h3 hR hX hl 2) KpB.trans
    (fun W q o o' hq ho hc hw => ⟨belowK_b (w := w') hlw W q o o' hq ho hc hw, (grownBy_putObj' W q o').block b3 (by
      rcases Nat.lt_or_ge b3 W.heap.size with h | h
      · exact h
      · have := (Array.getElem?_eq_some_iff.1 ho).1; have := h3.lt; omega) (fun e => by cases e; have := h3.lt; omega)⟩)
    (Below.refl _ _) (fun _ => rfl)
    (fun pre W => (∃ v, Boxed W w.heap.size 34 v ∧ W.ownsRow w.heap.size 3 1 v pre.length (ints pre) ∧ v.ownBlock ≠ some b3) ∧ Below w.heap.size w W ∧ Boxed W b3 3 (.int .i64 vid))
    (fun _ _ _ => False)
    (OwnFrom.and (Own.from (holdsRow_own w.heap.size w.heap.size 34 3 1 (fun pre => pre.length) (fun pre => ints pre) (fun pre v => v.ownBlock ≠ some b3)) _) (OwnFrom.and (ownFrom_below (Nat.le_refl _) hlw) (Own.from (boxed_own b3 3 (fun _ => .int .i64 vid)) _)))
    (fun _ _ _ _ _ hs _ _ => hs)
    ⟨⟨_, bO, World.ownsRow_nil _ _ _ _, by simp [Value.ownBlock]⟩, hBw, h3⟩
    (fun x => { tmps := #[.slice A l.length c, .int .i64 vid, undef, undef, .slice none 0 0, .pointer (some ⟨w.heap.size, 0, none⟩), .int .i64 x, .slice A l.length c, .int .i64 vid, .func (.func 87) #[] #[.pointer (some ⟨b2, 0, none⟩), .pointer (some ⟨b3, 0, none⟩)], .int .i64 x, undef, undef, undef, undef, undef], defers := [] }) ?assign ?body ?done ?stop
  case assign =>
    intro q x W K hK
    gi_wp2
    exact hK
  case body =>
    rintro q pre x W ⟨⟨v, hv, hrow, hnb⟩, hB, hb3⟩ hlen
    have hc := hv.cell
    gi_wp2_with (gi_at_builtin; refine wpListIn_append_own_at _ rfl _ _ 34 rfl w.heap.size 3 i0 (.int .i64 0) 1 8 (show Try.prog.underlying 34 = some (.slice 3) by kernel_rfl) hi hz0 hz1 hz2 rfl (by decide) _ _ _ rfl (hrow.alloc _) ⟨W.heap.size, 0, none⟩ 1 1 [.int .i64 x] rfl rfl (cell_one_new _ _ _) (by simp [Value.oneCell']) (by unfold maxLen; omega) (by omega) (by have := hB.size; simp; omega) ?_; intro v' w1 hown' hgrow _ hat; obtain ⟨g', cap', rfl⟩ := ownsRow_succ hown'; obtain ⟨hv1, hv2, hr2, hk2, hb2⟩ := hv.appended (by decide) hrow hB.size (Nat.le_refl _) hown' hgrow; have hc1 := hv1.cell; have hf1 := hv1.frozen)
    have e1 : (pre ++ [x]).length = pre.length + 1 := by simp
    have e2 : ints (pre ++ [x]) = ints pre ++ [.int .i64 x] := by simp [ints]
    have hb3l := hb3.lt
    have hk3 : (w1.setCell ⟨w.heap.size, 0, none⟩ (.slice (some ⟨g', 0, none⟩) (pre.length + 1) cap')).heap[b3]? = W.heap[b3]? := by
      rw [Below.heap_setCell w1 ⟨w.heap.size, 0, none⟩ _ b3 (fun e => hne e.symm), hgrow.block b3 (by rw [World.size_alloc]; omega) (fun e => hnb e.symm)]
      exact Below.heap_alloc W _ b3 hb3l
    refine ⟨hk2, ⟨hb2, hk3⟩, ⟨_, hv2, by rw [e1, e2]; exact hr2, ?_⟩, hB.trans hb2, hk3.trans hb3⟩
    intro e
    rcases hat with h | h
    · exact hnb (h.symm.trans e)
    · rw [h, World.size_alloc] at e
      cases e
      omega
  case done =>
    rintro D ys W hD rfl ⟨⟨v, hv, hrow, hnb⟩, hB, hb3⟩ hK
    have hc := hv.cell
    gi_wp2
    refine ⟨by simp, .inl ⟨_, _, rfl, run_takeDeferred hK, ?_⟩⟩
    have hcell : ∀ r : Nat, v.ownBlock = some r → ∃ o : Obj, W.heap[r]? = some o ∧ o.isCells = true := fun r hr => by
      rcases hrow.2 with ⟨rfl, _⟩ | ⟨g, cap, cur, rfl, _, hg, _⟩
      · simp [Value.ownBlock] at hr
      · simp [Value.ownBlock] at hr
        subst hr
        exact ⟨_, hg, rfl⟩
    have hrow2 := ownsRow_putObj hrow (.deferred none) hK rfl
    have hB2 : Below w.heap.size w (W.putObj D (.deferred none)) := hB.trans (belowK_b (w := w') hlw W D _ _ hD hK rfl rfl)
    have hfoot : ∀ k, v.ownBlock = some k → w.heap.size ≤ k ∧ k < (W.putObj D (.deferred none)).heap.size := fun k hk => by
      rcases hrow2.2 with ⟨rfl, _⟩ | ⟨g, cap, cur, rfl, hb, hg, _⟩
      · simp [Value.ownBlock] at hk
      · simp [Value.ownBlock] at hk
        subst hk
        exact ⟨hb, (Array.getElem?_eq_some_iff.1 hg).1⟩
    have hsl : ∃ A' c', v = .slice A' (portsTo l vid l.length).length c' := by
      rcases hrow.2 with ⟨rfl, h⟩ | ⟨g, cap, cur, rfl, _⟩
      · exact ⟨none, 0, by rw [h]⟩
      · exact ⟨_, _, rfl⟩
    obtain ⟨A', c', hsl⟩ := hsl
    refine ⟨v, results_tmp (t := 4) rfl _ _ _, v, rfl, A', _, c', hsl, rfl, ⟨hB2, fun k => v.ownBlock = some k, ⟨fun k => v.ownBlock = some k, fun _ => False, fun k => by simp, fun _ _ h => h, ⟨?_, fun k => by rw [hsl]⟩, fun _ h => h⟩, hfoot⟩⟩
    rw [← hsl]
    exact row_of_owns hrow2
  case stop =>
    rintro D c pre W _ _ h _
    exact h.elim
end Go.Proofs.Ytdgpjkddpbiieaa
/- DERIVED. t. No condition. -/
namespace Go.Proofs.Ytdgpjkddpbiieaa
open Go.RowKit Go.Sx Go.Proofs.YtdgpjkddpbiieaaTy
set_option linter.unusedVariables false
set_option linter.unusedSimpArgs false
set_option maxRecDepth 100000
attribute [local irreducible] Oper.wp Code.wp wpList wpAnyH Calls bodyPost Exit.then Exit.inBlock Code.rounds
set_option maxHeartbeats 1000000
def outR (ok tr : Bool) (vid pv d s t : Int) (b : ByteArray) : Value := if ok = true then .tuple #[if tr = true ∧ vid ≠ pv then .agg #[.int .u64 d, .int .u64 s, .bool true, .int .i64 0, .bool false, .int .i64 vid, .int .i64 t, .string b] else .agg #[.int .u64 d, .int .u64 s, .bool false, .int .i64 0, .bool false, .int .i64 0, .int .i64 t, .string b], .bool true] else .tuple #[.agg #[.int .u64 0, .int .u64 0, .bool false, .int .i64 0, .bool false, .int .i64 0, .int .i64 0, .string ⟨#[]⟩], .bool false]
theorem out_s (tr : Bool) (pv : Int) (A : Option Addr) (c : Nat) (xs : List Int) (vid : Int) (d s : Int) (h : Bool) (p : Int) (dei : Bool) (v t : Int) (b : ByteArray) (w0 : World) (hR : Rd w0 A (ints xs)) (hl : xs.length ≤ 9223372036854775807) : Calls Try.prog 76 #[.agg #[.bool tr, .int .i64 pv, .slice A xs.length c], .int .i64 vid, .agg #[.int .u64 d, .int .u64 s, .bool h, .int .i64 p, .bool dei, .int .i64 v, .int .i64 t, .string b]] w0 fun e w' => ∃ r, e = .returned r ∧ r = outR (hasP tr pv xs vid) tr vid pv d s t b ∧ Sep w0 w' [] := by
  refine enter (args := [.agg #[.bool tr, .int .i64 pv, .slice A xs.length c], .int .i64 vid, .agg #[.int .u64 d, .int .u64 s, .bool h, .int .i64 p, .bool dei, .int .i64 v, .int .i64 t, .string b]]) 29 Try.func76 rfl rfl rfl ?_
  intro a hE hS
  repeat' (first | refine wl_nil ?_ | refine then_n ?_ | refine c_block ?_ | refine c_skip ?_ | refine c_exit ?_ | refine c_ret ?_ | refine then_r ?_ | refine then_e ?_ | refine inb_n ?_ | refine inb_r ?_ | refine inb_e ?_ | refine inb_o rfl ?_ | refine c_cond_t hE rfl ?_ | refine c_cond_f hE rfl ?_ | refine c_rnd ?_ | (refine c_regI 0 ?_; all_goals (refine wl hE rfl ?_; (first | refine qbx hE hS ?_); clear hE hS; clear a; intro g a w hE hS); all_goals (refine wl hE rfl ?_; (first | refine qbx hE hS ?_); clear hE hS; clear a; intro g a w hE hS); all_goals (refine wl hE rfl ?_; (first | refine qal hE hS ?_); clear hE hS; clear a; intro g a w hE hS); all_goals (refine wl hE rfl ?_; refine qa hE ?_; clear hE a; intro a hE)) | (refine c_regI 1 ?_; all_goals (refine wl hE rfl ?_; (first | refine ql hE hS ?_ | refine qL hE hS ?_ | refine qlr hE hS ?_); clear hE a; intro a hE); all_goals (refine wl hE rfl ?_; refine qm hE ?_; clear hE a; intro a hE); all_goals (refine wl hE rfl ?_; refine is_call 47 rfl ?_; refine qc hE (has_s tr pv A c xs _ _ (hR.move hS) hl) ?_; clear hE; clear a; rintro _ a w ⟨rfl, hS1⟩ hE; replace hS := hS.then hS1; clear hS1); all_goals (refine wl hE rfl ?_; (first | refine qu hE ?_ | refine qng hE ?_); clear hE a; intro a hE); all_goals (refine wl hE rfl ?_; refine qa hE ?_; clear hE a; intro a hE)) | (refine c_regI 2 ?_; all_goals (refine wl hE rfl ?_; (first | refine qbu hE ?_ | refine qbA hE ?_); clear hE a; intro a hE); all_goals (refine wl hE rfl ?_; (first | refine qst0 hE hS ?_ | refine qst hE hS ?_); clear hS; intro w hS); all_goals (refine wl hE rfl ?_; refine qa hE ?_; clear hE a; intro a hE)) | (refine c_regI 3 ?_; all_goals (refine wl hE rfl ?_; (first | refine qf hE ?_ | refine qFF hE ?_ | refine qF hE ?_); clear hE a; intro a hE); all_goals (refine wl hE rfl ?_; (first | refine ql hE hS ?_ | refine qL hE hS ?_ | refine qlr hE hS ?_); clear hE a; intro a hE); all_goals (refine wl hE rfl ?_; refine qm hE ?_; clear hE a; intro a hE); all_goals (first | (refine wl hE rfl ?_; refine qm hE ?_; clear hE a; intro a hE) | (refine wl_skip hE rfl rfl rfl ?_; clear hE a; intro a hE) | ((refine wl_splitg hE rfl rfl ?_ ?_) <;> (clear hE; intro hb hE; (first | replace hb := of_decide_eq_true hb | replace hb := of_decide_eq_false hb | (simp only [Bool.not_eq_true', Bool.not_eq_false', decide_eq_true_eq, decide_eq_false_iff_not] at hb) | skip); try (exfalso; first | omega | exact absurd trivial hb | exact absurd rfl hb | (simp only [beq_self_eq_true, bne_self_eq_false, reduceCtorEq] at hb; done))) <;> (first | (refine wl hE rfl ?_; refine qm hE ?_; clear hE a; intro a hE) | (refine wl_skip hE rfl rfl rfl ?_; clear hE a; intro a hE)))); all_goals (first | (refine wl hE rfl ?_; (first | refine qf hE ?_ | refine qFF hE ?_ | refine qF hE ?_); clear hE a; intro a hE) | (refine wl_skip hE rfl rfl rfl ?_; clear hE a; intro a hE)); all_goals (first | (refine wl hE rfl ?_; (first | refine ql hE hS ?_ | refine qL hE hS ?_ | refine qlr hE hS ?_); clear hE a; intro a hE) | (refine wl_skip hE rfl rfl rfl ?_; clear hE a; intro a hE)); all_goals (first | (refine wl hE rfl ?_; (first | refine qb hE ?_ | refine qb2 hE ?_ | refine qbE hE ?_ | refine qbN hE ?_ | refine qpn hE ?_); clear hE a; intro a hE) | (refine wl_skip hE rfl rfl rfl ?_; clear hE a; intro a hE)); all_goals (refine wl hE rfl ?_; (first | refine qpt hE ?_ | refine qpf hE ?_); clear hE a; intro a hE); all_goals (refine wl hE rfl ?_; refine qa hE ?_; clear hE a; intro a hE)) | (refine c_regI 4 ?_; all_goals (refine wl hE rfl ?_; (first | refine ql hE hS ?_ | refine qL hE hS ?_ | refine qlr hE hS ?_); clear hE a; intro a hE); all_goals (refine wl hE rfl ?_; refine qm hE ?_; clear hE a; intro a hE); all_goals (refine wl hE rfl ?_; (first | refine qbu hE ?_ | refine qbA hE ?_); clear hE a; intro a hE); all_goals (refine wl hE rfl ?_; refine is_call 88 rfl ?_; refine qc hE (tagged_s d s h p dei v t b _ _ _ _ _) ?_; clear hE; clear a; rintro _ a w ⟨rfl, hS1⟩ hE; replace hS := hS.then hS1; clear hS1); all_goals (refine wl hE rfl ?_; (first | refine qst0 hE hS ?_ | refine qst hE hS ?_); clear hS; intro w hS); all_goals (refine wl hE rfl ?_; refine qa hE ?_; clear hE a; intro a hE)) | (refine c_regI 5 ?_; all_goals (refine wl hE rfl ?_; (first | refine ql hE hS ?_ | refine qL hE hS ?_ | refine qlr hE hS ?_); clear hE a; intro a hE); all_goals (refine wl hE rfl ?_; refine is_call 48 rfl ?_; refine qc hE (bare_s d s h p dei v t b _) ?_; clear hE; clear a; rintro _ a w ⟨rfl, hS1⟩ hE; replace hS := hS.then hS1; clear hS1); all_goals (refine wl hE rfl ?_; (first | refine qst0 hE hS ?_ | refine qst hE hS ?_); clear hS; intro w hS); all_goals (refine wl hE rfl ?_; refine qa hE ?_; clear hE a; intro a hE)) | refine c_seq ?_ | ((refine c_cond hE rfl ?_ ?_) <;> (intro hb; (first | replace hb := of_decide_eq_true hb | replace hb := of_decide_eq_false hb | (simp only [Bool.not_eq_true', Bool.not_eq_false', decide_eq_true_eq, decide_eq_false_iff_not] at hb) | skip); try (exfalso; first | omega | exact absurd trivial hb | exact absurd rfl hb | (simp only [beq_self_eq_true, bne_self_eq_false, reduceCtorEq] at hb; done)))))
  all_goals (refine p_rets hE rfl (rc hE hS (rt hE .nil)) rfl ⟨_, rfl, ?_, hS.clean⟩; simp_all [outR])
end Go.Proofs.Ytdgpjkddpbiieaa
/- DERIVED. Layer 16: the reference's ports; the fixed calls. No condition. -/
namespace Go.Proofs.Ytdgpjkddpbiieaa
open Go.RowKit Go.Sx Go.Proofs.YtdgpjkddpbiieaaTy
set_option linter.unusedVariables false
set_option linter.unusedSimpArgs false
set_option maxRecDepth 100000
attribute [local irreducible] Oper.wp Code.wp wpList wpAnyH Calls bodyPost Exit.then Exit.inBlock Code.rounds
set_option maxHeartbeats 4000000
theorem ports_v (A : Option Addr) (c n : Nat) (l : List Cfg) (vid : Int) (ps : List Int) (w : World) (hn : n = l.length) (hp : portsTo l vid l.length = ps) (hR : Rd w A (l.flatMap Cfg.cells)) (hX : ∀ x ∈ l, CfgR w x) (hl : l.length ≤ 1073741824) :
    Calls Try.prog 59 #[.slice A n c, .int .i64 vid] w fun e w' => ∃ r, e = .returned r ∧ ∃ A' c', r = .slice A' ps.length c' ∧ Sep w w' [row 3 1 (.slice A' ps.length c') ps.length (ints ps)] := by
  subst hn hp
  exact (ports_s A c l vid w hR hX hl).mono fun e w' ⟨r, h1, A', n', c', h2, h3, h4⟩ => ⟨r, h1, A', c', h3 ▸ h2, h3 ▸ h4⟩
theorem in_v (tr : Bool) (pv : Int) (A : Option Addr) (c : Nat) (xs : List Int) (d s : Int) (h : Bool) (p : Int) (dei : Bool) (v t : Int) (b : ByteArray) (r0 : Value) (hr : inR (hasP tr pv xs (inVid h v pv)) (inVid h v pv) d s t b = r0) (w0 : World) (hR : Rd w0 A (ints xs)) (hl : xs.length ≤ 9223372036854775807) : Calls Try.prog 31 #[.agg #[.bool tr, .int .i64 pv, .slice A xs.length c], .agg #[.int .u64 d, .int .u64 s, .bool h, .int .i64 p, .bool dei, .int .i64 v, .int .i64 t, .string b]] w0 fun e w' => ∃ r, e = .returned r ∧ r = r0 ∧ Sep w0 w' [] := by
  subst hr
  exact in_s tr pv A c xs d s h p dei v t b w0 hR hl
theorem out_v (tr : Bool) (pv : Int) (A : Option Addr) (c : Nat) (xs : List Int) (vid : Int) (d s : Int) (h : Bool) (p : Int) (dei : Bool) (v t : Int) (b : ByteArray) (r0 : Value) (hr : outR (hasP tr pv xs vid) tr vid pv d s t b = r0) (w0 : World) (hR : Rd w0 A (ints xs)) (hl : xs.length ≤ 9223372036854775807) : Calls Try.prog 76 #[.agg #[.bool tr, .int .i64 pv, .slice A xs.length c], .int .i64 vid, .agg #[.int .u64 d, .int .u64 s, .bool h, .int .i64 p, .bool dei, .int .i64 v, .int .i64 t, .string b]] w0 fun e w' => ∃ r, e = .returned r ∧ r = r0 ∧ Sep w0 w' [] := by
  subst hr
  exact out_s tr pv A c xs vid d s h p dei v t b w0 hR hl
theorem right_v (tr : Bool) (pv : Int) (A : Option Addr) (c : Nat) (xs : List Int) (r0 : Bool) (hr : rightP tr pv xs = r0) (w0 : World) (hR : Rd w0 A (ints xs)) (hl : xs.length ≤ 9223372036854775807) : Calls Try.prog 25 #[.agg #[.bool tr, .int .i64 pv, .slice A xs.length c]] w0 fun e w' => ∃ r, e = .returned r ∧ r = .bool r0 ∧ Sep w0 w' [] := by
  subst hr
  exact right_s tr pv A c xs w0 hR hl
theorem three_r {w : World} {A : Option Addr} (h : Rd w A (ints [5, 6])) : ∀ x ∈ ([⟨false, 5, none, 0, []⟩, ⟨true, 5, A, 2, [5, 6]⟩, ⟨false, 5, none, 0, []⟩] : List Cfg), CfgR w x := by
  intro x hx
  simp only [List.mem_cons, List.not_mem_nil, or_false] at hx
  rcases hx with rfl | rfl | rfl
  · exact ⟨Rd.nil, Nat.zero_le _⟩
  · exact ⟨h, by show 2 ≤ 9223372036854775807; decide⟩
  · exact ⟨Rd.nil, Nat.zero_le _⟩
end Go.Proofs.Ytdgpjkddpbiieaa
/- DERIVED. Layer 10: entries in order of their keys: find. No condition. -/
namespace Go.Proofs.Ytdgpjkddpbiieaa
open Go.RowKit Go.Sx Go.Proofs.YtdgpjkddpbiieaaTy
set_option linter.unusedVariables false
set_option linter.unusedSimpArgs false
set_option maxRecDepth 100000
attribute [local irreducible] Oper.wp Code.wp wpList wpAnyH Calls bodyPost Exit.then Exit.inBlock Code.rounds
set_option maxHeartbeats 1000000
structure En where
  k : Int
  v : Int
  t : Int
  f : Bool
deriving DecidableEq
def En.cells (x : En) : List Value := [.int .u64 x.k, .int .u64 x.v, .int .i64 x.t, .bool x.f]
def E0 : En := ⟨0, 0, 0, false⟩
theorem elen (x : En) : x.cells.length = 4 := rfl
theorem en_one (l : List En) : ∀ u ∈ l.flatMap En.cells, u.oneCell' = true := fun u hu => by
  obtain ⟨v, _, hv⟩ := List.mem_flatMap.1 hu
  simp only [En.cells, List.mem_cons, List.not_mem_nil, or_false] at hv
  rcases hv with rfl | rfl | rfl | rfl <;> rfl
/-- How two numbers stand. -/
def cmpI (a b : Int) : Int := if a < b then -1 else if b < a then 1 else 0
theorem isNaN_s (x : Int) (w0 : World) : Calls Try.prog 90 #[.int .u64 x] w0 fun e w' => ∃ r, e = .returned r ∧ r = .bool false ∧ Sep w0 w' [] := by
  refine enter (args := [.int .u64 x]) 6 Try.func90 rfl rfl rfl ?_
  intro a hE hS
  repeat' (first | refine wl_nil ?_ | refine then_n ?_ | refine c_block ?_ | refine c_skip ?_ | refine c_exit ?_ | refine c_ret ?_ | refine then_r ?_ | refine then_e ?_ | refine inb_n ?_ | refine inb_r ?_ | refine inb_e ?_ | refine inb_o rfl ?_ | refine c_cond_t hE rfl ?_ | refine c_cond_f hE rfl ?_ | refine c_rnd ?_ | (refine c_regI 0 ?_; all_goals (refine wl hE rfl ?_; refine qa hE ?_; clear hE a; intro a hE)) | (refine c_regI 1 ?_; all_goals (refine wl hE rfl ?_; refine qm hE ?_; clear hE a; intro a hE); all_goals (refine wl hE rfl ?_; refine qm hE ?_; clear hE a; intro a hE); all_goals (refine wl hE rfl ?_; (first | refine qb hE ?_ | refine qb2 hE ?_ | refine qbE hE ?_ | refine qbN hE ?_ | refine qpn hE ?_); clear hE a; intro a hE); all_goals (refine wl hE rfl ?_; refine qa hE ?_; clear hE a; intro a hE)) | refine c_seq ?_ | ((refine c_cond hE rfl ?_ ?_) <;> (intro hb; (first | replace hb := of_decide_eq_true hb | replace hb := of_decide_eq_false hb | (simp only [Bool.not_eq_true', Bool.not_eq_false', decide_eq_true_eq, decide_eq_false_iff_not] at hb) | skip); try (exfalso; first | omega | exact absurd trivial hb | exact absurd rfl hb | (simp only [beq_self_eq_true, bne_self_eq_false, reduceCtorEq] at hb; done)))))
  all_goals exact p_ret hE rfl rfl ⟨_, rfl, by simp, hS⟩
theorem cmp_s (x y : Int) (w0 : World) : Calls Try.prog 82 #[.int .u64 x, .int .u64 y] w0 fun e w' => ∃ r, e = .returned r ∧ r = .int .i64 (cmpI x y) ∧ Sep w0 w' [] := by
  refine enter (args := [.int .u64 x, .int .u64 y]) 20 Try.func82 rfl rfl rfl ?_
  intro a hE hS
  repeat' (first | refine wl_nil ?_ | refine then_n ?_ | refine c_block ?_ | refine c_skip ?_ | refine c_exit ?_ | refine c_ret ?_ | refine then_r ?_ | refine then_e ?_ | refine inb_n ?_ | refine inb_r ?_ | refine inb_e ?_ | refine inb_o rfl ?_ | refine c_cond_t hE rfl ?_ | refine c_cond_f hE rfl ?_ | refine c_rnd ?_ | (refine c_regI 0 ?_; all_goals (refine wl hE rfl ?_; refine qa hE ?_; clear hE a; intro a hE)) | (refine c_regI 1 ?_; all_goals (refine wl hE rfl ?_; refine qm hE ?_; clear hE a; intro a hE); all_goals (refine wl hE rfl ?_; refine is_call 90 rfl ?_; refine qc hE (isNaN_s _ _) ?_; clear hE; clear a; rintro _ a w ⟨rfl, hS1⟩ hE; replace hS := hS.then hS1; clear hS1); all_goals (refine wl hE rfl ?_; refine qa hE ?_; clear hE a; intro a hE)) | (refine c_regI 2 ?_; all_goals (refine wl hE rfl ?_; refine qm hE ?_; clear hE a; intro a hE); all_goals (refine wl hE rfl ?_; refine is_call 90 rfl ?_; refine qc hE (isNaN_s _ _) ?_; clear hE; clear a; rintro _ a w ⟨rfl, hS1⟩ hE; replace hS := hS.then hS1; clear hS1); all_goals (refine wl hE rfl ?_; refine qa hE ?_; clear hE a; intro a hE)) | (refine c_regI 3 ?_; all_goals (refine wl hE rfl ?_; refine qm hE ?_; clear hE a; intro a hE)) | (refine c_regI 7 ?_; all_goals (refine wl hE rfl ?_; refine qm hE ?_; clear hE a; intro a hE)) | (refine c_regI 9 ?_; all_goals (refine wl hE rfl ?_; refine qm hE ?_; clear hE a; intro a hE); all_goals (refine wl hE rfl ?_; refine qm hE ?_; clear hE a; intro a hE); all_goals (refine wl hE rfl ?_; (first | refine qb hE ?_ | refine qb2 hE ?_ | refine qbE hE ?_ | refine qbN hE ?_ | refine qpn hE ?_); clear hE a; intro a hE)) | (refine c_regI 10 ?_; all_goals (refine wl hE rfl ?_; refine qa hE ?_; clear hE a; intro a hE)) | (refine c_regI 11 ?_; all_goals (refine wl hE rfl ?_; refine qm hE ?_; clear hE a; intro a hE); all_goals (refine wl hE rfl ?_; refine qm hE ?_; clear hE a; intro a hE); all_goals (refine wl hE rfl ?_; (first | refine qb hE ?_ | refine qb2 hE ?_ | refine qbE hE ?_ | refine qbN hE ?_ | refine qpn hE ?_); clear hE a; intro a hE)) | (refine c_regI 12 ?_; all_goals (refine wl hE rfl ?_; refine qa hE ?_; clear hE a; intro a hE)) | (refine c_regI 13 ?_; all_goals (refine wl hE rfl ?_; refine qa hE ?_; clear hE a; intro a hE)) | refine c_seq ?_ | ((refine c_cond hE rfl ?_ ?_) <;> (intro hb; (first | replace hb := of_decide_eq_true hb | replace hb := of_decide_eq_false hb | (simp only [Bool.not_eq_true', Bool.not_eq_false', decide_eq_true_eq, decide_eq_false_iff_not] at hb) | skip); try (exfalso; first | omega | exact absurd trivial hb | exact absurd rfl hb | (simp only [beq_self_eq_true, bne_self_eq_false, reduceCtorEq] at hb; done)))))
  all_goals exact p_ret hE rfl rfl ⟨_, rfl, by simp [cmpI, *], hS⟩
theorem key_s (x : En) (w0 : World) : Calls Try.prog 66 #[.agg x.cells.toArray] w0 fun e w' => ∃ r, e = .returned r ∧ r = .int .u64 x.k ∧ Sep w0 w' [] := by
  refine enter (args := [.agg x.cells.toArray]) 5 Try.func66 rfl rfl rfl ?_
  intro a hE hS
  repeat' (first | refine wl_nil ?_ | refine then_n ?_ | refine c_block ?_ | refine c_skip ?_ | refine c_exit ?_ | refine c_ret ?_ | refine then_r ?_ | refine then_e ?_ | refine inb_n ?_ | refine inb_r ?_ | refine inb_e ?_ | refine inb_o rfl ?_ | refine c_cond_t hE rfl ?_ | refine c_cond_f hE rfl ?_ | refine c_rnd ?_ | (refine c_regI 0 ?_; all_goals (refine wl hE rfl ?_; (first | refine qbx hE hS ?_); clear hE hS; clear a; intro g a w hE hS); all_goals (refine wl hE rfl ?_; refine qa hE ?_; clear hE a; intro a hE)) | (refine c_regI 1 ?_; all_goals (refine wl hE rfl ?_; (first | refine qf hE ?_ | refine qFF hE ?_ | refine qF hE ?_); clear hE a; intro a hE); all_goals (refine wl hE rfl ?_; (first | refine ql hE hS ?_ | refine qL hE hS ?_ | refine qlr hE hS ?_); clear hE a; intro a hE); all_goals (refine wl hE rfl ?_; refine qa hE ?_; clear hE a; intro a hE)) | refine c_seq ?_ | ((refine c_cond hE rfl ?_ ?_) <;> (intro hb; (first | replace hb := of_decide_eq_true hb | replace hb := of_decide_eq_false hb | (simp only [Bool.not_eq_true', Bool.not_eq_false', decide_eq_true_eq, decide_eq_false_iff_not] at hb) | skip); try (exfalso; first | omega | exact absurd trivial hb | exact absurd rfl hb | (simp only [beq_self_eq_true, bne_self_eq_false, reduceCtorEq] at hb; done)))))
  all_goals exact p_ret hE rfl rfl ⟨_, rfl, rfl, hS.clean⟩
end Go.Proofs.Ytdgpjkddpbiieaa
/- DERIVED. Layer 10: the binary search. No condition. -/
namespace Go.Proofs.Ytdgpjkddpbiieaa
open Go.RowKit Go.Sx Go.Proofs.YtdgpjkddpbiieaaTy
set_option linter.unusedVariables false
set_option linter.unusedSimpArgs false
set_option maxRecDepth 100000
attribute [local irreducible] Oper.wp Code.wp wpList wpAnyH Calls bodyPost Exit.then Exit.inBlock Code.rounds
set_option maxHeartbeats 1000000
theorem find1_s (b g : Nat) (x : En) (key : Int) (w0 : World) (hB : At w0 ⟨b, 0, none⟩ [.pointer (some ⟨g, 0, none⟩)]) (hF : At w0 ⟨g, 1, none⟩ [.func (.func 66) #[] #[]]) : Calls Try.prog 81 #[.agg x.cells.toArray, .int .u64 key, .pointer (some ⟨b, 0, none⟩)] w0 fun e w' => ∃ r, e = .returned r ∧ r = .int .i64 (cmpI x.k key) ∧ Sep w0 w' [] := by
  refine enter (args := [.agg x.cells.toArray, .int .u64 key, .pointer (some ⟨b, 0, none⟩)]) 14 Try.func81 rfl rfl rfl ?_
  intro a hE hS
  repeat' (first | refine wl_nil ?_ | refine then_n ?_ | refine c_block ?_ | refine c_skip ?_ | refine c_exit ?_ | refine c_ret ?_ | refine then_r ?_ | refine then_e ?_ | refine inb_n ?_ | refine inb_r ?_ | refine inb_e ?_ | refine inb_o rfl ?_ | refine c_cond_t hE rfl ?_ | refine c_cond_f hE rfl ?_ | refine c_rnd ?_ | (refine c_regI 0 ?_; all_goals (refine wl hE rfl ?_; (first | refine qbx hE hS ?_); clear hE hS; clear a; intro g a w hE hS); all_goals (refine wl hE rfl ?_; refine qa hE ?_; clear hE a; intro a hE)) | refine c_seq ?_ | (refine rg_guard 1 ?_; refine rg_start [2, 3] hE hS ?_; clear hS; (try clear w); intro w hS hX; all_goals (first | (refine rg_y 0 hE hX (by first | exact y_load | exact y_loadA | exact y_load0 hB | exact y_load0 hF) ?_ rfl rfl rfl rfl; clear hE a; intro a hE)); all_goals (first | (refine rg_y 1 hE hX (by first | exact y_nil | exact y_load0 hB | exact y_load0 hF) ?_ rfl rfl rfl rfl; clear hE a; intro a hE)); all_goals (first | (refine rg_y 2 hE hX (by first | exact y_fieldFF | exact y_field | exact y_fieldF | exact y_load0 hB | exact y_load0 hF) ?_ rfl rfl rfl rfl; clear hE a; intro a hE)); all_goals (first | (refine rg_y 3 hE hX (by first | exact y_load | exact y_loadA | exact y_load0 hB | exact y_load0 hF) ?_ rfl rfl rfl rfl; clear hE a; intro a hE)); all_goals (first | (refine rg_y 4 hE hX (by first | exact y_load | exact y_loadA | exact y_load0 hB | exact y_load0 hF) ?_ rfl rfl rfl rfl; clear hE a; intro a hE)); all_goals (first | (refine rg_y 6 hE hX (by first | exact y_move | exact y_load0 hB | exact y_load0 hF) ?_ rfl rfl rfl rfl; clear hE a; intro a hE)); all_goals (first | (refine rg_e 5 hE rfl rfl (by kernel_rfl) ?_; intro K hK; (first | ((refine qcF (vs := [.agg x.cells.toArray]) (cs := []) hE (key_s x _) ?_; clear hE; clear a; rintro _ a w ⟨rfl, hS1⟩ hE; replace hS := hS.then hS1; clear hS1)) | ((first | refine qmin hE ?_ | refine qmax hE ?_); clear hE a; intro a hE)); refine rg_k hK hS ?_; clear hK hX; clear K; intro hX)); all_goals (first | (refine rg_e 7 hE rfl rfl (by kernel_rfl) ?_; intro K hK; (first | ((refine is_call 82 rfl ?_; refine qc hE (cmp_s x.k key _) ?_; clear hE; clear a; rintro _ a w ⟨rfl, hS1⟩ hE; replace hS := hS.then hS1; clear hS1))); refine rg_k hK hS ?_; clear hK hX; clear K; intro hX)); all_goals (first | (refine rg_y 8 hE hX (by first | exact y_assign | exact y_load0 hB | exact y_load0 hF) ?_ rfl rfl rfl rfl; clear hE a; intro a hE)); all_goals (refine rg_done ?_ (by kernel_rfl); (try clear hX))) | ((refine c_cond hE rfl ?_ ?_) <;> (intro hb; (first | replace hb := of_decide_eq_true hb | replace hb := of_decide_eq_false hb | (simp only [Bool.not_eq_true', Bool.not_eq_false', decide_eq_true_eq, decide_eq_false_iff_not] at hb) | skip); try (exfalso; first | omega | exact absurd trivial hb | exact absurd rfl hb | (simp only [beq_self_eq_true, bne_self_eq_false, reduceCtorEq] at hb; done)))))
  
  all_goals exact p_ret hE rfl rfl ⟨_, rfl, rfl, hS.clean⟩
theorem blk_At {w0 w : World} {L L' : List Asn} {g : Nat} {cs : List Value} {t : TypeId} (hS : Sep w0 w L) (hp : Pull (blk g cs t) L L' := by repeat (first | exact Pull.here | apply Pull.there)) : At w ⟨g, 0, none⟩ cs := fun j v hj => by
  have h := hS.blk_at hp
  have hadd : (⟨g, 0, none⟩ : Addr).add j = ⟨g, j, none⟩ := by unfold Addr.add; split <;> simp_all
  rw [hadd, cell_of_row w g j cs.toArray t (0, 0) h]
  simpa using hj
theorem blk_At1 {w0 w : World} {L L' : List Asn} {g : Nat} {x : Value} {cs : List Value} {t : TypeId} (hS : Sep w0 w L) (hp : Pull (blk g (x :: cs) t) L L' := by repeat (first | exact Pull.here | apply Pull.there)) : At w ⟨g, 1, none⟩ cs := fun j v hj => by
  have := blk_At hS hp (j + 1) v (by simpa using hj)
  have e : (⟨g, 0, none⟩ : Addr).add (j + 1) = (⟨g, 1, none⟩ : Addr).add j := by unfold Addr.add; split <;> simp_all [Nat.add_comm]
  rwa [e] at this
/-- Where a key is, or would be. -/
def At1 (l : List En) (key : Int) (i : Int) : Prop := 0 ≤ i ∧ i ≤ l.length ∧ (∀ j : Nat, (j : Int) < i → (l.getD j E0).k < key) ∧ (∀ j : Nat, i ≤ (j : Int) → j < l.length → key ≤ (l.getD j E0).k)
def Rising (l : List En) : Prop := l.Pairwise fun x y => x.k < y.k
theorem Rising.lt {l : List En} (h : Rising l) {i j : Nat} (hij : i < j) (hj : j < l.length) : (l.getD i E0).k < (l.getD j E0).k := by
  have := List.pairwise_iff_getElem.1 h i j (by omega) hj hij
  simpa [show i < l.length by omega, hj] using this
theorem bs_lo {l : List En} (h : Rising l) {key : Int} {i m : Int} (hm0 : 0 ≤ m) (hm : m < l.length) (hx : (l.getD m.toNat E0).k < key) : ∀ j : Nat, (j : Int) < m + 1 → (l.getD j E0).k < key := by
  intro j hj
  rcases Nat.lt_or_ge j m.toNat with h1 | h1
  · have := h.lt h1 (by omega); omega
  · rw [show j = m.toNat by omega]; exact hx
theorem bs_hi {l : List En} (h : Rising l) {key : Int} {m : Int} (hm0 : 0 ≤ m) (hm : m < l.length) (hx : ¬ (l.getD m.toNat E0).k < key) : ∀ j : Nat, m ≤ (j : Int) → j < l.length → key ≤ (l.getD j E0).k := by
  intro j hj hl
  rcases Nat.lt_or_ge m.toNat j with h1 | h1
  · have := h.lt h1 hl; omega
  · rw [show j = m.toNat by omega]; omega
theorem cmp_neg {x y : Int} : cmpI x y < 0 ↔ x < y := by unfold cmpI; split <;> (try split) <;> omega
theorem cmp_zero {x y : Int} : cmpI x y = 0 ↔ x = y := by unfold cmpI; split <;> (try split) <;> omega
theorem half_mid {i j : Int} (h0 : 0 ≤ i) (h1 : i < j) : i ≤ (i + j) / 2 ∧ (i + j) / 2 < j := by omega
theorem wrap_u {i : Int} (h0 : 0 ≤ i) (h1 : i ≤ 9223372036854775807) : IntKind.u64.wrap i = i := by
  unfold IntKind.wrap
  simp [IntKind.bits, IntKind.signed]
  omega
theorem half_w {i j : Int} (h0 : 0 ≤ i) (h1 : 0 ≤ j) (h2 : i ≤ 4611686018427387903) (h3 : j ≤ 4611686018427387903) : IntKind.i64.wrap ((IntKind.u64.wrap (i + j)).fdiv (2 ^ min (Int.toNat 1) IntKind.u64.bits)) = (i + j) / 2 := by
  have e : min (Int.toNat 1) IntKind.u64.bits = 1 := by decide
  rw [wrap_u (by omega) (by omega), e, Int.fdiv_eq_ediv_of_nonneg _ (by decide)]
  exact wrap_in (by omega) (by omega)
theorem bs_s (A : Option Addr) (c b g : Nat) (l : List En) (key : Int) (w0 : World) (hR : Rd w0 A (l.flatMap En.cells)) (hl : l.length ≤ 1073741824) (hs : Rising l) (hB : At w0 ⟨b, 0, none⟩ [.pointer (some ⟨g, 0, none⟩)]) (hF : At w0 ⟨g, 1, none⟩ [.func (.func 66) #[] #[]]) :
    Calls Try.prog 80 #[.slice A l.length c, .int .u64 key, .func (.func 81) #[] #[.pointer (some ⟨b, 0, none⟩)]] w0 fun e w' => ∃ r, e = .returned r ∧ (∃ i : Int, r = .tuple #[.int .i64 i, .bool (decide (i < l.length ∧ (l.getD i.toNat E0).k = key))] ∧ At1 l key i) ∧ Sep w0 w' [] := by
  have hA : (0 : Int) < l.length → A = some (adr A) := fun h => hR.some (by rw [flat_len elen]; omega)
  have hT := hR.at_
  refine enter (args := [.slice A l.length c, .int .u64 key, .func (.func 81) #[] #[.pointer (some ⟨b, 0, none⟩)]]) 49 Try.func80 rfl rfl rfl ?_
  intro a hE hS
  repeat' (first | refine wl_nil ?_ | refine then_n ?_ | refine c_block ?_ | refine c_skip ?_ | refine c_exit ?_ | refine c_ret ?_ | refine then_r ?_ | refine then_e ?_ | refine inb_n ?_ | refine inb_r ?_ | refine inb_e ?_ | refine inb_o rfl ?_ | refine c_cond_t hE rfl ?_ | refine c_cond_f hE rfl ?_ | refine c_rnd ?_ | (refine c_regI 0 ?_; all_goals (refine wl hE rfl ?_; refine qa hE ?_; clear hE a; intro a hE); all_goals (refine wl hE rfl ?_; refine qa hE ?_; clear hE a; intro a hE)) | (refine c_regI 1 ?_; all_goals (refine wl hE rfl ?_; refine qm hE ?_; clear hE a; intro a hE); all_goals (refine wl hE rfl ?_; (first | refine qn1 hE ?_ | refine qns hE ?_); clear hE a; intro a hE); all_goals (refine wl hE rfl ?_; refine qa hE ?_; clear hE a; intro a hE)) | (refine c_regI 2 ?_; all_goals (refine wl hE rfl ?_; refine qm hE ?_; clear hE a; intro a hE); all_goals (refine wl hE rfl ?_; refine qa hE ?_; clear hE a; intro a hE); all_goals (refine wl hE rfl ?_; refine qa hE ?_; clear hE a; intro a hE)) | refine c_seq ?_ | ((refine c_cond hE rfl ?_ ?_) <;> (intro hb; (first | replace hb := of_decide_eq_true hb | replace hb := of_decide_eq_false hb | (simp only [Bool.not_eq_true', Bool.not_eq_false', decide_eq_true_eq, decide_eq_false_iff_not] at hb) | skip); try (exfalso; first | omega | exact absurd trivial hb | exact absurd rfl hb | (simp only [beq_self_eq_true, bne_self_eq_false, reduceCtorEq] at hb; done)))))
  refine c_loopN (fun m a w => ∃ i j : Int, 0 ≤ i ∧ i ≤ j ∧ j ≤ l.length ∧ m = (j - i).toNat ∧ (∀ k : Nat, (k : Int) < i → (l.getD k E0).k < key) ∧ (∀ k : Nat, j ≤ (k : Int) → k < l.length → key ≤ (l.getD k E0).k) ∧ Env a 49 [(0, .slice A l.length c), (1, .int .u64 key), (2, .func (.func 81) #[] #[.pointer (some ⟨b, 0, none⟩)]), (8, .int .i64 l.length), (9, .int .i64 i), (10, .int .i64 j)] ∧ Sep w0 w []) _ ⟨0, l.length, by omega, by omega, by omega, rfl, fun k h => by omega, fun k h h2 => by omega, hE.cut ⟨rfl, rfl, rfl, rfl, rfl, rfl, trivial⟩, hS⟩ ?_
  clear hE hS a
  rintro m a w ⟨i, j, h0, h1, h2, rfl, hlo, hhi, hE, hS⟩

  repeat' (first | refine wl_nil ?_ | refine then_n ?_ | refine c_block ?_ | refine c_skip ?_ | refine c_exit ?_ | refine c_ret ?_ | refine then_r ?_ | refine then_e ?_ | refine inb_n ?_ | refine inb_r ?_ | refine inb_e ?_ | refine inb_o rfl ?_ | refine c_cond_t hE rfl ?_ | refine c_cond_f hE rfl ?_ | refine c_rnd ?_ | (refine c_midq (id := 4) (I := fun a w => Env a 49 [(0, .slice A l.length c), (1, .int .u64 key), (2, .func (.func 81) #[] #[.pointer (some ⟨b, 0, none⟩)]), (8, .int .i64 l.length), (9, .int .i64 i), (10, .int .i64 j), (11, .int .i64 ((i + j) / 2))] ∧ Sep w0 w []) ?_ ?_; rotate_left; clear hE hS; clear a w; rintro a w ⟨hE, hS⟩; skip) | (refine c_regI 3 ?_; all_goals (refine wl hE rfl ?_; refine qm hE ?_; clear hE a; intro a hE); all_goals (refine wl hE rfl ?_; refine qm hE ?_; clear hE a; intro a hE); all_goals (refine wl hE rfl ?_; (first | refine qb hE ?_ | refine qb2 hE ?_ | refine qbE hE ?_ | refine qbN hE ?_ | refine qpn hE ?_); clear hE a; intro a hE)) | (refine c_regI 4 ?_; all_goals (refine wl hE rfl ?_; refine qm hE ?_; clear hE a; intro a hE); all_goals (refine wl hE rfl ?_; refine qm hE ?_; clear hE a; intro a hE); all_goals (refine wl hE rfl ?_; (first | refine qb hE ?_ | refine qb2 hE ?_ | refine qbE hE ?_ | refine qbN hE ?_ | refine qpn hE ?_); clear hE a; intro a hE); all_goals (refine wl hE rfl ?_; refine qcv hE ?_; clear hE a; intro a hE); all_goals (refine wl hE rfl ?_; (first | refine qb hE ?_ | refine qb2 hE ?_ | refine qbE hE ?_ | refine qbN hE ?_ | refine qpn hE ?_); clear hE a; intro a hE); all_goals (refine wl hE rfl ?_; refine qcv hE ?_; clear hE a; intro a hE); all_goals (refine wl hE rfl ?_; refine qa hE ?_; clear hE a; intro a hE)) | (refine c_regI 5 ?_; all_goals (refine wl hE rfl ?_; refine qm hE ?_; clear hE a; intro a hE); all_goals (refine wl hE rfl ?_; refine qm hE ?_; clear hE a; intro a hE); all_goals (refine wl hE rfl ?_; refine qm hE ?_; clear hE a; intro a hE); all_goals (refine wl hE rfl ?_; (first | refine qi hE hA ?_ | refine qi hE (fun _ => rfl) ?_ | refine qia hE ?_); clear hE a; intro a hE); all_goals (refine wl hE rfl ?_; (first | refine qLs (i := i) (us := _) (df := E0) hE hS elen hT rfl ?_ | refine qLs (i := (i + j) / 2) (us := _) (df := E0) hE hS elen hT rfl ?_ | refine ql hE hS ?_ | refine qL hE hS ?_ | refine qlr hE hS ?_); clear hE a; intro a hE); all_goals (refine wl hE rfl ?_; refine qm hE ?_; clear hE a; intro a hE); all_goals (refine wl hE rfl ?_; first | ((refine qcF (vs := [.agg (l.getD ((i + j) / 2).toNat E0).cells.toArray, .int .u64 key]) hE (find1_s b g _ key _ (hB.move hS) (hF.move hS)) ?_; clear hE; clear a; rintro _ a w ⟨rfl, hS1⟩ hE; replace hS := hS.then hS1; clear hS1)) | ((refine qcF (vs := [.agg (l.getD i.toNat E0).cells.toArray, .int .u64 key]) hE (find1_s b g _ key _ (hB.move hS) (hF.move hS)) ?_; clear hE; clear a; rintro _ a w ⟨rfl, hS1⟩ hE; replace hS := hS.then hS1; clear hS1)) | ((first | refine qmin hE ?_ | refine qmax hE ?_); clear hE a; intro a hE)); all_goals (refine wl hE rfl ?_; (first | refine qb hE ?_ | refine qb2 hE ?_ | refine qbE hE ?_ | refine qbN hE ?_ | refine qpn hE ?_); clear hE a; intro a hE)) | (refine c_regI 6 ?_; all_goals (refine wl hE rfl ?_; refine qm hE ?_; clear hE a; intro a hE); all_goals (refine wl hE rfl ?_; (first | refine qb hE ?_ | refine qb2 hE ?_ | refine qbE hE ?_ | refine qbN hE ?_ | refine qpn hE ?_); clear hE a; intro a hE); all_goals (refine wl hE rfl ?_; refine qa hE ?_; clear hE a; intro a hE)) | (refine c_regI 7 ?_; all_goals (refine wl hE rfl ?_; refine qm hE ?_; clear hE a; intro a hE); all_goals (refine wl hE rfl ?_; refine qa hE ?_; clear hE a; intro a hE)) | (refine c_regI 8 ?_; all_goals (refine wl hE rfl ?_; refine qm hE ?_; clear hE a; intro a hE); all_goals (refine wl hE rfl ?_; refine qm hE ?_; clear hE a; intro a hE); all_goals (refine wl hE rfl ?_; refine qm hE ?_; clear hE a; intro a hE); all_goals (refine wl hE rfl ?_; (first | refine qb hE ?_ | refine qb2 hE ?_ | refine qbE hE ?_ | refine qbN hE ?_ | refine qpn hE ?_); clear hE a; intro a hE); all_goals (refine wl hE rfl ?_; refine qm hE ?_; clear hE a; intro a hE); all_goals (first | (refine wl hE rfl ?_; refine qm hE ?_; clear hE a; intro a hE) | (refine wl_skip hE rfl rfl rfl ?_; clear hE a; intro a hE) | ((refine wl_splitg hE rfl rfl ?_ ?_) <;> (clear hE; intro hb hE; (first | replace hb := of_decide_eq_true hb | replace hb := of_decide_eq_false hb | (simp only [Bool.not_eq_true', Bool.not_eq_false', decide_eq_true_eq, decide_eq_false_iff_not] at hb) | skip); try (exfalso; first | omega | exact absurd trivial hb | exact absurd rfl hb | (simp only [beq_self_eq_true, bne_self_eq_false, reduceCtorEq] at hb; done))) <;> (first | (refine wl hE rfl ?_; refine qm hE ?_; clear hE a; intro a hE) | (refine wl_skip hE rfl rfl rfl ?_; clear hE a; intro a hE)))); all_goals (first | (refine wl hE rfl ?_; refine qm hE ?_; clear hE a; intro a hE) | (refine wl_skip hE rfl rfl rfl ?_; clear hE a; intro a hE)); all_goals (first | (refine wl hE rfl ?_; refine qm hE ?_; clear hE a; intro a hE) | (refine wl_skip hE rfl rfl rfl ?_; clear hE a; intro a hE)); all_goals (first | (refine wl hE rfl ?_; (first | refine qi hE hA ?_ | refine qi hE (fun _ => rfl) ?_ | refine qia hE ?_); clear hE a; intro a hE) | (refine wl_skip hE rfl rfl rfl ?_; clear hE a; intro a hE)); all_goals (first | (refine wl hE rfl ?_; (first | refine qLs (i := i) (us := _) (df := E0) hE hS elen hT rfl ?_ | refine qLs (i := (i + j) / 2) (us := _) (df := E0) hE hS elen hT rfl ?_ | refine ql hE hS ?_ | refine qL hE hS ?_ | refine qlr hE hS ?_); clear hE a; intro a hE) | (refine wl_skip hE rfl rfl rfl ?_; clear hE a; intro a hE)); all_goals (first | (refine wl hE rfl ?_; refine qm hE ?_; clear hE a; intro a hE) | (refine wl_skip hE rfl rfl rfl ?_; clear hE a; intro a hE)); all_goals (first | (refine wl hE rfl ?_; first | ((refine qcF (vs := [.agg (l.getD ((i + j) / 2).toNat E0).cells.toArray, .int .u64 key]) hE (find1_s b g _ key _ (hB.move hS) (hF.move hS)) ?_; clear hE; clear a; rintro _ a w ⟨rfl, hS1⟩ hE; replace hS := hS.then hS1; clear hS1)) | ((refine qcF (vs := [.agg (l.getD i.toNat E0).cells.toArray, .int .u64 key]) hE (find1_s b g _ key _ (hB.move hS) (hF.move hS)) ?_; clear hE; clear a; rintro _ a w ⟨rfl, hS1⟩ hE; replace hS := hS.then hS1; clear hS1)) | ((first | refine qmin hE ?_ | refine qmax hE ?_); clear hE a; intro a hE)) | (refine wl_skip hE rfl rfl rfl ?_; clear hE a; intro a hE)); all_goals (first | (refine wl hE rfl ?_; (first | refine qb hE ?_ | refine qb2 hE ?_ | refine qbE hE ?_ | refine qbN hE ?_ | refine qpn hE ?_); clear hE a; intro a hE) | (refine wl_skip hE rfl rfl rfl ?_; clear hE a; intro a hE)); all_goals (refine wl hE rfl ?_; (first | refine qpt hE ?_ | refine qpf hE ?_); clear hE a; intro a hE); all_goals (refine wl hE rfl ?_; refine qa hE ?_; clear hE a; intro a hE); all_goals (refine wl hE rfl ?_; refine qa hE ?_; clear hE a; intro a hE)) | refine c_seq ?_ | ((refine c_cond hE rfl ?_ ?_) <;> (intro hb; (first | replace hb := of_decide_eq_true hb | replace hb := of_decide_eq_false hb | (simp only [Bool.not_eq_true', Bool.not_eq_false', decide_eq_true_eq, decide_eq_false_iff_not] at hb) | skip); try (exfalso; first | omega | exact absurd trivial hb | exact absurd rfl hb | (simp only [beq_self_eq_true, bne_self_eq_false, reduceCtorEq] at hb; done)))))
  · have hb1 := cmp_neg.1 hb
    have hlt : i < j := by assumption
    obtain ⟨q, hq⟩ : ∃ q, q = (i + j) / 2 := ⟨_, rfl⟩
    rw [← hq] at hE hb1
    exact ⟨_, by omega, q + 1, j, by omega, by omega, by omega, rfl, bs_lo (i := i) hs (by omega) (by omega) hb1, hhi, hE.cut ⟨rfl, rfl, rfl, rfl, rfl, rfl, trivial⟩, hS⟩
  · have hb1 := fun h => hb (cmp_neg.2 h)
    have hlt : i < j := by assumption
    obtain ⟨q, hq⟩ : ∃ q, q = (i + j) / 2 := ⟨_, rfl⟩
    rw [← hq] at hE hb1
    exact ⟨_, by omega, i, q, by omega, by omega, by omega, rfl, hlo, bs_hi hs (by omega) (by omega) hb1, hE.cut ⟨rfl, rfl, rfl, rfl, rfl, rfl, trivial⟩, hS⟩
  · rw [half_w (by omega) (by omega) (by omega) (by omega)] at hE
    exact ⟨hE.cut ⟨rfl, rfl, rfl, rfl, rfl, rfl, rfl, trivial⟩, hS⟩
  · have e : j = i := by omega
    subst e
    refine p_rets hE rfl (rt hE (rt hE .nil)) rfl ⟨_, rfl, ⟨j, ?_, by omega, by omega, hlo, hhi⟩, hS⟩
    have h2 : (j < (l.length : Int) ∧ (l.getD j.toNat E0).k = key) ↔ cmpI (l.getD j.toNat E0).k key = 0 := by rw [cmp_zero]; exact ⟨fun h => h.2, fun h => ⟨hb, h⟩⟩
    simp only [h2]
  · have e : j = i := by omega
    subst e
    refine p_rets hE rfl (rt hE (rt hE .nil)) rfl ⟨_, rfl, ⟨j, ?_, by omega, by omega, hlo, hhi⟩, hS⟩
    rw [decide_eq_false (fun h => hb h.1)]
theorem find_s (A : Option Addr) (c g : Nat) (l : List En) (key : Int) (w0 : World) (hT : At w0 ⟨g, 0, none⟩ [.slice A l.length c]) (hF : At w0 ⟨g, 1, none⟩ [.func (.func 66) #[] #[]]) (hR : Rd w0 A (l.flatMap En.cells)) (hl : l.length ≤ 1073741824) (hs : Rising l) :
    Calls Try.prog 67 #[.pointer (some ⟨g, 0, none⟩), .int .u64 key] w0 fun e w' => ∃ r, e = .returned r ∧ (∃ i : Int, r = .tuple #[.int .i64 i, .bool (decide (i < l.length ∧ (l.getD i.toNat E0).k = key))] ∧ At1 l key i) ∧ Sep w0 w' [] := by
  refine enter (args := [.pointer (some ⟨g, 0, none⟩), .int .u64 key]) 15 Try.func67 rfl rfl rfl ?_
  intro a hE hS
  obtain ⟨g0, hg0⟩ : ∃ g0, g0 = g := ⟨_, rfl⟩
  rw [← hg0] at hE hF hT
  repeat' (first | refine wl_nil ?_ | refine then_n ?_ | refine c_block ?_ | refine c_skip ?_ | refine c_exit ?_ | refine c_ret ?_ | refine then_r ?_ | refine then_e ?_ | refine inb_n ?_ | refine inb_r ?_ | refine inb_e ?_ | refine inb_o rfl ?_ | refine c_cond_t hE rfl ?_ | refine c_cond_f hE rfl ?_ | refine c_rnd ?_ | (refine c_regI 0 ?_; all_goals (refine wl hE rfl ?_; (first | refine qbx hE hS ?_); clear hE hS; clear a; intro g a w hE hS); all_goals (refine wl hE rfl ?_; refine qa hE ?_; clear hE a; intro a hE); all_goals (refine wl hE rfl ?_; refine qa hE ?_; clear hE a; intro a hE)) | (refine c_regI 1 ?_; all_goals (refine wl hE rfl ?_; (first | refine q0 hE hS hT ?_ | refine ql hE hS ?_ | refine qL hE hS ?_ | refine qlr hE hS ?_); clear hE a; intro a hE); all_goals (refine wl hE rfl ?_; (first | refine qn hE ?_ | refine qnf hE ?_); clear hE a; intro a hE); all_goals (refine wl hE rfl ?_; (first | refine qf hE ?_ | refine qFF hE ?_ | refine qF hE ?_); clear hE a; intro a hE); all_goals (refine wl hE rfl ?_; (first | refine q0 hE hS hT ?_ | refine ql hE hS ?_ | refine qL hE hS ?_ | refine qlr hE hS ?_); clear hE a; intro a hE); all_goals (refine wl hE rfl ?_; refine qm hE ?_; clear hE a; intro a hE); all_goals (refine wl hE rfl ?_; refine qmf2 hE ?_; clear hE; clear a; intro a hE); all_goals (refine wl hE rfl ?_; refine qc hE (bs_s A c g g0 l key _ (hR.move hS) hl hs (blk_At hS) (hF.move hS)) ?_; clear hE; clear a; rintro _ a w ⟨⟨i, rfl, hi⟩, hS1⟩ hE; replace hS := hS.then hS1; clear hS1); all_goals (refine wl hE rfl ?_; refine qe hE ?_; clear hE a; intro a hE); all_goals (refine wl hE rfl ?_; refine qe hE ?_; clear hE a; intro a hE); all_goals (refine wl hE rfl ?_; refine qa hE ?_; clear hE a; intro a hE); all_goals (refine wl hE rfl ?_; refine qa hE ?_; clear hE a; intro a hE)) | refine c_seq ?_ | ((refine c_cond hE rfl ?_ ?_) <;> (intro hb; (first | replace hb := of_decide_eq_true hb | replace hb := of_decide_eq_false hb | (simp only [Bool.not_eq_true', Bool.not_eq_false', decide_eq_true_eq, decide_eq_false_iff_not] at hb) | skip); try (exfalso; first | omega | exact absurd trivial hb | exact absurd rfl hb | (simp only [beq_self_eq_true, bne_self_eq_false, reduceCtorEq] at hb; done)))))
  trace_state
  exact p_rets hE rfl (rt hE (rt hE .nil)) rfl ⟨_, rfl, ⟨i, rfl, hi⟩, hS.clean⟩
end Go.Proofs.Ytdgpjkddpbiieaa

/- DERIVED. Maps with keys of an integer kind, as functions; calls of function values. No condition. -/
import Derived.Test.YtbhddlllpgfgiaaSl
import Derived.Maps.Own
import Derived.Maps.Views
namespace Go.Sx
open Go.RowKit
set_option linter.unusedVariables false
set_option linter.unusedSimpArgs false
/-- How a map's value reads: as itself. -/
def asIs (v : Value) : Option (DataW (Option Value) × List MemPlace) := some (.held (some v), [])
/-- The block b is a map of at most n entries, that has these. -/
def mapOwn (P : Program) (k : TypeId) (q : IntKind) (w : World) (b n : Nat) (f : Int → Option Value) : Prop :=
  ∃ D, w.ownsMap P k asIs b n D ∧ ∀ x, D.atKey (.int q x) (.held none) = .held (f x)
def mpA (P : Program) (k : TypeId) (q : IntKind) (b n : Nat) (f : Int → Option Value) : Asn where
  P w F := mapOwn P k q w b n f ∧ ∀ i, F i ↔ i = b
  move := by
    rintro w w' F ⟨⟨D, ⟨es, clock, hb, h1, h2, h3⟩, h⟩, hF⟩ hm
    exact ⟨⟨D, ⟨es, clock, (hm b ((hF b).2 rfl)).trans hb, h1, h2, h3⟩, h⟩, hF⟩
class MapTy (P : Program) (t : TypeId) (k e : outParam TypeId) (q : outParam IntKind) (z : outParam Value) : Prop where
  h1 : P.underlying t = some (.map k e)
  h2 : P.underlying k = some (.int q)
  h3 : (P.info? e).map (·.zero) = some (some z)
theorem mp_zero {P : Program} {t k e : TypeId} {q : IntKind} {z : Value} (T : MapTy P t k e q z) (w : World) : (zeroValue e).run P w = .ok z w := by
  have h := T.h3
  cases hi : P.info? e with
  | none => rw [hi] at h; simp at h
  | some i =>
    rw [hi] at h
    have hz : i.zero = some z := by simpa using h
    simp [zeroValue, typeInfo, hi, hz]
section
variable {P : Program} {o : Oper} {a : Act} {w w0 : World} {Q : Exit → Act → World → Prop} {n : Nat} {env : List (Nat × Value)} {L L' : List Asn} {K : Act → World → Prop}
theorem Sep.map_at {k : TypeId} {q : IntKind} {b m : Nat} {f : Int → Option Value} (h : Sep w0 w L) (hp : Pull (mpA P k q b m f) L L' := by repeat (first | exact Pull.here | apply Pull.there)) : mapOwn P k q w b m f := by
  obtain ⟨F, ⟨F1, F2, _, _, hA, _⟩, _⟩ := (h.pull hp).own
  exact hA.1
/-- A new map. -/
theorem qmk {t k e : TypeId} {q : IntKind} {z : Value} {d : Tmp} (hE : Env a n env) (hS : Sep w0 w L) (kk : ∀ b a' w', Env a' n ((d, .map (some b)) :: env) → Sep w0 w' (mpA P k q b 0 (fun _ => none) :: L) → K a' w') (ho : o.op = .makeMap t none := by exact rfl) (T : MapTy P t k e q z := by infer_instance) (hd : o.dst = some d := by exact rfl) (hlt : Nat.blt d n = true := by exact rfl) : o.wp P a w K Q := by
  have hr : (execOp a.eval o).run P w = .ok (.value (.map (some w.heap.size))) (w.alloc (.map #[] 0)) := by
    simp [execOp, ho, run_makeMap]
  unfold Oper.wp
  rw [hr]
  refine kk _ _ _ (hE.putS _ hd hlt) (hS.new _ fun w' hw => ⟨⟨.map [], ⟨#[], 0, hw, ⟨by simp, MapKept.stamped_empty 0, by simp⟩, Nat.le_refl _, rfl⟩, fun x => rfl⟩, fun _ => Iff.rfl⟩)
theorem look_at {t k e : TypeId} {q : IntKind} {z : Value} (T : MapTy P t k e q z) {b m : Nat} {f : Int → Option Value} (h : mapOwn P k q w b m f) {x : Int} (hx : (Lit.int q x).wf = true) (c : Bool) :
    (Instr.lookup t (.map (some b)) (.int q x) c).run P w = .ok (if c then .tuple #[(f x).getD z, .bool (f x).isSome] else (f x).getD z) w := by
  obtain ⟨D, ⟨es, clock, hb, F, _, rfl⟩, hD⟩ := h
  have hkey := Maps.keyOf_int_mk T.h2 hx
  rcases Maps.fit_look c (Maps.int_keyed T.h2) T.h1 (mp_zero T w) hb F hkey with ⟨hrun, _, hat⟩ | ⟨e0, y, _, _, hrun, hRv, hat, _⟩
  · have h1 := (hat (.held none)).symm.trans (hD x)
    have h2 : f x = none := by injection h1 with h1; exact h1.symm
    rw [hrun, h2]
    rfl
  · have h1 := (hat (.held none)).symm.trans (hD x)
    have h3 : y = (.held (some e0.val), []) := by
      have : asIs e0.val = some y := hRv
      exact (Option.some.inj this).symm
    subst h3
    have h2 : f x = some e0.val := by injection h1 with h1; exact h1.symm
    rw [hrun, h2]
    rfl
/-- m[k]. -/
theorem qlk {t k e : TypeId} {q : IntKind} {z v : Value} {m x : Operand} {b N : Nat} {f : Int → Option Value} {i : Int} {d : Tmp} (hE : Env a n env) (hS : Sep w0 w L) (hx : (Lit.int q i).wf = true) (hv : (f i).getD z = v) (kk : ∀ a', Env a' n ((d, v) :: env) → K a' w) (ho : o.op = .lookup t m x false := by exact rfl) (T : MapTy P t k e q z := by infer_instance)
    (hm : opv env m = some (.map (some b)) := by exact rfl) (hi : opv env x = some (.int q i) := by exact rfl) (hp : Pull (mpA P k q b N f) L L' := by repeat (first | exact Pull.here | apply Pull.there)) (hd : o.dst = some d := by exact rfl) (hlt : Nat.blt d n = true := by exact rfl) : o.wp P a w K Q := by
  subst hv
  exact o_val hE (by simp [execOp, ho, hE.eval hm, hE.eval hi, look_at T (hS.map_at hp) hx]) hd hlt kk
/-- m[k], and whether it is there. -/
theorem qlk2 {t k e : TypeId} {q : IntKind} {z v : Value} {c : Bool} {m x : Operand} {b N : Nat} {f : Int → Option Value} {i : Int} {d : Tmp} (hE : Env a n env) (hS : Sep w0 w L) (hx : (Lit.int q i).wf = true) (hv : (f i).getD z = v) (hc : (f i).isSome = c) (kk : ∀ a', Env a' n ((d, .tuple #[v, .bool c]) :: env) → K a' w) (ho : o.op = .lookup t m x true := by exact rfl) (T : MapTy P t k e q z := by infer_instance)
    (hm : opv env m = some (.map (some b)) := by exact rfl) (hi : opv env x = some (.int q i) := by exact rfl) (hp : Pull (mpA P k q b N f) L L' := by repeat (first | exact Pull.here | apply Pull.there)) (hd : o.dst = some d := by exact rfl) (hlt : Nat.blt d n = true := by exact rfl) : o.wp P a w K Q := by
  subst hv hc
  exact o_val hE (by simp [execOp, ho, hE.eval hm, hE.eval hi, look_at T (hS.map_at hp) hx]) hd hlt kk
def fput (f : Int → Option Value) (i : Int) (v : Value) : Int → Option Value := fun x => if x = i then some v else f x
/-- m[k] = v. -/
theorem qup {t k e : TypeId} {q : IntKind} {z v : Value} {m x y : Operand} {b N : Nat} {f : Int → Option Value} {i : Int} (hE : Env a n env) (hS : Sep w0 w L) (hx : (Lit.int q i).wf = true) (kk : ∀ w', Sep w0 w' (mpA P k q b (N + 1) (fput f i v) :: L') → K a w') (ho : o.op = .mapUpdate t m x y := by exact rfl) (T : MapTy P t k e q z := by infer_instance)
    (hm : opv env m = some (.map (some b)) := by exact rfl) (hi : opv env x = some (.int q i) := by exact rfl) (hy : opv env y = some v := by exact rfl) (hp : Pull (mpA P k q b N f) L L' := by repeat (first | exact Pull.here | apply Pull.there)) (hN : N < maxLen := by first | omega | (unfold maxLen; omega)) (hd : o.dst = none := by exact rfl) : o.wp P a w K Q := by
  obtain ⟨D, hown, hD⟩ := hS.map_at hp
  have hkey := Maps.keyOf_int_mk T.h2 hx
  obtain ⟨w', hrun, hown', hg⟩ := hown.update (Maps.int_keyed T.h2) T.h1 hN hkey (rfl : asIs v = some _)
  have hr : (execOp a.eval o).run P w = .ok .skip w' ∨ (execOp a.eval o).run P w = .ok (.value undef) w' := by
    first
    | exact .inl (by simp [execOp, ho, hE.eval hm, hE.eval hi, hE.eval hy, hrun])
    | exact .inr (by simp [execOp, ho, hE.eval hm, hE.eval hi, hE.eval hy, hrun])
  have hf : ∀ x, (D.put (.int q i) (.held (some v))).atKey (.int q x) (.held none) = .held (fput f i v x) := fun x => by
    have hmD : Maps.IsMap D := by
      obtain ⟨es, clock, _, _, _, rfl⟩ := hown
      exact ⟨_, rfl⟩
    unfold fput
    by_cases e : x = i
    · subst e
      rw [if_pos rfl, Maps.atKey_put_same hmD ((Maps.int_keyed T.h2).key hkey)]
    · rw [if_neg e, Maps.atKey_put_other (fun h => e (by injection h)), hD]
  have hlt : b < w.heap.size := hown.lt
  have hS' : Sep w0 w' (mpA P k q b (N + 1) (fput f i v) :: L') := by
    refine Sep.turn (M := [mpA P k q b (N + 1) (fput f i v)]) (hS.pull hp) hg.os hg.tape hg.output hg.size fun F hA hF => ⟨fun j hj hn => hg.block j hj (fun e => hn ((hA.2 j).2 (by injection e))), fun j => j = b, ⟨fun j => j = b, fun _ => False, fun j => by simp, fun _ _ h => h, ⟨⟨_, hown', hf⟩, fun j => Iff.rfl⟩, fun _ h => h⟩, fun j hj => ?_⟩
    subst hj
    exact ⟨.inl ((hA.2 _).2 rfl), hown'.lt⟩
  have e : ∀ u, a.put o.dst u = a := fun u => by rw [hd]; rfl
  unfold Oper.wp
  rcases hr with hr | hr
  · rw [hr]
    show K (a.put o.dst undef) w'
    rw [e]
    exact kk w' hS'
  · rw [hr]
    show K (a.put o.dst undef) w'
    rw [e]
    exact kk w' hS'
/-- A function value. -/
theorem qmf2 {f : FuncId} {A B : Array Operand} {va vb : List Value} {d : Tmp} (hE : Env a n env) (k : ∀ a', Env a' n ((d, .func (.func f) va.toArray vb.toArray) :: env) → K a' w) (ho : o.op = .makeFunc (.func f) A B := by exact rfl) (ha : argsOf env A.toList = some va := by exact rfl) (hb : argsOf env B.toList = some vb := by exact rfl) (hd : o.dst = some d := by exact rfl) (hlt : Nat.blt d n = true := by exact rfl) : o.wp P a w K Q := by
  have e1 : A.map a.eval = va.toArray := Array.toList_inj.1 (by simpa using hE.args ha)
  have e2 : B.map a.eval = vb.toArray := Array.toList_inj.1 (by simpa using hE.args hb)
  refine o_makeFunc hE ho e1 e2 ?_ hd hlt k
  rfl
/-- A call of a function value. -/
theorem qcF {f : FuncId} {x : Operand} {cs : List Value} {as : Array Operand} {ts : Array TypeId} {vs : List Value} {R : Value → World → Prop} {d : Tmp} (hE : Env a n env) (hc : Calls P f (vs ++ cs).toArray w fun e w' => ∃ v, e = .returned v ∧ R v w') (kk : ∀ v a' w', R v w' → Env a' n ((d, v) :: env) → K a' w') (ho : o.op = .call { callee := .value x, args := as, argTypes := ts } := by exact rfl)
    (hx : opv env x = some (.func (.func f) #[] cs.toArray) := by exact rfl) (F : FnTy P f := by infer_instance) (ha : argsOf env as.toList = some vs := by exact rfl) (hd : o.dst = some d := by exact rfl) (hlt : Nat.blt d n = true := by exact rfl) : o.wp P a w K Q := by
  obtain ⟨fn, hf, hn, hb⟩ := F.h
  have hm : as.map a.eval = vs.toArray := Array.toList_inj.1 (by simpa using hE.args ha)
  have hr : (execOp a.eval o).run P w = .ok (.enter f (vs ++ cs).toArray) w := by
    have hb' : fn.body ≠ none := by intro h; rw [h] at hb; simp at hb
    have hn' : fn.name ≠ "runtime.NumGoroutine" := by simpa using hn
    simp [execOp, ho, resolve, hm, hE.eval hx, Deferred.ofValue, invoke, callFunc, program, Sem.run, hf, hn', hb']
  unfold Oper.wp
  rw [hr]
  refine Calls.mono hc ?_
  rintro e w' ⟨v, rfl, hR⟩
  exact kk v _ w' hR (hE.putS v hd hlt)
end
end Go.Sx

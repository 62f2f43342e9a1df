/- DERIVED. Fields of records that were there at the start. No condition. -/
import Derived.Test.YtbhddlllpgfgiaaSv
namespace Go.Sx
open Go.RowKit
set_option linter.unusedVariables false
set_option linter.unusedSimpArgs false
section
variable {P : Program} {o : Oper} {a : Act} {w w0 : World} {Q : Exit → Act → World → Prop} {n : Nat} {env : List (Nat × Value)} {L L' : List Asn} {K : Act → World → Prop} {G : List (Nat × List Value × TypeId)}
theorem fld_at {α : Type} {f : α → List Value} {m off : Nat} {l : List α} {df : α} {ad p : Addr} {i : Int} {v : Value} (hf : ∀ x, (f x).length = m) (hA : At w ad (l.flatMap f)) (h0 : 0 ≤ i) (h1 : i < (l.length : Int)) (hus : (f (l.getD i.toNat df))[off]? = some v) (hpp : p = ad.add (i.toNat * m + off)) : At w p (v :: (f (l.getD i.toNat df)).drop (off + 1)) := by
  subst hpp
  have hA := (flat_at hf hA i h0 h1 df).drop off
  rw [Addr.add_add] at hA
  rwa [show (f (l.getD i.toNat df)).drop off = v :: (f (l.getD i.toNat df)).drop (off + 1) by rw [← (List.getElem?_eq_some_iff.1 hus).2]; exact List.drop_eq_getElem_cons _] at hA
theorem flds_at {α : Type} {f : α → List Value} {m off : Nat} {l : List α} {df : α} {ad p : Addr} {i : Int} (hf : ∀ x, (f x).length = m) (hA : At w ad (l.flatMap f)) (h0 : 0 ≤ i) (h1 : i < (l.length : Int)) (hpp : p = ad.add (i.toNat * m + off)) : At w p ((f (l.getD i.toNat df)).drop off) := by
  subst hpp
  have hA := (flat_at hf hA i h0 h1 df).drop off
  rwa [Addr.add_add] at hA
/-- Which function an operation calls. -/
def callOf (o : Oper) : Option Nat := match o.op with
  | .call c => match c.callee with
    | .value (.func f) => some f
    | _ => none
  | _ => none
theorem is_call (f : Nat) (h : callOf o = some f) (k : o.wp P a w K Q) : o.wp P a w K Q := k
/-- A cut behind a condition. -/
theorem c_midc {t : Tmp} {ca cb c2 : Code} {I : Act → World → Prop} (h1 : (Code.cond (.tmp t) ca cb).wp P (Exit.then I Q) a w) (h2 : ∀ a w, I a w → c2.wp P Q a w) : ((Code.cond (.tmp t) ca cb).seq c2).wp P Q a w :=
  wp_seq (Code.wp_mono (fun e a w h => by cases e <;> first | exact h2 _ _ h | exact h) h1)
theorem c_mids {t : Tmp} {r ca cb c2 : Code} {I : Act → World → Prop} (h1 : (r.seq (Code.cond (.tmp t) ca cb)).wp P (Exit.then I Q) a w) (h2 : ∀ a w, I a w → c2.wp P Q a w) : ((r.seq (Code.cond (.tmp t) ca cb)).seq c2).wp P Q a w :=
  wp_seq (Code.wp_mono (fun e a w h => by cases e <;> first | exact h2 _ _ h | exact h) h1)
/-- A field of what lies in a row. -/
theorem qFF {ty : TypeId} {f off : Nat} {x : Operand} {ad : Addr} {q : Nat} {d : Tmp} (hE : Env a n env) (k : ∀ a', Env a' n ((d, .pointer (some (ad.add (q + off)))) :: env) → K a' w) (ho : o.op = .fieldAddr ty x f := by exact rfl) (T : FieldTy P ty f off := by infer_instance) (hx : opv env x = some (.pointer (some (ad.add q))) := by exact rfl) (hd : o.dst = some d := by exact rfl) (hlt : Nat.blt d n = true := by exact rfl) : o.wp P a w K Q :=
  o_field hE ho hx hd hlt (by rw [Addr.add_add]; exact k)
theorem y_fieldFF {S : World → Prop} {ty : TypeId} {f off : Nat} {x : Operand} {ad : Addr} {q : Nat} (ho : o.op = .fieldAddr ty x f := by exact rfl) (T : FieldTy P ty f off := by infer_instance) (hx : opv env x = some (.pointer (some (ad.add q))) := by exact rfl) : Y P env S o (.pointer (some (ad.add (q + off)))) := by
  rw [← Addr.add_add]
  exact y_fieldF ho T hx
/-- A record's field in an owned row, its address in one. -/
theorem qlFF {α : Type} {f : α → List Value} {l : List α} {df : α} (off : Nat) {ty m e : TypeId} {x : Operand} {A : Option Addr} {N c : Nat} {i : Int} {v : Value} {p : Addr} {d : Tmp} (hE : Env a n env) (hS : Sep w0 w L) (hf : ∀ x, (f x).length = m) (hus : (f (l.getD i.toNat df))[off]? = some v) (k : ∀ a', Env a' n ((d, v) :: env) → K a' w)
    (ho : o.op = .load ty x := by exact rfl) (T : TyInfo P ty false 1 := by infer_instance) (hx : opv env x = some (.pointer (some p)) := by exact rfl) (hp : Pull (row e m (.slice A N c) N (l.flatMap f)) L L' := by repeat (first | exact Pull.here | apply Pull.there)) (hpp : p = (adr A).add (i.toNat * m + off) := by first | exact rfl | exact Addr.add_add _ _ _)
    (h0 : 0 ≤ i := by omega) (h1 : i < (l.length : Int) := by omega) (hd : o.dst = some d := by exact rfl) (hlt : Nat.blt d n = true := by exact rfl) : o.wp P a w K Q := by
  have hA := fld_at hf ((Rd.row hS hp).at_) h0 h1 hus hpp
  have h := run_loadAt (P := P) (ty := ty) (us := [v]) hA rfl rfl (fun _ => rfl)
  exact o_val hE (by simp only [execOp, ho, hE.eval hx]; rw [Sem.run_bind, h]; rfl) hd hlt k
/-- The whole of a block is written anew. -/
theorem qst0 {ty m : TypeId} {b : Bool} {x y : Operand} {g : Nat} {cs cs' : List Value} {t : TypeId} {L' : List Asn} {v : Value} (hE : Env a n env) (hS : Sep w0 w L) (k : ∀ w', Sep w0 w' (blk g cs' t :: L') → K a w') (ho : o.op = .store ty x y := by exact rfl) (T : TyInfo P ty b m := by infer_instance) (hx : opv env x = some (.pointer (some ⟨g, 0, none⟩)) := by exact rfl) (hy : opv env y = some v := by exact rfl)
    (hp : Pull (blk g cs t) L L' := by repeat (first | exact Pull.here | apply Pull.there)) (hm : (cellsL v).length = m := by exact rfl) (h1' : (cellsL v).all Value.oneCell' = true := by exact rfl) (hl : Nat.beq (cellsL v).length cs.length = true := by exact rfl) (hc : cellsL v = cs' := by (try simp only [cellsL_agg, cellsL_int, cellsL_bool, cellsL_string, cellsL_slice, cellsL_pointer, cellsL_map, cellsL_func, cellsL_nilFunc, cellsL_iface, cellsL_nilIface]); first | done | rfl) (hd : o.dst = none := by exact rfl) : o.wp P a w K Q := by
  have hl := Nat.eq_of_beq_eq_true hl
  refine qst hE hS k ho T hx hy hp hm h1' (Nat.ble_eq_true_of_le (by omega)) ?_ hd
  subst hc
  simp [putL, hl]
/-- A slice of one. -/
theorem qbs1 {ty e : TypeId} {sz : Nat} {zs cs' : List Value} {y : Operand} {v : Value} {d : Tmp} (hE : Env a n env) (hS : Sep w0 w L) (k : ∀ g a' w', Env a' n ((d, .slice (some ⟨g, 0, none⟩) 1 1) :: env) → Sep w0 w' (row e sz (.slice (some ⟨g, 0, none⟩) 1 1) 1 cs' :: L) → K a' w') (ho : o.op = .buildSlice ty 1 #[(0, y)] := by exact rfl) (T : SliceTy P ty e sz := by infer_instance) (Z : ZeroTy P e zs := by infer_instance) (hy : opv env y = some v := by exact rfl) (hz : Nat.beq zs.length sz = true := by exact rfl) (hsz : Nat.ble sz 4096 = true := by exact rfl) (hs1 : Nat.ble 1 sz = true := by exact rfl)
    (hm : Nat.beq (cellsL v).length sz = true := by exact rfl) (hc : cellsL v = cs' := by (try simp only [cellsL_agg, cellsL_int, cellsL_bool, cellsL_string, cellsL_slice, cellsL_pointer, cellsL_map, cellsL_func, cellsL_nilFunc, cellsL_iface, cellsL_nilIface]); first | done | rfl) (hd : o.dst = some d := by exact rfl) (hlt : Nat.blt d n = true := by exact rfl) : o.wp P a w K Q := by
  have hz' := Nat.eq_of_beq_eq_true hz
  have hm' := Nat.eq_of_beq_eq_true hm
  have hsz' := Nat.le_of_ble_eq_true hsz
  have hs1' := Nat.le_of_ble_eq_true hs1
  subst hc
  refine qbs (vs := [(0, v)]) (cs := cellsL v) hE hS k ho T Z ?_ (Nat.ble_eq_true_of_le (by omega)) (Nat.ble_eq_true_of_le (by omega)) hz ?_ rfl (by simp [hm']) (by decide) hd hlt
  · simp [partsOf, hy]
  · have e1 : sz.ble sz = true := Nat.ble_eq_true_of_le (Nat.le_refl _)
    simp [bld, putL, hm', e1]
/-- A number in an owned row of numbers. -/
theorem qlI {ty e : TypeId} {x : Operand} {A : Option Addr} {N c : Nat} {i : Int} {xs : List Int} {v : Int} {d : Tmp} (hE : Env a n env) (hS : Sep w0 w L) (k : ∀ a', Env a' n ((d, .int .i64 v) :: env) → K a' w) (hv : xs.getD i.toNat 0 = v := by exact rfl) (ho : o.op = .load ty x := by exact rfl) (T : TyInfo P ty false 1 := by infer_instance) (hx : opv env x = some (.pointer (some ((adr A).add (i.toNat * 1)))) := by exact rfl)
    (hp : Pull (row e 1 (.slice A N c) N (ints xs)) L L' := by repeat (first | exact Pull.here | apply Pull.there)) (h0 : 0 ≤ i := by omega) (h1 : i < (xs.length : Int) := by omega) (hd : o.dst = some d := by exact rfl) (hlt : Nat.blt d n = true := by exact rfl) : o.wp P a w K Q := by
  subst hv
  refine qlr hE hS k ho T hx hp ?_ hd hlt
  have : i.toNat < xs.length := by omega
  simp [ints, this]
/-- A field of one cell. -/
theorem q0F {α : Type} {f : α → List Value} {l : List α} {df : α} (off : Nat) {ty m : TypeId} {x : Operand} {ad p : Addr} {i : Int} {v : Value} {d : Tmp} (hE : Env a n env) (hS : Sep w0 w L) (hf : ∀ x, (f x).length = m) (hA : At w0 ad (l.flatMap f)) (hus : (f (l.getD i.toNat df))[off]? = some v) (k : ∀ a', Env a' n ((d, v) :: env) → K a' w)
    (ho : o.op = .load ty x := by exact rfl) (T : TyInfo P ty false 1 := by infer_instance) (hx : opv env x = some (.pointer (some p)) := by exact rfl) (hpp : p = ad.add (i.toNat * m + off) := by first | exact rfl | exact Addr.add_add _ _ _)
    (h0 : 0 ≤ i := by omega) (h1 : i < (l.length : Int) := by omega) (hd : o.dst = some d := by exact rfl) (hlt : Nat.blt d n = true := by exact rfl) : o.wp P a w K Q :=
  q0 hE hS (fld_at hf hA h0 h1 hus hpp) k ho T hx hd hlt
/-- Some cells of it. -/
theorem q0FA {α : Type} {f : α → List Value} {l : List α} {df : α} (off : Nat) {ty m mm : TypeId} {x : Operand} {ad p : Addr} {i : Int} {us : List Value} {d : Tmp} (hE : Env a n env) (hS : Sep w0 w L) (hf : ∀ x, (f x).length = m) (hA : At w0 ad (l.flatMap f)) (hus : ((f (l.getD i.toNat df)).drop off).take mm = us) (k : ∀ a', Env a' n ((d, .agg us.toArray) :: env) → K a' w)
    (ho : o.op = .load ty x := by exact rfl) (T : TyInfo P ty true mm := by infer_instance) (hx : opv env x = some (.pointer (some p)) := by exact rfl) (hpp : p = ad.add (i.toNat * m + off) := by first | exact rfl | exact Addr.add_add _ _ _) (hm : us.length = mm := by exact rfl)
    (h0 : 0 ≤ i := by omega) (h1 : i < (l.length : Int) := by omega) (hd : o.dst = some d := by exact rfl) (hlt : Nat.blt d n = true := by exact rfl) : o.wp P a w K Q :=
  q00 hE hS (flds_at hf hA h0 h1 hpp) k ho T hx hus hm hd hlt
theorem y_load0F {α : Type} {f : α → List Value} {l : List α} {df : α} (off : Nat) {ty m : TypeId} {x : Operand} {ad p : Addr} {i : Int} {v : Value} (hf : ∀ x, (f x).length = m) (hA : At w0 ad (l.flatMap f)) (hus : (f (l.getD i.toNat df))[off]? = some v)
    (ho : o.op = .load ty x := by exact rfl) (T : TyInfo P ty false 1 := by infer_instance) (hx : opv env x = some (.pointer (some p)) := by exact rfl) (hpp : p = ad.add (i.toNat * m + off) := by first | exact rfl | exact Addr.add_add _ _ _) (h0 : 0 ≤ i := by omega) (h1 : i < (l.length : Int) := by omega) : Y P env (SS w0 G) o v :=
  y_load0 (fld_at hf hA h0 h1 hus hpp) ho T hx
theorem y_load0FA {α : Type} {f : α → List Value} {l : List α} {df : α} (off : Nat) {ty m mm : TypeId} {x : Operand} {ad p : Addr} {i : Int} {us : List Value} (hf : ∀ x, (f x).length = m) (hA : At w0 ad (l.flatMap f)) (hus : ((f (l.getD i.toNat df)).drop off).take mm = us)
    (ho : o.op = .load ty x := by exact rfl) (T : TyInfo P ty true mm := by infer_instance) (hx : opv env x = some (.pointer (some p)) := by exact rfl) (hpp : p = ad.add (i.toNat * m + off) := by first | exact rfl | exact Addr.add_add _ _ _) (hm : us.length = mm := by exact rfl) (h0 : 0 ≤ i := by omega) (h1 : i < (l.length : Int) := by omega) : Y P env (SS w0 G) o (.agg us.toArray) :=
  y_loadA0 (flds_at hf hA h0 h1 hpp) ho T hx hus hm
end
end Go.Sx

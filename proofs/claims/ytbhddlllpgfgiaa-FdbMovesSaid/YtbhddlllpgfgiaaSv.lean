/- DERIVED. Other operators; elements of owned rows read and written as records. No condition. -/
import Derived.Test.YtbhddlllpgfgiaaSu
namespace Go.Sx
open Go.RowKit
set_option linter.unusedVariables false
set_option linter.unusedSimpArgs false
section
variable {P : Program} {t : TypeId} {x y : Operand} {kd : IntKind} {i j : Int}
def bAnd (k : IntKind) (x y : Int) : Int := k.wrap ((BitVec.ofInt k.bits x &&& BitVec.ofInt k.bits y).toNat)
def bOr (k : IntKind) (x y : Int) : Int := k.wrap ((BitVec.ofInt k.bits x ||| BitVec.ofInt k.bits y).toNat)
def bXor (k : IntKind) (x y : Int) : Int := k.wrap ((BitVec.ofInt k.bits x ^^^ BitVec.ofInt k.bits y).toNat)
theorem bin_and : Bin P .and t x y (.int kd i) (.int kd j) (.int kd (bAnd kd i j)) := fun w => by simp [eqGuard, binOp, Op.intBits, bAnd]
theorem bin_or : Bin P .or t x y (.int kd i) (.int kd j) (.int kd (bOr kd i j)) := fun w => by simp [eqGuard, binOp, Op.intBits, bOr]
theorem bin_xor : Bin P .xor t x y (.int kd i) (.int kd j) (.int kd (bXor kd i j)) := fun w => by simp [eqGuard, binOp, Op.intBits, bXor]
theorem bin_quo (h : j ≠ 0) : Bin P .quo t x y (.int kd i) (.int kd j) (.int kd (kd.wrap (i.tdiv j))) := fun w => by simp [eqGuard, binOp, Op.intDiv, h]
theorem bin_rem (h : j ≠ 0) : Bin P .rem t x y (.int kd i) (.int kd j) (.int kd (i.tmod j)) := fun w => by simp [eqGuard, binOp, Op.intDiv, h]
theorem bin_shl {k2 : IntKind} (h : 0 ≤ j) : Bin P .shl t x y (.int kd i) (.int k2 j) (.int kd (kd.wrap (i * 2 ^ (min j.toNat kd.bits)))) := fun w => by simp [eqGuard, binOp, Op.shift, Int.not_lt.2 h]
theorem bin_shr {k2 : IntKind} (h : 0 ≤ j) : Bin P .shr t x y (.int kd i) (.int k2 j) (.int kd (i.fdiv (2 ^ (min j.toNat kd.bits)))) := fun w => by simp [eqGuard, binOp, Op.shift, Int.not_lt.2 h]
theorem bAnd_mask (x : Int) (n : Nat) (h : n ≤ 62) : bAnd .i64 x (2 ^ n - 1 : Nat) = x % 2 ^ n := by
  have e : (BitVec.ofInt 64 x &&& BitVec.ofInt 64 ((2 ^ n - 1 : Nat) : Int)).toNat = (x % 2 ^ 64).toNat % 2 ^ n := by
    rw [BitVec.toNat_and, BitVec.ofInt_natCast, BitVec.toNat_ofInt, BitVec.toNat_ofNat]
    have hlt : 2 ^ n - 1 < 2 ^ 64 := by have := Nat.pow_le_pow_right (n := 2) (by decide) (show n ≤ 64 by omega); have := Nat.two_pow_pos n; omega
    rw [Nat.mod_eq_of_lt hlt, Nat.and_two_pow_sub_one_eq_mod]
    rfl
  have hx : ((x % 2 ^ 64).toNat : Int) = x % 2 ^ 64 := Int.toNat_of_nonneg (Int.emod_nonneg _ (by decide))
  have e2 : (((x % 2 ^ 64).toNat % 2 ^ n : Nat) : Int) = x % 2 ^ n := by
    rw [Int.natCast_emod, hx]
    have : ((2 ^ n : Nat) : Int) ∣ 2 ^ 64 := by
      have : (2 : Nat) ^ n ∣ 2 ^ 64 := Nat.pow_dvd_pow 2 (by omega)
      exact_mod_cast this
    rw [Int.emod_emod_of_dvd _ this]
    simp
  have e3 : bAnd .i64 x (2 ^ n - 1 : Nat) = IntKind.i64.wrap (x % 2 ^ n) := by
    unfold bAnd
    rw [← e2, ← e]
    rfl
  rw [e3]
  have h1 : (0 : Int) ≤ x % 2 ^ n := Int.emod_nonneg _ (by have : (0 : Int) < 2 ^ n := Int.pow_pos (by decide); omega)
  have h2 : x % 2 ^ n < 2 ^ n := Int.emod_lt_of_pos _ (Int.pow_pos (by decide))
  have h3 : (2 : Int) ^ n ≤ 2 ^ 62 := by
    have : (2 : Nat) ^ n ≤ 2 ^ 62 := Nat.pow_le_pow_right (by decide) h
    exact_mod_cast this
  exact wrap_in (by omega) (by omega)
end
section
variable {P : Program} {o : Oper} {a : Act} {w w0 : World} {Q : Exit → Act → World → Prop} {n : Nat} {env : List (Nat × Value)} {L L' : List Asn} {K : Act → World → Prop}
theorem qb2 {op : BinOp} {t t' : TypeId} {x y : Operand} {u v r : Value} {d : Tmp} (hE : Env a n env) (k : ∀ a', Env a' n ((d, r) :: env) → K a' w) (ho : o.op = .binOp op t x y t' := by exact rfl) (hx : opv env x = some u := by exact rfl) (hy : opv env y = some v := by exact rfl) (hb : Bin P op t x y u v r := by first | exact bin_and | exact bin_or | exact bin_xor | exact bin_quo (by omega) | exact bin_rem (by omega) | exact bin_shl (by omega) | exact bin_shr (by omega)) (hd : o.dst = some d := by exact rfl) (hlt : Nat.blt d n = true := by exact rfl) : o.wp P a w K Q := o_bin hE ho hx hy hb hd hlt k
theorem y_bin2 {S : World → Prop} {op : BinOp} {t t' : TypeId} {x y : Operand} {u v r : Value} (ho : o.op = .binOp op t x y t' := by exact rfl) (hx : opv env x = some u := by exact rfl) (hy : opv env y = some v := by exact rfl) (hb : Bin P op t x y u v r := by first | exact bin_and | exact bin_or | exact bin_xor | exact bin_quo (by omega) | exact bin_rem (by omega) | exact bin_shl (by omega) | exact bin_shr (by omega)) : Y P env S o r := y_bin ho hx hy hb
theorem qng {t : TypeId} {x : Operand} {kd : IntKind} {i : Int} {d : Tmp} (hE : Env a n env) (k : ∀ a', Env a' n ((d, .int kd (kd.wrap (-i))) :: env) → K a' w) (ho : o.op = .unOp .neg t x := by exact rfl) (hx : opv env x = some (.int kd i) := by exact rfl) (hd : o.dst = some d := by exact rfl) (hlt : Nat.blt d n = true := by exact rfl) : o.wp P a w K Q :=
  o_val hE (by simp [execOp, ho, hE.eval hx, Op.unary, Op.intArith]) hd hlt k
/-- A record in an owned row. -/
theorem qlR {α : Type} {f : α → List Value} {l : List α} {df : α} {ty e m : TypeId} {x : Operand} {A : Option Addr} {N c : Nat} {i : Int} {us : List Value} {d : Tmp} (hE : Env a n env) (hS : Sep w0 w L) (hf : ∀ x, (f x).length = m) (hus : f (l.getD i.toNat df) = us) (k : ∀ a', Env a' n ((d, .agg us.toArray) :: env) → K a' w)
    (ho : o.op = .load ty x := by exact rfl) (T : TyInfo P ty true m := by infer_instance) (hx : opv env x = some (.pointer (some ((adr A).add (i.toNat * m)))) := by exact rfl) (hp : Pull (row e m (.slice A N c) N (l.flatMap f)) L L' := by repeat (first | exact Pull.here | apply Pull.there))
    (h0 : 0 ≤ i := by omega) (h1 : i < (l.length : Int) := by omega) (hd : o.dst = some d := by exact rfl) (hlt : Nat.blt d n = true := by exact rfl) : o.wp P a w K Q := by
  subst hus
  have h := run_loadAt (P := P) (ty := ty) (flat_at hf ((Rd.row hS hp).at_) i h0 h1 df) (by rw [List.take_of_length_le (by rw [hf]; exact Nat.le_refl _)]) (hf _) (fun h => by cases h)
  exact o_val hE (by simp only [execOp, ho, hE.eval hx]; rw [Sem.run_bind, h]; rfl) hd hlt k
/-- A record's field in an owned row. -/
theorem qlF {α : Type} {f : α → List Value} {l : List α} {df : α} {ty e m off : TypeId} {x : Operand} {A : Option Addr} {N c : Nat} {i : Int} {v : Value} {d : Tmp} (hE : Env a n env) (hS : Sep w0 w L) (hf : ∀ x, (f x).length = m) (hus : (f (l.getD i.toNat df))[off]? = some v) (k : ∀ a', Env a' n ((d, v) :: env) → K a' w)
    (ho : o.op = .load ty x := by exact rfl) (T : TyInfo P ty false 1 := by infer_instance) (hx : opv env x = some (.pointer (some (((adr A).add (i.toNat * m)).add off))) := by exact rfl) (hp : Pull (row e m (.slice A N c) N (l.flatMap f)) L L' := by repeat (first | exact Pull.here | apply Pull.there))
    (h0 : 0 ≤ i := by omega) (h1 : i < (l.length : Int) := by omega) (hd : o.dst = some d := by exact rfl) (hlt : Nat.blt d n = true := by exact rfl) : o.wp P a w K Q := by
  have hA := (flat_at hf ((Rd.row hS hp).at_) i h0 h1 df).drop off
  have e1 : (f (l.getD i.toNat df)).drop off = v :: (f (l.getD i.toNat df)).drop (off + 1) := by rw [← (List.getElem?_eq_some_iff.1 hus).2]; exact List.drop_eq_getElem_cons _
  rw [e1] at hA
  have h := run_loadAt (P := P) (ty := ty) (us := [v]) hA rfl rfl (fun _ => rfl)
  exact o_val hE (by simp only [execOp, ho, hE.eval hx]; rw [Sem.run_bind, h]; rfl) hd hlt k
theorem flat_len {α : Type} {f : α → List Value} {m : Nat} (hf : ∀ x, (f x).length = m) : ∀ l : List α, (l.flatMap f).length = l.length * m
  | [] => by simp
  | x :: l => by simp only [List.flatMap_cons, List.length_append, List.length_cons, hf, flat_len hf l, Nat.add_mul]; omega
theorem flat_set {α : Type} {f : α → List Value} {m : Nat} (hf : ∀ x, (f x).length = m) {l : List α} {i off : Nat} {us : List Value} {df x' : α} (hi : i < l.length) (hu : off + us.length ≤ m) (h : putL (f (l.getD i df)) off us = f x') : putL (l.flatMap f) (i * m + off) us = (l.set i x').flatMap f := by
  have e : l = l.take i ++ (l[i] :: l.drop (i + 1)) := by rw [← List.drop_eq_getElem_cons hi, List.take_append_drop]
  have hg : l.getD i df = l[i] := by simp [hi]
  rw [hg] at h
  have hl : ((l.take i).flatMap f).length = i * m := by rw [flat_len hf, List.length_take, Nat.min_eq_left (Nat.le_of_lt hi)]
  have hset : l.set i x' = l.take i ++ (x' :: l.drop (i + 1)) := by rw [List.set_eq_take_append_cons_drop, if_pos hi]
  rw [hset, List.flatMap_append, List.flatMap_cons, ← h]
  conv => lhs; rw [e, List.flatMap_append, List.flatMap_cons]
  generalize (l.take i).flatMap f = p at *
  generalize (l.drop (i + 1)).flatMap f = q at *
  have hm := hf l[i]
  generalize f l[i] = z at *
  unfold putL
  have e1 : (p ++ (z ++ q)).take (i * m + off) = p ++ z.take off := by
    rw [← hl, List.take_length_add_append, List.take_append_of_le_length (by omega)]
  have e2 : (p ++ (z ++ q)).drop (i * m + off + us.length) = z.drop (off + us.length) ++ q := by
    rw [← hl, Nat.add_assoc, List.drop_length_add_append, List.drop_append_of_le_length (by omega)]
  rw [e1, e2]
  simp only [List.append_assoc]
/-- A store into an owned row. -/
theorem o_storeR {ty m e : TypeId} {b : Bool} {x y : Operand} {A : Option Addr} {sz N c k : Nat} {xs xs' : List Value} {v : Value} {p : Addr} [T : TyInfo P ty b m] (hE : Env a n env) (hS : Sep w0 w L) (ho : o.op = .store ty x y) (hx : opv env x = some (.pointer (some p))) (hy : opv env y = some v) (hpp : p = (adr A).add k)
    (hp : Pull (row e sz (.slice A N c) N xs) L L') (hm : (cellsL v).length = m) (h1' : (cellsL v).all Value.oneCell' = true) (hpos : 0 < (cellsL v).length) (hf : k + (cellsL v).length ≤ xs.length) (hc : putL xs k (cellsL v) = xs') (hd : o.dst = none)
    (kk : ∀ w', Sep w0 w' (row e sz (.slice A N c) N xs' :: L') → K a w') : o.wp P a w K Q := by
  have h1 : ∀ u ∈ v.cells.toList, u.oneCell' = true := fun u hu => List.all_eq_true.1 h1' u hu
  obtain ⟨i, hi, hs⟩ := info_of T.h2
  have hmm : v.cells.size = m := by rw [← hm]; simp [cellsL]
  have hz : (sizeOf ty).run P w = .ok v.cells.size w := by simp [sizeOf, typeInfo, hi, hs, hmm]
  have hrow := hS.row_at hp
  have hxl := hrow.1
  rcases hrow.2 with ⟨hv, rfl⟩ | ⟨g, cap, cur, hv, hbg, hg, hnc, hcm, hcs, htake⟩
  · exfalso
    have : xs.length = 0 := by simpa using hxl
    omega
  · cases hv
    have hcu : cur.toList.length = cur.size := Array.length_toList
    have hle : xs.length ≤ cur.size := by rw [hxl]; exact Nat.le_trans (Nat.mul_le_mul_right _ hnc) hcs
    have hst := run_storeCells_at P g k e v.cells.toList 0 cur w hg (by have : v.cells.toList.length = (cellsL v).length := rfl; rw [this]; omega) h1
    subst hpp
    subst hc
    have hxc : xs = cur.toList.take xs.length := by rw [hxl]; exact htake.symm
    have hcl : (putL cur.toList k (cellsL v)).length = cur.size := by rw [putL_length (by rw [hcu]; omega)]; exact hcu
    have hS' : Sep w0 (w.setRow g (putL cur.toList k (cellsL v)).toArray) ([row e sz (.slice (some ⟨g, 0, none⟩) N c) N (putL xs k (cellsL v))] ++ L') := by
      refine Sep.turn (M := [row e sz (.slice (some ⟨g, 0, none⟩) N c) N (putL xs k (cellsL v))]) (hS.pull hp) rfl rfl rfl (by simp) fun F hA hF => ⟨fun q _ hq => setRow_other w g q _ (fun e => hq ((hA.2 q).2 (by simp [Value.ownBlock, e]))), fun q => q = g, ⟨fun q => q = g, fun _ => False, fun q => by simp, fun _ _ h => h, ⟨⟨?_, .inr ⟨g, c, _, rfl, hbg, setRow_heap w g cur _ e _ hg, hnc, hcm, ?_, ?_⟩⟩, fun q => by simp [Value.ownBlock, eq_comm]⟩, fun _ h => h⟩, fun q hq => ?_⟩
      · rw [putL_length hf]; exact hxl
      · rw [List.size_toArray, hcl]; exact hcs
      · show (putL cur.toList k (cellsL v)).take (N * sz) = putL xs k (cellsL v)
        rw [← hxl]
        conv => rhs; rw [hxc]
        unfold putL
        rw [List.take_append, List.take_append, List.take_take, List.take_take, List.length_append, List.length_take, hcu]
        rw [Nat.min_eq_left (show k ≤ cur.size by omega), Nat.min_eq_right (show k ≤ xs.length by omega), List.take_of_length_le (show (cellsL v).length ≤ xs.length - k by omega), List.drop_take, Nat.min_eq_left (show k ≤ xs.length by omega)]
      · subst hq
        have h1 := (hA.2 q).2 (by simp [Value.ownBlock])
        exact ⟨.inl h1, by have := hF q h1; simpa using this⟩
    have had : (adr (some (⟨g, 0, none⟩ : Addr))).add k = ⟨g, k, none⟩ := by
      by_cases hk : k = 0 <;> simp [adr, Addr.add, hk]
    have hr : (execOp a.eval o).run P w = .ok .skip (w.setRow g (putL cur.toList k (cellsL v)).toArray) := by
      simp only [execOp, ho, hE.eval hx, hE.eval hy, Instr.storeAt, Instr.sureAddr, storeVar]
      simp only [Sem.run_bind, Sem.run_pure, Result.andThen_ok, hz, ne_eq, not_true_eq_false, if_false, had]
      rw [hst]
      simp [putL, cellsL]
    unfold Oper.wp
    rw [hr]
    show K (a.put o.dst undef) _
    rw [hd]
    exact kk _ hS'
/-- A record, or a part of one, is written anew in an owned row. -/
theorem qsR {α : Type} {f : α → List Value} {l : List α} {df : α} (x' : α) {ty m e mm off : TypeId} {b : Bool} {x y : Operand} {A : Option Addr} {N c : Nat} {i : Int} {v : Value} {p : Addr} (hE : Env a n env) (hS : Sep w0 w L) (hf : ∀ x, (f x).length = mm) (hset : putL (f (l.getD i.toNat df)) off (cellsL v) = f x')
    (kk : ∀ w', Sep w0 w' (row e mm (.slice A N c) N ((l.set i.toNat x').flatMap f) :: L') → K a w')
    (ho : o.op = .store ty x y := by exact rfl) (T : TyInfo P ty b m := by infer_instance) (hx : opv env x = some (.pointer (some p)) := by exact rfl) (hy : opv env y = some v := by exact rfl) (hpp : p = (adr A).add (i.toNat * mm + off) := by first | exact rfl | exact Addr.add_add _ _ _ | (simp only [Addr.add_add, Nat.add_assoc, Nat.add_zero]; done))
    (hp : Pull (row e mm (.slice A N c) N (l.flatMap f)) L L' := by repeat (first | exact Pull.here | apply Pull.there)) (hm : (cellsL v).length = m := by exact rfl) (h1' : (cellsL v).all Value.oneCell' = true := by exact rfl) (hpos : Nat.blt 0 (cellsL v).length = true := by exact rfl) (hfit : Nat.ble (off + (cellsL v).length) mm = true := by exact rfl)
    (h0 : 0 ≤ i := by omega) (h1 : i < (l.length : Int) := by omega) (hd : o.dst = none := by exact rfl) : o.wp P a w K Q := by
  have hi : i.toNat < l.length := by omega
  have hfit := Nat.le_of_ble_eq_true hfit
  have hpos : 0 < (cellsL v).length := by have := Nat.le_of_ble_eq_true hpos; omega
  have hmul : (i.toNat + 1) * mm ≤ l.length * mm := Nat.mul_le_mul_right _ hi
  exact o_storeR hE hS ho hx hy hpp hp hm h1' hpos (by rw [flat_len hf]; rw [Nat.add_mul] at hmul; omega) (flat_set hf hi hfit hset) hd kk
theorem Rd.flat_take {α : Type} {f : α → List Value} {A : Option Addr} {l : List α} (h : Rd w A (l.flatMap f)) (k : Nat) : Rd w A ((l.take k).flatMap f) := fun j u hj => by
  refine h j u ?_
  have e : l.flatMap f = (l.take k).flatMap f ++ (l.drop k).flatMap f := by rw [← List.flatMap_append, List.take_append_drop]
  rw [e, List.getElem?_append_left (List.getElem?_eq_some_iff.1 hj).1]
  exact hj
end
end Go.Sx

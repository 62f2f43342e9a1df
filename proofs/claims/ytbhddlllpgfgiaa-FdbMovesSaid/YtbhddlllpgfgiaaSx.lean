/- DERIVED. The walk of this seat: the frame's temporaries as a list, the heap as resources; one law an operation. No condition. -/
import Derived.Test.YtbhddlllpgfgiaaSep
import Derived.Orders
import Derived.Deep.LoopGhost
namespace Go.Sx
open Go.RowKit
set_option linter.unusedVariables false
set_option linter.unusedSimpArgs false

def find : List (Nat × Value) → Nat → Option Value
  | [], _ => none
  | (k, v) :: r, t => bif Nat.beq k t then some v else find r t
/-- What is known of a frame: how many temporaries, nothing deferred, these values. -/
structure Env (a : Act) (n : Nat) (env : List (Nat × Value)) : Prop where
  size : a.tmps.size = n
  defers : a.defers = []
  at_ : ∀ t v, find env t = some v → a.tmps.getD t undef = v
def opv (env : List (Nat × Value)) : Operand → Option Value
  | .tmp t => find env t
  | .const v => some v
  | .func f => some (.func (.func f) #[] #[])
  | .global g => some (.pointer (some ⟨g, 0, none⟩))
theorem Env.eval {a : Act} {n : Nat} {env : List (Nat × Value)} (h : Env a n env) {x : Operand} {v : Value} (hx : opv env x = some v) : a.eval x = v := by
  cases x with
  | tmp t => exact h.at_ t v hx
  | const u => exact Option.some.inj hx
  | func f => exact Option.some.inj hx
  | global g => exact Option.some.inj hx
def putE (env : List (Nat × Value)) (d : Option Tmp) (v : Value) : List (Nat × Value) :=
  match d with
  | some d => (d, v) :: env
  | none => env
def inF (d : Option Tmp) (n : Nat) : Bool :=
  match d with
  | some d => Nat.blt d n
  | none => true
theorem Env.put {a : Act} {n : Nat} {env : List (Nat × Value)} (h : Env a n env) {d : Option Tmp} (v : Value) (hd : inF d n = true) : Env (a.put d v) n (putE env d v) := by
  cases d with
  | none => exact h
  | some d =>
    have hlt : d < n := by simpa [inF, Nat.blt_eq] using hd
    refine ⟨by simpa [Act.put] using h.size, h.defers, fun t u hu => ?_⟩
    simp only [putE, find] at hu
    by_cases e : d = t
    · subst e
      simp at hu
      subst hu
      simp [Act.put, h.size, hlt]
    · have hne : Nat.beq d t = false := by
        cases hb : Nat.beq d t with
        | false => rfl
        | true => exact absurd (Nat.eq_of_beq_eq_true hb) e
      rw [hne] at hu
      have := h.at_ t u hu
      simpa [Act.put, Array.getElem?_setIfInBounds_ne e] using this
/-- Less is known. -/
theorem Env.less {a : Act} {n : Nat} {env env' : List (Nat × Value)} (h : Env a n env) (hs : ∀ p ∈ env', find env p.1 = some p.2) : Env a n env' := by
  refine ⟨h.size, h.defers, fun t v hv => ?_⟩
  have : ∀ (l : List (Nat × Value)), (∀ p ∈ l, find env p.1 = some p.2) → find l t = some v → a.tmps.getD t undef = v := by
    intro l
    induction l with
    | nil => intro _ h; simp [find] at h
    | cons p l ih =>
      intro hl hf
      obtain ⟨k, u⟩ := p
      simp only [find] at hf
      by_cases e : Nat.beq k t = true
      · rw [e] at hf
        simp at hf
        subst hf
        have := hl (k, u) (by simp)
        have e' := Nat.eq_of_beq_eq_true e
        subst e'
        exact h.at_ k u this
      · rw [Bool.not_eq_true] at e
        rw [e] at hf
        exact ih (fun p hp => hl p (by simp [hp])) hf
  exact this env' hs hv
def sub (env : List (Nat × Value)) : List (Nat × Value) → Prop
  | [] => True
  | (k, v) :: r => find env k = some v ∧ sub env r
theorem Env.cut {a : Act} {n : Nat} {env env' : List (Nat × Value)} (h : Env a n env) (hs : sub env env') : Env a n env' := by
  refine h.less ?_
  induction env' with
  | nil => intro p hp; cases hp
  | cons q r ih =>
    intro p hp
    obtain ⟨h1, h2⟩ := hs
    rcases List.mem_cons.1 hp with rfl | hp
    · exact h1
    · exact ih h2 p hp
/-- A temporary's value, known better. -/
theorem Env.know {a : Act} {n : Nat} {env : List (Nat × Value)} (h : Env a n env) {t : Nat} {u v : Value} (hf : find env t = some u) (e : u = v) : Env a n ((t, v) :: env) := by
  subst e
  refine ⟨h.size, h.defers, fun s x hx => ?_⟩
  simp only [find] at hx
  by_cases e : Nat.beq t s = true
  · rw [e] at hx
    simp at hx
    subst hx
    have e' := Nat.eq_of_beq_eq_true e
    subst e'
    exact h.at_ _ _ hf
  · rw [Bool.not_eq_true] at e
    rw [e] at hx
    exact h.at_ s x hx

theorem Env.putS {a : Act} {n : Nat} {env : List (Nat × Value)} (h : Env a n env) {o : Oper} {d : Tmp} (v : Value) (hd : o.dst = some d) (hlt : Nat.blt d n = true) : Env (a.put o.dst v) n ((d, v) :: env) := by
  rw [hd]
  exact h.put v hlt
/-! ### lists of operations -/
section
variable {P : Program} {ops : Array Oper} {rest : List Oper} {o : Oper} {a : Act} {w w0 : World} {Q : Exit → Act → World → Prop} {n : Nat} {env : List (Nat × Value)} {L : List Asn} {K : Act → World → Prop}

def guardIs (ops : Array Oper) (env : List (Nat × Value)) (o : Oper) : Option Bool :=   -- is it wanted? (none: not known)
  match o.guard with
  | none => some true
  | some (j, want) => match ((ops[j]?).bind (·.dst)).bind (find env) with
    | some (.bool b) => some (b == want)
    | some (.tuple _) => some false
    | _ => none
theorem Env.guard (h : Env a n env) {b : Bool} (hg : guardIs ops env o = some b) : Region.wanted o (yielded ops a.tmps) = b := by
  unfold guardIs at hg
  unfold Region.wanted
  cases ho : o.guard with
  | none => rw [ho] at hg; simpa using hg
  | some p =>
    obtain ⟨j, want⟩ := p
    rw [ho] at hg
    simp only at hg ⊢
    cases hd : (ops[j]?).bind (·.dst) with
    | none => rw [hd] at hg; simp at hg
    | some d =>
      rw [hd] at hg
      simp only [Option.bind_some] at hg
      cases hf : find env d with
      | none => rw [hf] at hg; simp at hg
      | some v =>
        rw [hf] at hg
        have hv := h.at_ d v hf
        cases v <;> simp at hg
        case tuple q =>
          subst hg
          simp only [yielded, hd, Option.bind_some]
          by_cases hlt : d < a.tmps.size
          · have hq : a.tmps[d]? = some (.tuple q) := by
              rw [Array.getElem?_eq_getElem hlt]
              simpa [Array.getD, hlt] using hv
            rw [hq]
            rfl
          · rw [Array.getElem?_eq_none (Nat.le_of_not_lt hlt)]
            rfl
        rename_i c
        subst hg
        have hlt : d < a.tmps.size := by
          rcases Nat.lt_or_ge d a.tmps.size with h1 | h1
          · exact h1
          · simp [Array.getD, Nat.not_lt.2 h1, undef] at hv
        have hq : a.tmps[d]? = some (.bool c) := by
          rw [Array.getElem?_eq_getElem hlt]
          simpa [Array.getD, hlt] using hv
        simp only [yielded, hd, Option.bind_some, hq]
        cases c <;> cases want <;> rfl
/-- An operation of a list. -/
theorem wl (hE : Env a n env) (hg : guardIs ops env o = some true) (h : o.wp P a w (wpList P ops Q rest) Q) : wpList P ops Q (o :: rest) a w :=
  wpList_step fun K hK => by rw [if_pos (hE.guard hg)]; exact Oper.wp_mono hK h
theorem wl_skip (hE : Env a n env) (hg : guardIs ops env o = some false) {d : Tmp} (hd : o.dst = some d) (hlt : Nat.blt d n = true) (k : ∀ a', Env a' n ((d, undef) :: env) → wpList P ops Q rest a' w) : wpList P ops Q (o :: rest) a w :=
  wpList_step fun K hK => by rw [if_neg (by rw [hE.guard hg]; simp)]; exact hK _ _ (k _ (hE.putS _ hd hlt))
/-- A test's value is not known: both ways. -/
theorem wl_split {l : List Oper} (hE : Env a n env) (t : Nat) {b : Bool} (hf : find env t = some (.bool b))
    (ht : b = true → Env a n ((t, .bool true) :: env) → wpList P ops Q l a w) (hn : b = false → Env a n ((t, .bool false) :: env) → wpList P ops Q l a w) : wpList P ops Q l a w := by
  cases b with
  | true => exact ht rfl (hE.know hf rfl)
  | false => exact hn rfl (hE.know hf rfl)
/-- .. of the test that an operation waits for. -/
theorem wl_splitg {rest : List Oper} (hE : Env a n env) {t : Nat} (hg : (o.guard.bind fun p => (ops[p.1]?).bind (·.dst)) = some t) {b : Bool} (hf : find env t = some (.bool b))
    (ht : b = true → Env a n ((t, .bool true) :: env) → wpList P ops Q (o :: rest) a w) (hn : b = false → Env a n ((t, .bool false) :: env) → wpList P ops Q (o :: rest) a w) : wpList P ops Q (o :: rest) a w :=
  wl_split hE t hf ht hn
theorem o_val {v : Value} (hE : Env a n env) (hr : (execOp a.eval o).run P w = .ok (.value v) w) {d : Tmp} (hd : o.dst = some d) (hlt : Nat.blt d n = true) (k : ∀ a', Env a' n ((d, v) :: env) → K a' w) : o.wp P a w K Q := by
  unfold Oper.wp
  rw [hr]
  exact k _ (hE.putS v hd hlt)
theorem o_move {x : Operand} {v : Value} (hE : Env a n env) (ho : o.op = .move x) (hx : opv env x = some v) {d : Tmp} (hd : o.dst = some d) (hlt : Nat.blt d n = true) (k : ∀ a', Env a' n ((d, v) :: env) → K a' w) : o.wp P a w K Q :=
  o_val hE (by simp [execOp, ho, hE.eval hx]) hd hlt k
theorem o_assign {x : Operand} {v : Value} (hE : Env a n env) (ho : o.op = .assign x) (hx : opv env x = some v) {d : Tmp} (hd : o.dst = some d) (hlt : Nat.blt d n = true) (k : ∀ a', Env a' n ((d, v) :: env) → K a' w) : o.wp P a w K Q :=
  o_val hE (by simp [execOp, ho, hE.eval hx]) hd hlt k
theorem o_pick_t {c x y : Operand} {v : Value} (hE : Env a n env) (ho : o.op = .pick c x y) (hc : opv env c = some (.bool true)) (hx : opv env x = some v) {d : Tmp} (hd : o.dst = some d) (hlt : Nat.blt d n = true) (k : ∀ a', Env a' n ((d, v) :: env) → K a' w) : o.wp P a w K Q :=
  o_val hE (by simp [execOp, ho, hE.eval hx, hE.eval hc, asBool]) hd hlt k
theorem o_pick_f {c x y : Operand} {v : Value} (hE : Env a n env) (ho : o.op = .pick c x y) (hc : opv env c = some (.bool false)) (hx : opv env y = some v) {d : Tmp} (hd : o.dst = some d) (hlt : Nat.blt d n = true) (k : ∀ a', Env a' n ((d, v) :: env) → K a' w) : o.wp P a w K Q :=
  o_val hE (by simp [execOp, ho, hE.eval hx, hE.eval hc, asBool]) hd hlt k
theorem o_extract {t : Operand} {i : Nat} {vs : Array Value} {v : Value} (hE : Env a n env) (ho : o.op = .extract t i) (hx : opv env t = some (.tuple vs)) (hv : vs[i]? = some v) {d : Tmp} (hd : o.dst = some d) (hlt : Nat.blt d n = true) (k : ∀ a', Env a' n ((d, v) :: env) → K a' w) : o.wp P a w K Q :=
  o_val hE (by simp [execOp, ho, hE.eval hx, Instr.extract, hv]) hd hlt k
theorem o_nilCheck {x : Operand} {p : Addr} (hE : Env a n env) (ho : o.op = .nilCheck x) (hx : opv env x = some (.pointer (some p))) {d : Tmp} (hd : o.dst = some d) (hlt : Nat.blt d n = true) (k : ∀ a', Env a' n ((d, (.pointer (some p))) :: env) → K a' w) : o.wp P a w K Q :=
  o_val hE (by simp [execOp, ho, hE.eval hx]) hd hlt k
theorem o_nilCheckF {x : Operand} {f : Nat} {A B : Array Value} (hE : Env a n env) (ho : o.op = .nilCheck x) (hx : opv env x = some (.func (.func f) A B)) {d : Tmp} (hd : o.dst = some d) (hlt : Nat.blt d n = true) (k : ∀ a', Env a' n ((d, (.func (.func f) A B)) :: env) → K a' w) : o.wp P a w K Q :=
  o_val hE (by simp [execOp, ho, hE.eval hx]) hd hlt k
theorem o_makeFunc {f : Fn} {A B : Array Operand} {va vb : Array Value} (hE : Env a n env) (ho : o.op = .makeFunc f A B) (ha : A.map a.eval = va) (hb : B.map a.eval = vb) (hr : (Instr.makeFunc f va vb).run P w = .ok (.func f va vb) w) {d : Tmp} (hd : o.dst = some d) (hlt : Nat.blt d n = true) (k : ∀ a', Env a' n ((d, (.func f va vb)) :: env) → K a' w) : o.wp P a w K Q :=
  o_val hE (by simp [execOp, ho, ha, hb, hr]) hd hlt k

/-! arithmetic and tests -/
/-- What an operation of two operands yields, whatever the world. -/
def Bin (P : Program) (op : BinOp) (t : TypeId) (x y : Operand) (u v r : Value) : Prop := ∀ w, (do eqGuard op t x y u v; binOp op t u v : Sem Value).run P w = .ok r w
theorem o_bin {op : BinOp} {t t' : TypeId} {x y : Operand} {u v r : Value} (hE : Env a n env) (ho : o.op = .binOp op t x y t') (hx : opv env x = some u) (hy : opv env y = some v) (hb : Bin P op t x y u v r) {d : Tmp} (hd : o.dst = some d) (hlt : Nat.blt d n = true) (k : ∀ a', Env a' n ((d, r) :: env) → K a' w) : o.wp P a w K Q :=
  o_val hE (by
    have h := hb w
    simp only [execOp, ho, hE.eval hx, hE.eval hy]
    rw [Sem.run_bind, h]; rfl) hd hlt k
variable {t : TypeId} {x y : Operand} {kd : IntKind} {i j : Int}
theorem bin_add : Bin P .add t x y (.int kd i) (.int kd j) (.int kd (kd.wrap (i + j))) := fun w => by simp [eqGuard, binOp, Op.intArith]
theorem bin_sub : Bin P .sub t x y (.int kd i) (.int kd j) (.int kd (kd.wrap (i - j))) := fun w => by simp [eqGuard, binOp, Op.intArith]
theorem bin_mul : Bin P .mul t x y (.int kd i) (.int kd j) (.int kd (kd.wrap (i * j))) := fun w => by simp [eqGuard, binOp, Op.intArith]
theorem wrap_in {i : Int} (h0 : -9223372036854775808 ≤ i) (h1 : i ≤ 9223372036854775807) : IntKind.i64.wrap i = i := by
  have := IntWalk.i64_in i (by omega)
  exact this
theorem bin_add_in (h0 : -9223372036854775808 ≤ i + j) (h1 : i + j ≤ 9223372036854775807) : Bin P .add t x y (.int .i64 i) (.int .i64 j) (.int .i64 (i + j)) := fun w => by rw [bin_add w, wrap_in h0 h1]
theorem bin_sub_in (h0 : -9223372036854775808 ≤ i - j) (h1 : i - j ≤ 9223372036854775807) : Bin P .sub t x y (.int .i64 i) (.int .i64 j) (.int .i64 (i - j)) := fun w => by rw [bin_sub w, wrap_in h0 h1]
theorem bin_mul_in (h0 : -9223372036854775808 ≤ i * j) (h1 : i * j ≤ 9223372036854775807) : Bin P .mul t x y (.int .i64 i) (.int .i64 j) (.int .i64 (i * j)) := fun w => by rw [bin_mul w, wrap_in h0 h1]
theorem bin_lss : Bin P .lss t x y (.int kd i) (.int kd j) (.bool (decide (i < j))) := fun w => by simp [eqGuard, binOp, Op.intCmp]
theorem bin_leq : Bin P .leq t x y (.int kd i) (.int kd j) (.bool (decide (i ≤ j))) := fun w => by simp [eqGuard, binOp, Op.intCmp]
theorem bin_gtr : Bin P .gtr t x y (.int kd i) (.int kd j) (.bool (decide (j < i))) := fun w => by simp [eqGuard, binOp, Op.intCmp]
theorem bin_geq : Bin P .geq t x y (.int kd i) (.int kd j) (.bool (decide (j ≤ i))) := fun w => by simp [eqGuard, binOp, Op.intCmp]
theorem bin_eql : Bin P .eql t x y (.int kd i) (.int kd j) (.bool (decide (i = j))) := fun w => by simp [eqGuard, binOp, Op.intCmp]; rfl
class BoolTy (P : Program) (t : TypeId) : Prop where
  h : P.underlying t = some .bool
theorem bin_eql_bool {p q : Bool} [T : BoolTy P t] : Bin P .eql t x y (.bool p) (.bool q) (.bool (p == q)) := fun w => by simp [eqGuard, binOp, run_equal_bool w t p q T.h]
theorem bin_neq_bool {p q : Bool} [T : BoolTy P t] : Bin P .neq t x y (.bool p) (.bool q) (.bool (!(p == q))) := fun w => by simp [eqGuard, binOp, run_equal_bool w t p q T.h]
theorem bin_eql_str {p q : ByteArray} : Bin P .eql t x y (.string p) (.string q) (.bool (p.toList == q.toList)) := fun w => by simp [eqGuard, binOp, Op.stringOp]
theorem bin_neq_str {p q : ByteArray} : Bin P .neq t x y (.string p) (.string q) (.bool (!(p.toList == q.toList))) := fun w => by simp [eqGuard, binOp, Op.stringOp]
theorem bin_neq : Bin P .neq t x y (.int kd i) (.int kd j) (.bool (!decide (i = j))) := fun w => by simp [eqGuard, binOp, Op.intCmp]; rfl

/-! memory -/
class TyInfo (P : Program) (t : TypeId) (agg : outParam Bool) (m : outParam Nat) : Prop where
  h1 : (P.underlying t).map (fun d => match d with | .struct _ | .array _ _ => true | _ => false) = some agg
  h2 : (P.info? t).map (·.size) = some m
class ZeroTy (P : Program) (t : TypeId) (cs : outParam (List Value)) : Prop where
  h : (P.info? t).map (fun i => i.zero.map (fun z => z.cells.toList)) = some (some cs)
class FieldTy (P : Program) (t : TypeId) (f : Nat) (off : outParam Nat) : Prop where
  h : ∃ fs, P.underlying t = some (.struct fs) ∧ ∃ fd, fs[f]? = some fd ∧ fd.offset = off ∧ ∃ i, P.info? fd.type = some i ∧ i.size ≠ 0
class SliceTy (P : Program) (t : TypeId) (e : outParam TypeId) (sz : outParam Nat) : Prop where
  h1 : P.underlying t = some (.slice e)
  h2 : (P.info? e).map (·.size) = some sz
  h3 : sz ≠ 0
theorem info_of {P : Program} {t : TypeId} {m : Nat} (h : (P.info? t).map (·.size) = some m) : ∃ i, P.info? t = some i ∧ i.size = m := by
  cases hi : P.info? t with
  | none => rw [hi] at h; simp at h
  | some i => rw [hi] at h; exact ⟨i, rfl, by simpa using h⟩
theorem run_loadVar_at {ty m : Nat} {b : Bool} [T : TyInfo P ty b m] {ad : Addr} {vs : List Value} (hl : vs.length = m) (h : ∀ j v, vs[j]? = some v → w.cell? (ad.add j) = some v) (hb : b = false → m = 1) :
    (loadVar ty ad).run P w = .ok (if b then .agg vs.toArray else vs.getD 0 undef) w := by
  obtain ⟨i, hi, hs⟩ := info_of T.h2
  have h1 := T.h1
  cases hu : P.underlying ty with
  | none => rw [hu] at h1; simp at h1
  | some d =>
    rw [hu] at h1
    have hla : (isAgg ty).run P w = .ok b w := by
      unfold isAgg
      rw [Sem.run_bind, run_underlying hu]
      cases d <;> simp at h1 <;> subst h1 <;> rfl
    unfold loadVar
    rw [Sem.run_bind, hla]
    cases b with
    | true =>
      have hz : (sizeOf ty).run P w = .ok vs.length w := by simp [sizeOf, typeInfo, hi, hs, hl]
      simp only [Result.andThen_ok, if_true]
      rw [Sem.run_bind, hz]
      simp only [Result.andThen_ok]
      rw [Sem.run_bind, run_loadCells_list w ad vs h]
      rfl
    | false =>
      have hm := hb rfl
      obtain ⟨v, hv⟩ : ∃ v, vs[0]? = some v := ⟨_, List.getElem?_eq_getElem (by omega)⟩
      have hc := h 0 v hv
      have e : ad.add 0 = ad := rfl
      rw [e] at hc
      simp only [Result.andThen_ok, Bool.false_eq_true, if_false]
      simp [load, Sem.run, hc, hv]
/-- What lies at an address. -/
def At (w : World) (ad : Addr) (vs : List Value) : Prop := ∀ j v, vs[j]? = some v → w.cell? (ad.add j) = some v
theorem At.move {ad : Addr} {vs : List Value} (h : At w0 ad vs) (hS : Sep w0 w L) : At w ad vs := fun j v hv => hS.cell (h j v hv)
theorem at_blk {g off : Nat} {cs : List Value} {t : TypeId} (h : w.heap[g]? = some (.cells cs.toArray t (0, 0))) : At w ⟨g, off, none⟩ (cs.drop off) := fun j v hv => by
  rw [Addr.add_lit, cell_of_row w g _ _ _ _ h]
  simpa [List.getElem?_drop] using hv
theorem At.take {ad : Addr} {vs : List Value} (h : At w ad vs) (m : Nat) : At w ad (vs.take m) := fun j v hv => h j v (by
  rw [List.getElem?_take] at hv
  split at hv
  · exact hv
  · cases hv)
theorem At.drop {ad : Addr} {vs : List Value} (h : At w ad vs) (k : Nat) : At w (ad.add k) (vs.drop k) := fun j v hv => by
  rw [Addr.add_add]
  exact h _ _ (by simpa [List.getElem?_drop] using hv)
theorem run_loadAt {ty m : Nat} {b : Bool} [T : TyInfo P ty b m] {ad : Addr} {vs us : List Value} (h : At w ad vs) (hl : vs.take m = us) (hm : us.length = m) (hb : b = false → m = 1) :
    (Instr.loadAt ty (.pointer (some ad))).run P w = .ok (if b then .agg us.toArray else us.getD 0 undef) w := by
  subst hl
  simp only [Instr.loadAt, Instr.sureAddr, Sem.run_bind, Sem.run_pure, Result.andThen_ok]
  exact run_loadVar_at hm (h.take m) hb
/-- A load of one cell, of a block of one's own. -/
theorem o_load {ty : TypeId} {x : Operand} {g off : Nat} {cs : List Value} {t : TypeId} {L' : List Asn} {v : Value} [T : TyInfo P ty false 1] (hE : Env a n env) (hS : Sep w0 w L) (ho : o.op = .load ty x) (hx : opv env x = some (.pointer (some ⟨g, off, none⟩)))
    (hp : Pull (blk g cs t) L L') (hv : cs[off]? = some v) {d : Tmp} (hd : o.dst = some d) (hlt : Nat.blt d n = true) (k : ∀ a', Env a' n ((d, v) :: env) → K a' w) : o.wp P a w K Q :=
  o_val hE (by
    have hlt : off < cs.length := (List.getElem?_eq_some_iff.1 hv).1
    have e : cs.drop off = v :: cs.drop (off + 1) := by rw [← (List.getElem?_eq_some_iff.1 hv).2]; exact List.drop_eq_getElem_cons hlt
    have h := run_loadAt (P := P) (ty := ty) (us := [v]) (at_blk (off := off) (hS.blk_at hp)) (by rw [e]; rfl) rfl (fun _ => rfl)
    simp only [execOp, ho, hE.eval hx]
    rw [Sem.run_bind, h]; rfl) hd hlt k
/-- A load of a struct. -/
theorem o_loadA {ty m : TypeId} {x : Operand} {g off : Nat} {cs us : List Value} {t : TypeId} {L' : List Asn} [T : TyInfo P ty true m] (hE : Env a n env) (hS : Sep w0 w L) (ho : o.op = .load ty x) (hx : opv env x = some (.pointer (some ⟨g, off, none⟩)))
    (hp : Pull (blk g cs t) L L') (hv : (cs.drop off).take m = us) (hm : us.length = m) {d : Tmp} (hd : o.dst = some d) (hlt : Nat.blt d n = true) (k : ∀ a', Env a' n ((d, (.agg us.toArray)) :: env) → K a' w) : o.wp P a w K Q :=
  o_val hE (by
    have h := run_loadAt (P := P) (ty := ty) (at_blk (off := off) (hS.blk_at hp)) hv hm (fun h => by cases h)
    simp only [execOp, ho, hE.eval hx]
    rw [Sem.run_bind, h]; rfl) hd hlt k
/-- A load of what was there. -/
theorem o_load0 {ty : TypeId} {x : Operand} {ad : Addr} {v : Value} {vs : List Value} [T : TyInfo P ty false 1] (hE : Env a n env) (hS : Sep w0 w L) (ho : o.op = .load ty x) (hx : opv env x = some (.pointer (some ad)))
    (hA : At w0 ad (v :: vs)) {d : Tmp} (hd : o.dst = some d) (hlt : Nat.blt d n = true) (k : ∀ a', Env a' n ((d, v) :: env) → K a' w) : o.wp P a w K Q :=
  o_val hE (by
    have h := run_loadAt (P := P) (ty := ty) (us := [v]) (hA.move hS) rfl rfl (fun _ => rfl)
    simp only [execOp, ho, hE.eval hx]
    rw [Sem.run_bind, h]; rfl) hd hlt k
theorem o_loadA0 {ty m : TypeId} {x : Operand} {ad : Addr} {vs us : List Value} [T : TyInfo P ty true m] (hE : Env a n env) (hS : Sep w0 w L) (ho : o.op = .load ty x) (hx : opv env x = some (.pointer (some ad)))
    (hA : At w0 ad vs) (hv : vs.take m = us) (hm : us.length = m) {d : Tmp} (hd : o.dst = some d) (hlt : Nat.blt d n = true) (k : ∀ a', Env a' n ((d, (.agg us.toArray)) :: env) → K a' w) : o.wp P a w K Q :=
  o_val hE (by
    have h := run_loadAt (P := P) (ty := ty) (hA.move hS) hv hm (fun h => by cases h)
    simp only [execOp, ho, hE.eval hx]
    rw [Sem.run_bind, h]; rfl) hd hlt k
/-- A store, into a block of one's own. -/
theorem o_store {ty m : TypeId} {b : Bool} {x y : Operand} {g off : Nat} {cs cs' : List Value} {t : TypeId} {L' : List Asn} {v : Value} [T : TyInfo P ty b m] (hE : Env a n env) (hS : Sep w0 w L) (ho : o.op = .store ty x y) (hx : opv env x = some (.pointer (some ⟨g, off, none⟩))) (hy : opv env y = some v)
    (hp : Pull (blk g cs t) L L') (hm : v.cells.toList.length = m) (h1' : v.cells.toList.all Value.oneCell' = true) (hf' : Nat.ble (off + v.cells.toList.length) cs.length = true) (hc : cs.take off ++ v.cells.toList ++ cs.drop (off + v.cells.toList.length) = cs') (hd : o.dst = none)
    (k : ∀ w', Sep w0 w' (blk g cs' t :: L') → K a w') : o.wp P a w K Q := by
  have h1 : ∀ u ∈ v.cells.toList, u.oneCell' = true := fun u hu => List.all_eq_true.1 h1' u hu
  have hf := Nat.le_of_ble_eq_true hf'
  obtain ⟨i, hi, hs⟩ := info_of T.h2
  have hz : (sizeOf ty).run P w = .ok v.cells.size w := by simp [sizeOf, typeInfo, hi, hs, ← hm]
  have hst := run_storeCells_at P g off t v.cells.toList 0 cs.toArray w (hS.blk_at hp) (by simpa using hf) h1
  subst hc
  have hS' := (hS.pull hp).setRow (cs.take off ++ v.cells.toList ++ cs.drop (off + v.cells.toList.length))
  have hr : (execOp a.eval o).run P w = .ok .skip (w.setRow g (cs.take off ++ v.cells.toList ++ cs.drop (off + v.cells.toList.length)).toArray) := by
    simp only [execOp, ho, hE.eval hx, hE.eval hy, Instr.storeAt, Instr.sureAddr, storeVar]
    simp only [Sem.run_bind, Sem.run_pure, Result.andThen_ok, hz, ne_eq, not_true_eq_false, if_false]
    rw [hst]
    simp
  unfold Oper.wp
  rw [hr]
  show K (a.put o.dst undef) _
  rw [hd]
  exact k _ hS'
/-- A value's cells, as a list. -/
def cellsL (v : Value) : List Value := v.cells.toList
theorem cellsL_agg (us : List Value) : cellsL (.agg us.toArray) = us := rfl
theorem cellsL_int (k : IntKind) (i : Int) : cellsL (.int k i) = [.int k i] := rfl
theorem cellsL_bool (b : Bool) : cellsL (.bool b) = [.bool b] := rfl
theorem cellsL_string (s : ByteArray) : cellsL (.string s) = [.string s] := rfl
theorem cellsL_slice (A : Option Addr) (n c : Nat) : cellsL (.slice A n c) = [.slice A n c] := rfl
theorem cellsL_pointer (p : Option Addr) : cellsL (.pointer p) = [.pointer p] := rfl
theorem cellsL_map (p : Option Nat) : cellsL (.map p) = [.map p] := rfl
theorem cellsL_func (f : Fn) (A B : Array Value) : cellsL (.func f A B) = [.func f A B] := rfl
theorem cellsL_nilFunc : cellsL .nilFunc = [.nilFunc] := rfl
theorem cellsL_nilIface : cellsL .nilIface = [.nilIface] := rfl
theorem cellsL_iface (t : TypeId) (v : Value) : cellsL (.iface t v) = [.iface t v] := rfl
def putL (zs : List Value) (off : Nat) (us : List Value) : List Value := zs.take off ++ us ++ zs.drop (off + us.length)
theorem putL_length {zs : List Value} {off : Nat} {us : List Value} (h : off + us.length ≤ zs.length) : (putL zs off us).length = zs.length := by
  simp [putL]; omega
theorem foldl_put (off : Nat) : ∀ (us : List Value) (j : Nat) (cs : List Value), off + j + us.length ≤ cs.length →
    ((us.zipIdx j).foldl (fun (cs : Array Value) (x : Value × Nat) => cs.setIfInBounds (off + x.2) x.1) cs.toArray) = (putL cs (off + j) us).toArray
  | [], j, cs, _ => by simp [putL]
  | u :: r, j, cs, h => by
    simp only [List.length_cons] at h
    rw [List.zipIdx_cons, List.foldl_cons]
    simp only [List.setIfInBounds_toArray]
    rw [foldl_put off r (j + 1) (cs.set (off + j) u) (by simp; omega)]
    have e : (cs.set (off + j) u).take (off + (j + 1)) = cs.take (off + j) ++ [u] := by
      have hlt : off + j < (cs.set (off + j) u).length := by simp; omega
      rw [show off + (j + 1) = off + j + 1 by omega, List.take_succ_eq_append_getElem hlt]
      simp [List.take_set_of_le]
    have e2 : (cs.set (off + j) u).drop (off + (j + 1) + r.length) = cs.drop (off + j + (r.length + 1)) := by
      rw [show off + (j + 1) + r.length = off + j + (r.length + 1) by omega]
      rw [List.drop_set_of_lt (by omega)]
    simp only [putL, e, e2, List.length_cons, List.append_assoc, List.cons_append, List.nil_append]
/-- Parts put at their places. -/
def bld (pl : List (Nat × Nat)) : List Value → List (Nat × Value) → Option (List Value)
  | zs, [] => some zs
  | zs, (i, v) :: r => match pl[i]? with
    | none => none
    | some (off, sz) => bif Nat.beq (cellsL v).length sz && Nat.ble (off + (cellsL v).length) zs.length then bld pl (putL zs off (cellsL v)) r else none
theorem fill_of (f : Nat → Option (Nat × Nat)) (pl : List (Nat × Nat)) (hf : ∀ i x, pl[i]? = some x → f i = some x) : ∀ (ps : List (Nat × Value)) (zs cs : List Value), bld pl zs ps = some cs → Instr.fill f zs.toArray ps = some cs.toArray
  | [], zs, cs, h => by simp [bld] at h; simp [Instr.fill, h]
  | (i, v) :: r, zs, cs, h => by
    simp only [bld] at h
    cases hp : pl[i]? with
    | none => rw [hp] at h; simp at h
    | some x =>
      obtain ⟨off, sz⟩ := x
      rw [hp] at h
      simp only at h
      cases hb : (Nat.beq (cellsL v).length sz && Nat.ble (off + (cellsL v).length) zs.length) with
      | false => rw [hb] at h; simp at h
      | true =>
        rw [hb] at h
        simp only [cond_true] at h
        rw [Bool.and_eq_true] at hb
        have h1 : (cellsL v).length = sz := Nat.eq_of_beq_eq_true hb.1
        have h2 := Nat.le_of_ble_eq_true hb.2
        have hcs : v.cells.size = sz := by rw [← h1]; simp [cellsL]
        simp only [Instr.fill, hf i _ hp]
        rw [if_neg (by simp [hcs]; simpa [cellsL, ← hcs] using h2)]
        have hfold : v.cells.zipIdx.foldl (fun (cs : Array Value) (x : Value × Nat) => cs.setIfInBounds (off + x.2) x.1) zs.toArray = (putL zs off (cellsL v)).toArray := by
          have := foldl_put off (cellsL v) 0 zs (by simpa using h2)
          rw [Nat.add_zero] at this
          rw [← this, ← Array.foldl_toList, Array.toList_zipIdx]
          rfl
        have hfold' : (v.cells.zipIdx.foldl (fun cs x => match x with | (c, j) => cs.setIfInBounds (off + j) c) zs.toArray) = (putL zs off (cellsL v)).toArray := hfold
        rw [hfold']
        exact fill_of f pl hf r _ cs h
theorem o_alloc {ty : TypeId} {cs : List Value} [T : ZeroTy P ty cs] (hE : Env a n env) (hS : Sep w0 w L) (ho : o.op = .alloc ty) {d : Tmp} (hd : o.dst = some d) (hlt : Nat.blt d n = true) (k : ∀ g a' w', Env a' n ((d, (.pointer (some ⟨g, 0, none⟩))) :: env) → Sep w0 w' (blk g cs ty :: L) → K a' w') : o.wp P a w K Q := by
  have hz := T.h
  cases hi : P.info? ty with
  | none => rw [hi] at hz; simp at hz
  | some i =>
    rw [hi] at hz
    simp only [Option.map_some, Option.some.injEq] at hz
    cases hq : i.zero with
    | none => rw [hq] at hz; simp at hz
    | some z =>
      rw [hq] at hz
      simp only [Option.map_some, Option.some.injEq] at hz
      have hr : (execOp a.eval o).run P w = .ok (.value (.pointer (some ⟨w.heap.size, 0, none⟩))) (w.alloc (.cells cs.toArray ty)) := by
        subst hz
        simp [execOp, ho, Instr.alloc, zeroValue, typeInfo, hi, hq, newVar, newRow, newObj, Sem.run]
      unfold Oper.wp
      rw [hr]
      exact k _ _ _ (hE.putS _ hd hlt) hS.alloc
theorem o_box {ty : TypeId} {x : Operand} {v : Value} {cs : List Value} (hE : Env a n env) (hS : Sep w0 w L) (ho : o.op = .box ty x) (hx : opv env x = some v) (hc : v.cells.toList = cs) {d : Tmp} (hd : o.dst = some d) (hlt : Nat.blt d n = true) (k : ∀ g a' w', Env a' n ((d, (.pointer (some ⟨g, 0, none⟩))) :: env) → Sep w0 w' (blk g cs ty :: L) → K a' w') : o.wp P a w K Q := by
  subst hc
  have hr : (execOp a.eval o).run P w = .ok (.value (.pointer (some ⟨w.heap.size, 0, none⟩))) (w.alloc (.cells v.cells.toList.toArray ty)) := by
    simp [execOp, ho, hE.eval hx, Instr.box, newVar, newRow, newObj, Sem.run]
  unfold Oper.wp
  rw [hr]
  exact k _ _ _ (hE.putS _ hd hlt) hS.alloc
theorem o_field {ty : TypeId} {f off : Nat} {x : Operand} {ad : Addr} [T : FieldTy P ty f off] (hE : Env a n env) (ho : o.op = .fieldAddr ty x f) (hx : opv env x = some (.pointer (some ad))) {d : Tmp} (hd : o.dst = some d) (hlt : Nat.blt d n = true) (k : ∀ a', Env a' n ((d, (.pointer (some (ad.add off)))) :: env) → K a' w) : o.wp P a w K Q :=
  o_val hE (by
    obtain ⟨fs, hu, fd, hf, rfl, i, hi, hs⟩ := T.h
    simp [execOp, ho, hE.eval hx, Instr.fieldAt, run_underlying hu, hf, Instr.sureAddr, fieldPlace, sizeOf, typeInfo, hi, hs]) hd hlt k
theorem o_fieldL {ty : TypeId} {f off : Nat} {x : Operand} {g q : Nat} [T : FieldTy P ty f off] (hE : Env a n env) (ho : o.op = .fieldAddr ty x f) (hx : opv env x = some (.pointer (some ⟨g, q, none⟩))) {d : Tmp} (hd : o.dst = some d) (hlt : Nat.blt d n = true) (k : ∀ a', Env a' n ((d, (.pointer (some ⟨g, q + off, none⟩))) :: env) → K a' w) : o.wp P a w K Q :=
  o_field hE ho hx hd hlt (fun a' h => k a' (by rw [Addr.add_lit] at h; exact h))
/-- The address of a slice that has elements. -/
def adr (A : Option Addr) : Addr := A.getD ⟨0, 0, none⟩
theorem o_index {ty e : TypeId} {sz : Nat} {x y : Operand} {A : Option Addr} {len cap : Nat} {i : Int} {kd : IntKind} [T : SliceTy P ty e sz] (hE : Env a n env) (ho : o.op = .indexAddr ty x y) (hx : opv env x = some (.slice A len cap)) (hy : opv env y = some (.int kd i)) (hA : A = some (adr A)) (h0 : 0 ≤ i) (h1 : i < len) {d : Tmp} (hd : o.dst = some d) (hlt : Nat.blt d n = true)
    (k : ∀ a', Env a' n ((d, .pointer (some ((adr A).add (i.toNat * sz)))) :: env) → K a' w) : o.wp P a w K Q :=
  o_val hE (by
    obtain ⟨q, hq, hs⟩ := info_of T.h2
    rw [hA] at hx
    simp [execOp, ho, hE.eval hx, hE.eval hy, Instr.indexAt, asIntOf, run_underlying T.h1, h0, h1, sizeOf, typeInfo, hq, hs]) hd hlt k
theorem o_not {x : Operand} {b : Bool} (hE : Env a n env) (ho : o.op = .unOp .not t x) (hx : opv env x = some (.bool b)) {d : Tmp} (hd : o.dst = some d) (hlt : Nat.blt d n = true) (k : ∀ a', Env a' n ((d, .bool (!b)) :: env) → K a' w) : o.wp P a w K Q :=
  o_val hE (by simp [execOp, ho, hE.eval hx, Op.unary]) hd hlt k
theorem o_len {t : TypeId} {x : Operand} {ad : Option Addr} {len cap : Nat} {e sz : Nat} [T : SliceTy P t e sz] (hE : Env a n env) (ho : o.op = .call { callee := .builtin .len, args := #[x], argTypes := #[t] }) (hx : opv env x = some (.slice ad len cap)) {d : Tmp} (hd : o.dst = some d) (hlt : Nat.blt d n = true)
    (k : ∀ a', Env a' n ((d, (.int .i64 len)) :: env) → K a' w) : o.wp P a w K Q :=
  o_val hE (by simp [execOp, ho, resolve, invoke, builtin, hE.eval hx, Builtin.len_, run_underlying T.h1, goInt]) hd hlt k
class StrTy (P : Program) (t : TypeId) : Prop where
  h : P.underlying t = some .string
theorem o_lenS {t : TypeId} {x : Operand} {s : ByteArray} [T : StrTy P t] (hE : Env a n env) (ho : o.op = .call { callee := .builtin .len, args := #[x], argTypes := #[t] }) (hx : opv env x = some (.string s)) {d : Tmp} (hd : o.dst = some d) (hlt : Nat.blt d n = true)
    (k : ∀ a', Env a' n ((d, (.int .i64 s.size)) :: env) → K a' w) : o.wp P a w K Q :=
  o_val hE (by simp [execOp, ho, resolve, invoke, builtin, hE.eval hx, Builtin.len_, run_underlying T.h, goInt]) hd hlt k
class StructTy (P : Program) (t : TypeId) (pl : outParam (List (Nat × Nat))) : Prop where
  h : ∃ fs, P.underlying t = some (.struct fs) ∧ (fs.toList.map fun f => (f.offset, (P.info? f.type).map (·.size))) = pl.map (fun p => (p.1, some p.2))
theorem run_places : ∀ (fs : List Field) (pl : List (Nat × Nat)), (fs.map fun f => (f.offset, (P.info? f.type).map (·.size))) = pl.map (fun p => (p.1, some p.2)) →
    (fs.mapM fun f => do pure (f.offset, ← sizeOf f.type) : Sem (List (Nat × Nat))).run P w = .ok pl w
  | [], pl, h => by
    cases pl with
    | nil => rfl
    | cons p r => simp at h
  | f :: fs, pl, h => by
    cases pl with
    | nil => simp at h
    | cons p r =>
      simp only [List.map_cons, List.cons.injEq, Prod.mk.injEq] at h
      obtain ⟨⟨h1, h2⟩, h3⟩ := h
      obtain ⟨i, hi, hs⟩ := info_of h2
      rw [List.mapM_cons, Sem.run_bind]
      have : (do pure (f.offset, ← sizeOf f.type) : Sem (Nat × Nat)).run P w = .ok p w := by
        simp [sizeOf, typeInfo, hi, hs, h1]
      rw [this]
      simp only [Result.andThen_ok]
      rw [Sem.run_bind, run_places fs r h3]
      rfl
theorem run_build {ty : TypeId} {zs cs : List Value} {pl : List (Nat × Nat)} [Z : ZeroTy P ty zs] [S : StructTy P ty pl] {ps : Array (Nat × Value)} (h : bld pl zs ps.toList = some cs) : (Instr.build ty ps).run P w = .ok (.agg cs.toArray) w := by
  obtain ⟨fs, hu, hpl⟩ := S.h
  have hz := Z.h
  cases hi : P.info? ty with
  | none => rw [hi] at hz; simp at hz
  | some i =>
    rw [hi] at hz
    simp only [Option.map_some, Option.some.injEq] at hz
    cases hq : i.zero with
    | none => rw [hq] at hz; simp at hz
    | some z =>
      rw [hq] at hz
      simp only [Option.map_some, Option.some.injEq] at hz
      have hzv : (zeroValue ty).run P w = .ok z w := by simp [zeroValue, typeInfo, hi, hq]
      have hp := run_places (P := P) (w := w) fs.toList pl hpl
      have hpa : (fs.mapM fun f => do pure (f.offset, ← sizeOf f.type) : Sem (Array (Nat × Nat))).run P w = .ok pl.toArray w := by
        have e : fs = fs.toList.toArray := by simp
        rw [e, List.mapM_toArray, Sem.run_map]
        rw [hp]
        rfl
      have hf := fill_of (pl.toArray[·]?) pl (fun i x hx => by simpa using hx) ps.toList zs cs h
      have hzc : z.cells = zs.toArray := by rw [← hz]
      unfold Instr.build
      rw [Sem.run_bind, hzv]
      simp only [Result.andThen_ok]
      rw [Sem.run_bind, run_underlying hu]
      simp only [Result.andThen_ok]
      rw [Sem.run_bind, hpa]
      simp only [Result.andThen_ok, hzc, hf]
      rfl
/-- The parts of a build. -/
def partsOf (env : List (Nat × Value)) : List (Nat × Operand) → Option (List (Nat × Value))
  | [] => some []
  | (i, x) :: r => match opv env x, partsOf env r with
    | some v, some vs => some ((i, v) :: vs)
    | _, _ => none
theorem Env.parts (hE : Env a n env) : ∀ {as : List (Nat × Operand)} {vs : List (Nat × Value)}, partsOf env as = some vs → as.map (fun x => (x.1, a.eval x.2)) = vs
  | [], vs, h => by simp [partsOf] at h; simp [h]
  | (i, x) :: r, vs, h => by
    simp only [partsOf] at h
    cases hx : opv env x with
    | none => rw [hx] at h; simp at h
    | some v =>
      cases hr : partsOf env r with
      | none => rw [hx, hr] at h; simp at h
      | some us =>
        rw [hx, hr] at h
        simp only [Option.some.injEq] at h
        subst h
        simp [hE.eval hx, Env.parts hE hr]
theorem o_build {ty : TypeId} {zs cs cs' : List Value} {pl : List (Nat × Nat)} [Z : ZeroTy P ty zs] [S : StructTy P ty pl] {ps : Array (Nat × Operand)} {vs : List (Nat × Value)} (hE : Env a n env) (ho : o.op = .build ty ps) (hp : partsOf env ps.toList = some vs) (hb : bld pl zs vs = some cs) (hn : cs = cs') {d : Tmp} (hd : o.dst = some d) (hlt : Nat.blt d n = true)
    (k : ∀ a', Env a' n ((d, .agg cs'.toArray) :: env) → K a' w) : o.wp P a w K Q :=
  o_val hE (by
    subst hn
    have hm : (ps.map fun (i, x) => (i, a.eval x)) = vs.toArray := by
      have := hE.parts hp
      apply Array.toList_inj.1
      simpa using this
    have hr := run_build (P := P) (w := w) (ty := ty) (ps := vs.toArray) hb
    simp only [execOp, ho, hm]
    rw [Sem.run_bind, hr]; rfl) hd hlt k
/-- A slice's literal: a block of its own. -/
theorem o_buildSlice0 {ty e : TypeId} {sz : Nat} [T : SliceTy P ty e sz] (hE : Env a n env) (hS : Sep w0 w L) (ho : o.op = .buildSlice ty 0 #[]) {d : Tmp} (hd : o.dst = some d) (hlt : Nat.blt d n = true)
    (k : ∀ g a' w', Env a' n ((d, .slice (some ⟨g, 0, none⟩) 0 0) :: env) → Sep w0 w' (row e sz (.slice (some ⟨g, 0, none⟩) 0 0) 0 [] :: L) → K a' w') : o.wp P a w K Q := by
  obtain ⟨i, hi, hs⟩ := info_of T.h2
  have hr : (execOp a.eval o).run P w = .ok (.value (.slice (some ⟨w.heap.size, 0, none⟩) 0 0)) (w.alloc (.cells [].toArray e)) := by
    simp [execOp, ho, Instr.buildSlice, run_underlying T.h1, sizeOf, typeInfo, hi, Instr.fill, newRow, newObj, Sem.run]
    congr 2
    apply Array.toList_inj.1
    simp
  unfold Oper.wp
  rw [hr]
  exact k _ _ _ (hE.putS _ hd hlt) (Sep.to_row (sz := sz) (n := 0) hS.alloc (by simp) (by simp))
theorem o_buildSlice {ty e : TypeId} {sz len : Nat} {zs cs cs' : List Value} [T : SliceTy P ty e sz] [Z : ZeroTy P e zs] {ps : Array (Nat × Operand)} {vs : List (Nat × Value)} (hE : Env a n env) (hS : Sep w0 w L) (ho : o.op = .buildSlice ty len ps) (hp : partsOf env ps.toList = some vs)
    (hlen : Nat.ble (len * sz) 16777216 = true) (hl0 : Nat.ble 1 (len * sz) = true) (hz : Nat.beq zs.length sz = true) (hb : bld ((List.range len).map fun i => (i * sz, sz)) ((List.range (len * sz)).map fun i => zs.getD (i % zs.length) undef) vs = some cs) (hn : cs = cs') (hcl : Nat.beq cs'.length (len * sz) = true) (hlm : Nat.ble len 4294967296 = true) {d : Tmp} (hd : o.dst = some d) (hlt : Nat.blt d n = true)
    (k : ∀ g a' w', Env a' n ((d, .slice (some ⟨g, 0, none⟩) len len) :: env) → Sep w0 w' (row e sz (.slice (some ⟨g, 0, none⟩) len len) len cs' :: L) → K a' w') : o.wp P a w K Q := by
  subst hn
  obtain ⟨i, hi, hs⟩ := info_of T.h2
  have hZ := Z.h
  rw [hi] at hZ
  simp only [Option.map_some, Option.some.injEq] at hZ
  cases hq : i.zero with
  | none => rw [hq] at hZ; simp at hZ
  | some z =>
    rw [hq] at hZ
    simp only [Option.map_some, Option.some.injEq] at hZ
    have hm : (ps.map fun (i, x) => (i, a.eval x)) = vs.toArray := by
      have := hE.parts hp
      apply Array.toList_inj.1
      simpa using this
    have h1 := Nat.le_of_ble_eq_true hlen
    have h2 := Nat.le_of_ble_eq_true hl0
    have h3 := Nat.eq_of_beq_eq_true hz
    have h4 := Nat.eq_of_beq_eq_true hcl
    have h5 := Nat.le_of_ble_eq_true hlm
    have hzc : z.cells = zs.toArray := by rw [← hZ]
    have hzr : ((Array.range (len * sz)).map (fun x => zs.toArray[x % zs.length]!)) = ((List.range (len * sz)).map fun i => zs.getD (i % zs.length) undef).toArray := by
      apply Array.toList_inj.1
      simp only [Array.toList_map, Array.toList_range]
      apply List.map_congr_left
      intro q _
      have hlt' : q % zs.length < zs.length := Nat.mod_lt _ (by have : 0 < sz := Nat.pos_of_ne_zero T.h3; omega)
      simp [hlt']
    have hf := fill_of (fun i => some (i * sz, sz)) ((List.range len).map fun i => (i * sz, sz)) (fun i x hx => by
      rw [List.getElem?_map] at hx
      cases hq : (List.range len)[i]? with
      | none => rw [hq] at hx; simp at hx
      | some q =>
        rw [hq] at hx
        have := (List.getElem?_eq_some_iff.1 hq)
        obtain ⟨hlt', e⟩ := this
        simp at e
        subst e
        simpa using hx) vs _ cs hb
    have hr : (execOp a.eval o).run P w = .ok (.value (.slice (some ⟨w.heap.size, 0, none⟩) len len)) (w.alloc (.cells cs.toArray e)) := by
      simp only [execOp, ho, hm]
      unfold Instr.buildSlice
      simp only [Sem.run_bind, run_underlying T.h1, Result.andThen_ok]
      have hsz : (sizeOf e).run P w = .ok sz w := by simp [sizeOf, typeInfo, hi, hs]
      have hzv : (zeroValue e).run P w = .ok z w := by simp [zeroValue, typeInfo, hi, hq]
      rw [hsz]
      simp only [Result.andThen_ok]
      rw [if_neg (by show ¬ len * sz > 2 ^ 24; omega), if_neg (by omega)]
      simp only [Sem.run_bind, Sem.run_pure, Result.andThen_ok, hzv, hzc, List.size_toArray]
      rw [hzr, hf]
      simp [newRow, newObj, Sem.run]
    unfold Oper.wp
    rw [hr]
    exact k _ _ _ (hE.putS _ hd hlt) (Sep.to_row (sz := sz) (n := len) hS.alloc (by unfold maxLen; omega) h4)
/-- A call of a function. -/
def argsOf (env : List (Nat × Value)) : List Operand → Option (List Value)
  | [] => some []
  | x :: r => match opv env x, argsOf env r with
    | some v, some vs => some (v :: vs)
    | _, _ => none
theorem Env.args (hE : Env a n env) : ∀ {as : List Operand} {vs : List Value}, argsOf env as = some vs → as.map a.eval = vs
  | [], vs, h => by simp [argsOf] at h; simp [h]
  | x :: r, vs, h => by
    simp only [argsOf] at h
    cases hx : opv env x with
    | none => rw [hx] at h; simp at h
    | some v =>
      cases hr : argsOf env r with
      | none => rw [hx, hr] at h; simp at h
      | some us =>
        rw [hx, hr] at h
        simp only [Option.some.injEq] at h
        subst h
        simp [hE.eval hx, Env.args hE hr]
class FnTy (P : Program) (f : FuncId) : Prop where
  h : ∃ fn, P.funcs[f]? = some fn ∧ (fn.name == "runtime.NumGoroutine") = false ∧ fn.body.isSome = true
theorem o_call {f : FuncId} {as : Array Operand} {ts : Array TypeId} {vs : List Value} {R : Value → World → Prop} [F : FnTy P f] (hE : Env a n env) (ho : o.op = .call { callee := .value (.func f), args := as, argTypes := ts }) (ha : argsOf env as.toList = some vs)
    (hc : Calls P f vs.toArray w fun e w' => ∃ v, e = .returned v ∧ R v w') {d : Tmp} (hd : o.dst = some d) (hlt : Nat.blt d n = true) (k : ∀ v a' w', R v w' → Env a' n ((d, v) :: env) → K a' w') : o.wp P a w K Q := by
  obtain ⟨fn, hf, hn, hb⟩ := F.h
  have hm : as.map a.eval = vs.toArray := by
    have := hE.args ha
    apply Array.toList_inj.1
    simpa using this
  have hev : a.eval (.func f) = .func (.func f) #[] #[] := rfl
  have hr : (execOp a.eval o).run P w = .ok (.enter f vs.toArray) w := by
    have hb' : fn.body ≠ none := by intro h; rw [h] at hb; simp at hb
    have hn' : fn.name ≠ "runtime.NumGoroutine" := by simpa using hn
    simp [execOp, ho, resolve, hm, hev, Deferred.ofValue, invoke, callFunc, program, Sem.run, hf, hn', hb']
  unfold Oper.wp
  rw [hr]
  refine Calls.mono hc ?_
  rintro e w' ⟨v, rfl, hR⟩
  exact k v _ w' hR (hE.putS v hd hlt)
end

/-! ### code -/
section
variable {P : Program} {a : Act} {w : World} {Q : Exit → Act → World → Prop} {next : Act → World → Prop} {ops : Array Oper} {id id' : Nat}
theorem wl_nil (h : Q .normal a w) : wpList P ops Q [] a w := h
theorem then_n (h : next a w) : Exit.then next Q .normal a w := h
theorem then_r (h : Q .ret a w) : Exit.then next Q .ret a w := h
theorem then_e (h : Q (.exit id) a w) : Exit.then next Q (.exit id) a w := h
theorem inb_n (h : Q .normal a w) : Exit.inBlock id Q .normal a w := h
theorem inb_r (h : Q .ret a w) : Exit.inBlock id Q .ret a w := h
theorem inb_e (h : Q .normal a w) : Exit.inBlock id Q (.exit id) a w := by simp only [Exit.inBlock, if_true]; exact h
theorem inb_o (hne : Nat.beq id' id = false) (h : Q (.exit id') a w) : Exit.inBlock id Q (.exit id') a w := by
  simp only [Exit.inBlock]
  rw [if_neg (fun e => by subst e; simp at hne)]
  exact h
theorem c_block {c : Code} (h : c.wp P (Exit.inBlock id Q) a w) : (Code.block id c).wp P Q a w := wp_block h
theorem c_skip (h : Q .normal a w) : Code.skip.wp P Q a w := wp_skip h
theorem c_exit (h : Q (.exit id) a w) : (Code.exit id).wp P Q a w := wp_exit h
theorem c_ret (h : Q .ret a w) : Code.ret.wp P Q a w := wp_ret h
end
section
variable {P : Program} {a : Act} {w w0 : World} {Q : Exit → Act → World → Prop} {n : Nat} {env : List (Nat × Value)} {L : List Asn}
/-- The parameters, as what is known at the start. -/
def envOf : Nat → List Value → List (Nat × Value)
  | _, [] => []
  | k, v :: r => (k, v) :: envOf (k + 1) r
theorem find_envOf {t : Nat} {v : Value} : ∀ (l : List Value) (k : Nat), find (envOf k l) t = some v → k ≤ t ∧ l[t - k]? = some v
  | [], k, h => by simp [envOf, find] at h
  | u :: r, k, h => by
    simp only [envOf, find] at h
    by_cases e : Nat.beq k t = true
    · rw [e] at h
      have e' := Nat.eq_of_beq_eq_true e
      subst e'
      exact ⟨Nat.le_refl _, by simpa using h⟩
    · rw [Bool.not_eq_true] at e
      rw [e] at h
      obtain ⟨h1, h2⟩ := find_envOf r (k + 1) h
      exact ⟨by omega, by rw [show t - k = (t - (k + 1)) + 1 by omega]; simpa using h2⟩
theorem enter {f : FuncId} {fn : Func} {c : Code} {args : List Value} {R : Ending → World → Prop} (m : Nat) (hf : P.funcs[f]? = some fn) (hb : fn.body = some c) (hm : Nat.beq fn.ntmps m = true) (hle' : Nat.ble args.length m = true)
    (h : ∀ a, Env a m (envOf 0 args) → Sep w w [] → c.wp P (bodyPost P fn R) a w) : Calls P f args.toArray w R := by
  have hle : args.length ≤ m := Nat.le_of_ble_eq_true hle'
  have hm' := Nat.eq_of_beq_eq_true hm
  refine calls_of_wp hf hb (h _ ⟨by simp [hm']; omega, rfl, fun t v hv => ?_⟩ (Sep.nil w))
  obtain ⟨_, h2⟩ := find_envOf args 0 hv
  have hlt : t < args.length := (List.getElem?_eq_some_iff.1 h2).1
  simp only [Nat.sub_zero] at h2
  rw [Array.getD_eq_getD_getElem?, Array.getElem?_append_left (by simpa using hlt)]
  simp [h2]
theorem c_seq {x y : Code} (h : x.wp P (Exit.then (y.wp P Q) Q) a w) : (Code.seq x y).wp P Q a w := wp_seq h
/-- A statement whose ways meet behind it: I is what is known there. -/
theorem c_seqI {x y : Code} (I : Act → World → Prop) (h : x.wp P (Exit.then I Q) a w) (k : ∀ a w, I a w → y.wp P Q a w) : (Code.seq x y).wp P Q a w :=
  wp_seq (wp_mono h fun e a w hq => by cases e <;> first | exact k _ _ hq | exact hq)
theorem c_reg {id : Nat} {l : List Oper} (h : wpList P l.toArray Q l a w) : (Code.region id l.toArray false).wp P Q a w := wp_region_lit h
theorem c_cond {c : Operand} {x y : Code} {b : Bool} (hE : Env a n env) (hc : opv env c = some (.bool b)) (ht : b = true → x.wp P Q a w) (hf : b = false → y.wp P Q a w) : (Code.cond c x y).wp P Q a w :=
  wp_cond_split (hE.eval hc) ht hf
theorem c_cond_t {c : Operand} {x y : Code} (hE : Env a n env) (hc : opv env c = some (.bool true)) (h : x.wp P Q a w) : (Code.cond c x y).wp P Q a w := wp_cond_true (hE.eval hc) h
theorem c_cond_f {c : Operand} {x y : Code} (hE : Env a n env) (hc : opv env c = some (.bool false)) (h : y.wp P Q a w) : (Code.cond c x y).wp P Q a w := wp_cond_false (hE.eval hc) h
theorem c_loop {c : Code} (I : Act → World → Prop) (μ : Act → World → Nat) (h₀ : I a w) (round : ∀ a w, I a w → c.wp P (Exit.then (fun a' w' => I a' w' ∧ μ a' w' < μ a w) Q) a w) : (Code.loop c).wp P Q a w := wp_loop I μ h₀ round
theorem p_ret {fn : Func} {R : Ending → World → Prop} {t : Tmp} {v : Value} (hE : Env a n env) (hr : fn.results = #[.tmp t]) (hv : find env t = some v) (h : R (.returned v) w) : bodyPost P fn R .ret a w := by
  refine bodyPost_ret (v := v) ?_ hE.defers h
  simp [results, hr, hE.at_ t v hv]
  have := hE.at_ t v hv
  simpa [Array.getD_eq_getD_getElem?] using this
/-- A loop, by a number that falls. -/
theorem c_loopN {c : Code} (I : Nat → Act → World → Prop) (m : Nat) (h₀ : I m a w) (round : ∀ m a w, I m a w → c.wp P (Exit.then (fun a' w' => ∃ m', m' < m ∧ I m' a' w') Q) a w) : (Code.loop c).wp P Q a w :=
  wp_loop_ghost I m h₀ round
/-- Results, in line. -/
inductive RVs (P : Program) (a : Act) (w : World) : List ResultVar → List Value → Prop
  | nil : RVs P a w [] []
  | tmp {t : Tmp} {v : Value} {rs : List ResultVar} {vs : List Value} (h : a.tmps.getD t undef = v) (r : RVs P a w rs vs) : RVs P a w (.tmp t :: rs) (v :: vs)
  | cell {t : Tmp} {ty : TypeId} {ad : Addr} {v : Value} {rs : List ResultVar} {vs : List Value} (hp : a.tmps.getD t undef = .pointer (some ad)) (h : (loadVar ty ad).run P w = .ok v w) (r : RVs P a w rs vs) : RVs P a w (.cell t ty :: rs) (v :: vs)
theorem rv_t {t : Tmp} {v : Value} {rs : List ResultVar} {vs : List Value} (hE : Env a n env) (h : find env t = some v) (r : RVs P a w rs vs) : RVs P a w (.tmp t :: rs) (v :: vs) := .tmp (hE.at_ t v h) r
theorem rv_c {t ty m g off e : Nat} {cs us : List Value} {L' : List Asn} {rs : List ResultVar} {vs : List Value} [T : TyInfo P ty true m] (hE : Env a n env) (hS : Sep w0 w L) (h : find env t = some (.pointer (some ⟨g, off, none⟩))) (hp : Pull (blk g cs e) L L') (hv : (cs.drop off).take m = us) (hm : us.length = m) (r : RVs P a w rs vs) : RVs P a w (.cell t ty :: rs) (.agg us.toArray :: vs) :=
  .cell (hE.at_ t _ h) (by
    have hA := at_blk (off := off) (hS.blk_at hp)
    subst hv
    exact run_loadVar_at (P := P) (ty := ty) hm (hA.take m) (fun h => by cases h)) r
theorem rv_s {t ty g off e : Nat} {cs : List Value} {v : Value} {L' : List Asn} {rs : List ResultVar} {vs : List Value} [T : TyInfo P ty false 1] (hE : Env a n env) (hS : Sep w0 w L) (h : find env t = some (.pointer (some ⟨g, off, none⟩))) (hp : Pull (blk g cs e) L L') (hv : cs[off]? = some v) (r : RVs P a w rs vs) : RVs P a w (.cell t ty :: rs) (v :: vs) :=
  .cell (hE.at_ t _ h) (by
    have hA := at_blk (off := off) (hS.blk_at hp)
    have hlt : off < cs.length := (List.getElem?_eq_some_iff.1 hv).1
    have e : cs.drop off = v :: cs.drop (off + 1) := by rw [← (List.getElem?_eq_some_iff.1 hv).2]; exact List.drop_eq_getElem_cons hlt
    rw [e] at hA
    have := run_loadVar_at (P := P) (ty := ty) (vs := [v]) rfl (hA.take 1) (fun _ => rfl)
    exact this) r
def rvOf (a : Act) : ResultVar → Sem Value
  | .tmp t => pure (a.tmps.getD t undef)
  | .cell p t => do loadVar t (← asAddr (a.tmps.getD p undef))
theorem RVs.run {rs : List ResultVar} {vs : List Value} (h : RVs P a w rs vs) : (rs.mapM (rvOf a)).run P w = .ok vs w := by
  induction h with
  | nil => rfl
  | @tmp t v rs vs h r ih =>
    have h1 : (rvOf a (.tmp t)).run P w = .ok v w := by simp [rvOf, ← h]
    rw [List.mapM_cons, Sem.run_bind, h1]
    simp only [Result.andThen_ok]
    rw [Sem.run_bind, ih]
    rfl
  | @cell t ty ad v rs vs hp h r ih =>
    have h1 : (rvOf a (.cell t ty)).run P w = .ok v w := by
      show (do loadVar ty (← asAddr (a.tmps.getD t undef)) : Sem Value).run P w = _
      rw [hp]
      simp [asAddr, h]
    rw [List.mapM_cons, Sem.run_bind, h1]
    simp only [Result.andThen_ok]
    rw [Sem.run_bind, ih]
    rfl
theorem run_results {fn : Func} {rs : List ResultVar} {vs : List Value} (hr : fn.results = rs.toArray) (hV : RVs P a w rs vs) : (results fn a.tmps).run P w = .ok (if h : vs.toArray.size = 1 then vs.toArray[0] else .tuple vs.toArray) w := by
  have hq := hV.run
  have e : results fn a.tmps = (do let l ← rs.mapM (rvOf a); pure (if h : l.toArray.size = 1 then l.toArray[0] else .tuple l.toArray)) := by
    unfold results
    rw [hr, List.mapM_toArray, map_eq_pure_bind, bind_assoc]
    simp only [pure_bind]
    rfl
  rw [e, Sem.run_bind, hq]
  rfl
theorem p_rets {fn : Func} {R : Ending → World → Prop} {rs : List ResultVar} {vs : List Value} (hE : Env a n env) (hr : fn.results = rs.toArray) (hV : RVs P a w rs vs) (hl : Nat.beq vs.length 1 = false) (h : R (.returned (.tuple vs.toArray)) w) : bodyPost P fn R .ret a w := by
  refine bodyPost_ret (v := .tuple vs.toArray) ?_ hE.defers h
  have hne : vs.length ≠ 1 := fun e => by rw [e] at hl; simp at hl
  rw [run_results hr hV, dif_neg (by simpa using hne)]
theorem p_ret1 {fn : Func} {R : Ending → World → Prop} {r : ResultVar} {v : Value} (hE : Env a n env) (hr : fn.results = #[r]) (hV : RVs P a w [r] [v]) (h : R (.returned v) w) : bodyPost P fn R .ret a w := by
  refine bodyPost_ret (v := v) ?_ hE.defers h
  rw [run_results (rs := [r]) hr hV]
  rfl
theorem p_none {fn : Func} {R : Ending → World → Prop} (hE : Env a n env) (hr : fn.results = #[]) (h : R (.returned (.tuple #[])) w) : bodyPost P fn R .ret a w :=
  bodyPost_ret (results_none hr _ _ _) hE.defers h
theorem p_end {fn : Func} {R : Ending → World → Prop} (hE : Env a n env) (hr : fn.results = #[]) (h : R (.returned (.tuple #[])) w) : bodyPost P fn R .normal a w :=
  bodyPost_end (results_none hr _ _ _) hE.defers h
end
/-- Cells that can be read, from an address on (none: there are none). -/
def Rd (w : World) (A : Option Addr) (cells : List Value) : Prop := ∀ j u, cells[j]? = some u → ∃ ad, A = some ad ∧ w.cell? (ad.add j) = some u
theorem Rd.at_ {w : World} {A : Option Addr} {cells : List Value} (h : Rd w A cells) : At w (adr A) cells := fun j u hu => by
  obtain ⟨ad, e, hc⟩ := h j u hu
  subst e
  exact hc
theorem Rd.some {w : World} {A : Option Addr} {cells : List Value} (h : Rd w A cells) (hne : 0 < cells.length) : A = Option.some (adr A) := by
  obtain ⟨ad, e, _⟩ := h 0 _ (List.getElem?_eq_getElem hne)
  subst e
  rfl
theorem Rd.move {w0 w : World} {L : List Asn} {A : Option Addr} {cells : List Value} (h : Rd w0 A cells) (hS : Sep w0 w L) : Rd w A cells := fun j u hu => by
  obtain ⟨ad, e, hc⟩ := h j u hu
  exact ⟨ad, e, hS.cell hc⟩
def ints (xs : List Int) : List Value := xs.map (Value.int .i64)
theorem ints_length (xs : List Int) : (ints xs).length = xs.length := by simp [ints]
theorem ints_at {w : World} {ad : Addr} {xs : List Int} (h : At w ad (ints xs)) (i : Int) (h0 : 0 ≤ i) (h1 : i < (xs.length : Int)) : At w (ad.add (i.toNat * 1)) (.int .i64 (xs.getD i.toNat 0) :: ints (xs.drop (i.toNat + 1))) := by
  have hlt : i.toNat < xs.length := by omega
  have hd := h.drop (i.toNat * 1)
  rw [Nat.mul_one] at hd ⊢
  have e : (ints xs).drop i.toNat = .int .i64 (xs.getD i.toNat 0) :: ints (xs.drop (i.toNat + 1)) := by
    unfold ints
    rw [← List.map_drop, List.drop_eq_getElem_cons hlt, List.map_cons]
    simp [hlt]
  rwa [e] at hd
end Go.Sx

/- DERIVED. The walk through a statement whose order is open. No condition. -/
import Derived.Test.YtbhddlllpgfgiaaSq
import Derived.OrdersHeld
import Derived.KernelRfl
namespace Go.Sx
open Go.RowKit
set_option linter.unusedVariables false
set_option linter.unusedSimpArgs false

/-- What is held through the statement: what was there is as it was; these blocks are as they were. -/
def SS (w0 : World) (G : List (Nat × List Value × TypeId)) (w : World) : Prop := Below w0.heap.size w0 w ∧ ∀ p ∈ G, w.heap[p.1]? = some (.cells p.2.1.toArray p.2.2 (0, 0))
inductive GIn : List (Nat × List Value × TypeId) → List Asn → Prop
  | nil {L : List Asn} : GIn [] L
  | cons {g : Nat} {cs : List Value} {t : TypeId} {G : List (Nat × List Value × TypeId)} {L L' : List Asn} (h : Pull (blk g cs t) L L') (r : GIn G L) : GIn ((g, cs, t) :: G) L
theorem SS.of {w0 w : World} {L : List Asn} {G : List (Nat × List Value × TypeId)} (hS : Sep w0 w L) (h : GIn G L) : SS w0 G w := by
  refine ⟨hS.below, ?_⟩
  induction h with
  | nil => intro p hp; cases hp
  | cons h r ih =>
    intro p hp
    rcases List.mem_cons.1 hp with rfl | hp
    · exact hS.blk_at h
    · exact ih hS p hp
/-- The blocks that these temporaries point to. -/
inductive Gt (env : List (Nat × Value)) (L : List Asn) : List Nat → List (Nat × List Value × TypeId) → Prop
  | nil : Gt env L [] []
  | cons {t g : Nat} {cs : List Value} {ty : TypeId} {ts : List Nat} {G : List (Nat × List Value × TypeId)} {L' : List Asn} (h : find env t = some (.pointer (some ⟨g, 0, none⟩))) (hp : Pull (blk g cs ty) L L') (r : Gt env L ts G) : Gt env L (t :: ts) ((g, cs, ty) :: G)
  | skip {t : Nat} {ts : List Nat} {G : List (Nat × List Value × TypeId)} (r : Gt env L ts G) : Gt env L (t :: ts) G
theorem Gt.gin {env : List (Nat × Value)} {L : List Asn} {ts : List Nat} {G : List (Nat × List Value × TypeId)} (h : Gt env L ts G) : GIn G L := by
  induction h with
  | nil => exact .nil
  | cons h hp r ih => exact .cons hp ih
  | skip r ih => exact ih
class Mixed (P : Program) : Prop where
  h : P.follows .mixedOrders = true
section
variable {P : Program} {ops : Array Oper} {o : Oper} {a : Act} {w w0 : World} {Q : Exit → Act → World → Prop} {n : Nat} {env : List (Nat × Value)} {L : List Asn} {S : World → Prop} {G : List (Nat × List Value × TypeId)} {listed : Array Bool} {fuel : Nat}
/-- An operation that only yields. -/
def Y (P : Program) (env : List (Nat × Value)) (S : World → Prop) (o : Oper) (v : Value) : Prop := ∀ (a : Act) (n : Nat) (w : World), Env a n env → S w → (execOp a.eval o).run P w = .ok (.value v) w
theorem y_move {x : Operand} {v : Value} (ho : o.op = .move x := by exact rfl) (hx : opv env x = some v := by exact rfl) : Y P env S o v := fun a n w hE _ => by simp [execOp, ho, hE.eval hx]
theorem y_assign {x : Operand} {v : Value} (ho : o.op = .assign x := by exact rfl) (hx : opv env x = some v := by exact rfl) : Y P env S o v := fun a n w hE _ => by simp [execOp, ho, hE.eval hx]
theorem y_pick_t {c x y : Operand} {v : Value} (ho : o.op = .pick c x y := by exact rfl) (hc : opv env c = some (.bool true) := by exact rfl) (hx : opv env x = some v := by exact rfl) : Y P env S o v := fun a n w hE _ => by simp [execOp, ho, hE.eval hx, hE.eval hc, asBool]
theorem y_pick_f {c x y : Operand} {v : Value} (ho : o.op = .pick c x y := by exact rfl) (hc : opv env c = some (.bool false) := by exact rfl) (hx : opv env y = some v := by exact rfl) : Y P env S o v := fun a n w hE _ => by simp [execOp, ho, hE.eval hx, hE.eval hc, asBool]
theorem y_extract {t : Operand} {i : Nat} {vs : Array Value} {v : Value} (ho : o.op = .extract t i := by exact rfl) (hx : opv env t = some (.tuple vs) := by exact rfl) (hv : vs[i]? = some v := by exact rfl) : Y P env S o v := fun a n w hE _ => by simp [execOp, ho, hE.eval hx, Instr.extract, hv]
theorem y_nil {x : Operand} {p : Addr} (ho : o.op = .nilCheck x := by exact rfl) (hx : opv env x = some (.pointer (some p)) := by exact rfl) : Y P env S o (.pointer (some p)) := fun a n w hE _ => by simp [execOp, ho, hE.eval hx]
theorem y_bin {op : BinOp} {t t' : TypeId} {x y : Operand} {u v r : Value} (ho : o.op = .binOp op t x y t' := by exact rfl) (hx : opv env x = some u := by exact rfl) (hy : opv env y = some v := by exact rfl) (hb : Bin P op t x y u v r := by first | exact bin_lss | exact bin_leq | exact bin_gtr | exact bin_geq | exact bin_eql | exact bin_neq | exact bin_add_in (by omega) (by omega) | exact bin_sub_in (by omega) (by omega) | exact bin_add | exact bin_sub | exact bin_mul_in (by omega) (by omega) | exact bin_mul | exact bin_eql_bool | exact bin_neq_bool | exact bin_eql_str | exact bin_neq_str) : Y P env S o r := fun a n w hE _ => by
  have h := hb w
  simp only [execOp, ho, hE.eval hx, hE.eval hy]
  rw [Sem.run_bind, h]; rfl
theorem y_not {x : Operand} {b : Bool} {t : TypeId} (ho : o.op = .unOp .not t x := by exact rfl) (hx : opv env x = some (.bool b) := by exact rfl) : Y P env S o (.bool (!b)) := fun a n w hE _ => by simp [execOp, ho, hE.eval hx, Op.unary]
theorem y_field {ty : TypeId} {f off : Nat} {x : Operand} {g q : Nat} (ho : o.op = .fieldAddr ty x f := by exact rfl) (T : FieldTy P ty f off := by infer_instance) (hx : opv env x = some (.pointer (some ⟨g, q, none⟩)) := by exact rfl) : Y P env S o (.pointer (some ⟨g, q + off, none⟩)) := fun a n w hE _ => by
  obtain ⟨fs, hu, fd, hf, rfl, i, hi, hs⟩ := T.h
  simp [execOp, ho, hE.eval hx, Instr.fieldAt, run_underlying hu, hf, Instr.sureAddr, fieldPlace, sizeOf, typeInfo, hi, hs, Addr.add_lit]
theorem y_fieldF {ty : TypeId} {f off : Nat} {x : Operand} {ad : Addr} (ho : o.op = .fieldAddr ty x f := by exact rfl) (T : FieldTy P ty f off := by infer_instance) (hx : opv env x = some (.pointer (some ad)) := by exact rfl) : Y P env S o (.pointer (some (ad.add off))) := fun a n w hE _ => by
  obtain ⟨fs, hu, fd, hf, rfl, i, hi, hs⟩ := T.h
  simp [execOp, ho, hE.eval hx, Instr.fieldAt, run_underlying hu, hf, Instr.sureAddr, fieldPlace, sizeOf, typeInfo, hi, hs]
theorem y_index {ty e : TypeId} {sz : Nat} {x y : Operand} {A : Option Addr} {len cap : Nat} {i : Int} {kd : IntKind} (hA : (0 : Int) < (len : Int) → A = some (adr A)) (ho : o.op = .indexAddr ty x y := by exact rfl) (T : SliceTy P ty e sz := by infer_instance) (hx : opv env x = some (.slice A len cap) := by exact rfl) (hy : opv env y = some (.int kd i) := by exact rfl) (h0 : 0 ≤ i := by omega) (h1 : i < len := by omega) :
    Y P env S o (.pointer (some ((adr A).add (i.toNat * sz)))) := fun a n w hE _ => by
  obtain ⟨q, hq, hs⟩ := info_of T.h2
  have hA' := hA (by omega)
  rw [hA'] at hx
  simp [execOp, ho, hE.eval hx, hE.eval hy, Instr.indexAt, asIntOf, run_underlying T.h1, h0, h1, sizeOf, typeInfo, hq, hs]
theorem y_len {t : TypeId} {x : Operand} {ad : Option Addr} {len cap : Nat} {e sz : Nat} (ho : o.op = .call { callee := .builtin .len, args := #[x], argTypes := #[t] } := by exact rfl) (T : SliceTy P t e sz := by infer_instance) (hx : opv env x = some (.slice ad len cap) := by exact rfl) : Y P env S o (.int .i64 len) := fun a n w hE _ => by
  simp [execOp, ho, resolve, invoke, builtin, hE.eval hx, Builtin.len_, run_underlying T.h1, goInt]
theorem y_lenS {t : TypeId} {x : Operand} {s : ByteArray} (ho : o.op = .call { callee := .builtin .len, args := #[x], argTypes := #[t] } := by exact rfl) (T : StrTy P t := by infer_instance) (hx : opv env x = some (.string s) := by exact rfl) : Y P env S o (.int .i64 s.size) := fun a n w hE _ => by
  simp [execOp, ho, resolve, invoke, builtin, hE.eval hx, Builtin.len_, run_underlying T.h, goInt]
theorem y_build {ty : TypeId} {zs cs cs' : List Value} {pl : List (Nat × Nat)} {ps : Array (Nat × Operand)} {vs : List (Nat × Value)} (ho : o.op = .build ty ps := by exact rfl) (Z : ZeroTy P ty zs := by infer_instance) (S' : StructTy P ty pl := by infer_instance) (hp : partsOf env ps.toList = some vs := by exact rfl) (hb : bld pl zs vs = some cs := by exact rfl) (hn : cs = cs' := by (try simp only [cellsL_agg, cellsL_int, cellsL_bool, cellsL_string, cellsL_slice, cellsL_pointer, cellsL_map, cellsL_func, cellsL_nilFunc, cellsL_iface, cellsL_nilIface, putL, List.length_cons, List.length_nil, List.take_succ_cons, List.take_zero, List.take_nil, List.drop_succ_cons, List.drop_zero, List.drop_nil, List.nil_append, List.cons_append, List.append_nil, Nat.reduceAdd, Nat.add_zero, Nat.zero_add]); first | done | rfl) : Y P env S o (.agg cs'.toArray) := fun a n w hE _ => by
  subst hn
  have hm : (ps.map fun (i, x) => (i, a.eval x)) = vs.toArray := by
    have := hE.parts hp
    apply Array.toList_inj.1
    simpa using this
  have hr := run_build (P := P) (w := w) (ty := ty) (ps := vs.toArray) hb
  simp only [execOp, ho, hm]
  rw [Sem.run_bind, hr]; rfl
inductive GMem : (Nat × List Value × TypeId) → List (Nat × List Value × TypeId) → Prop
  | here {p : Nat × List Value × TypeId} {G : List (Nat × List Value × TypeId)} : GMem p (p :: G)
  | there {p q : Nat × List Value × TypeId} {G : List (Nat × List Value × TypeId)} (h : GMem p G) : GMem p (q :: G)
theorem GMem.mem {p : Nat × List Value × TypeId} (h : GMem p G) : p ∈ G := by
  induction h with
  | here => exact List.mem_cons_self
  | there _ ih => exact List.mem_cons_of_mem _ ih
theorem y_load {ty : TypeId} {x : Operand} {g off : Nat} {cs : List Value} {t : TypeId} {v : Value} (ho : o.op = .load ty x := by exact rfl) (T : TyInfo P ty false 1 := by infer_instance) (hx : opv env x = some (.pointer (some ⟨g, off, none⟩)) := by exact rfl) (hp : GMem (g, cs, t) G := by repeat (first | exact GMem.here | apply GMem.there)) (hv : cs[off]? = some v := by exact rfl) : Y P env (SS w0 G) o v := fun a n w hE hSS => by
  have hlt : off < cs.length := (List.getElem?_eq_some_iff.1 hv).1
  have e : cs.drop off = v :: cs.drop (off + 1) := by rw [← (List.getElem?_eq_some_iff.1 hv).2]; exact List.drop_eq_getElem_cons hlt
  have h := run_loadAt (P := P) (ty := ty) (us := [v]) (at_blk (off := off) (hSS.2 _ hp.mem)) (by rw [e]; rfl) rfl (fun _ => rfl)
  simp only [execOp, ho, hE.eval hx]
  rw [Sem.run_bind, h]; rfl
theorem y_loadA {ty m : TypeId} {x : Operand} {g off : Nat} {cs us : List Value} {t : TypeId} (ho : o.op = .load ty x := by exact rfl) (T : TyInfo P ty true m := by infer_instance) (hx : opv env x = some (.pointer (some ⟨g, off, none⟩)) := by exact rfl) (hp : GMem (g, cs, t) G := by repeat (first | exact GMem.here | apply GMem.there)) (hv : (cs.drop off).take m = us := by (try simp only [cellsL_agg, cellsL_int, cellsL_bool, cellsL_string, cellsL_slice, cellsL_pointer, cellsL_map, cellsL_func, cellsL_nilFunc, cellsL_iface, cellsL_nilIface, putL, List.length_cons, List.length_nil, List.take_succ_cons, List.take_zero, List.take_nil, List.drop_succ_cons, List.drop_zero, List.drop_nil, List.nil_append, List.cons_append, List.append_nil, Nat.reduceAdd, Nat.add_zero, Nat.zero_add]); first | done | rfl) (hm : us.length = m := by exact rfl) : Y P env (SS w0 G) o (.agg us.toArray) := fun a n w hE hSS => by
  have h := run_loadAt (P := P) (ty := ty) (at_blk (off := off) (hSS.2 _ hp.mem)) hv hm (fun h => by cases h)
  simp only [execOp, ho, hE.eval hx]
  rw [Sem.run_bind, h]; rfl
theorem At.below {ad : Addr} {vs : List Value} (h : At w0 ad vs) (hb : Below w0.heap.size w0 w) : At w ad vs := fun j v hv => (hb.cell (World.block_lt_of_cell? w0 _ (h j v hv))).trans (h j v hv)
theorem y_load0 {ty : TypeId} {x : Operand} {ad : Addr} {v : Value} {vs : List Value} (hA : At w0 ad (v :: vs)) (ho : o.op = .load ty x := by exact rfl) (T : TyInfo P ty false 1 := by infer_instance) (hx : opv env x = some (.pointer (some ad)) := by exact rfl) : Y P env (SS w0 G) o v := fun a n w hE hSS => by
  have h := run_loadAt (P := P) (ty := ty) (us := [v]) (hA.below hSS.1) rfl rfl (fun _ => rfl)
  simp only [execOp, ho, hE.eval hx]
  rw [Sem.run_bind, h]; rfl
theorem y_loadA0 {ty m : TypeId} {x : Operand} {ad : Addr} {vs us : List Value} (hA : At w0 ad vs) (ho : o.op = .load ty x := by exact rfl) (T : TyInfo P ty true m := by infer_instance) (hx : opv env x = some (.pointer (some ad)) := by exact rfl) (hv : vs.take m = us := by (try simp only [cellsL_agg, cellsL_int, cellsL_bool, cellsL_string, cellsL_slice, cellsL_pointer, cellsL_map, cellsL_func, cellsL_nilFunc, cellsL_iface, cellsL_nilIface, putL, List.length_cons, List.length_nil, List.take_succ_cons, List.take_zero, List.take_nil, List.drop_succ_cons, List.drop_zero, List.drop_nil, List.nil_append, List.cons_append, List.append_nil, Nat.reduceAdd, Nat.add_zero, Nat.zero_add]); first | done | rfl) (hm : us.length = m := by exact rfl) : Y P env (SS w0 G) o (.agg us.toArray) := fun a n w hE hSS => by
  have h := run_loadAt (P := P) (ty := ty) (hA.below hSS.1) hv hm (fun h => by cases h)
  simp only [execOp, ho, hE.eval hx]
  rw [Sem.run_bind, h]; rfl

theorem rg_guard (id : Nat) (h : (Code.region id ops true).wp P Q a w) : (Code.region id ops true).wp P Q a w := h
/-- The beginning. -/
theorem rg_start {id : Nat} (ts : List Nat) (hE : Env a n env) (hS : Sep w0 w L) (h : ∀ w', Sep w0 w' L → SS w0 G w' → wpAnyH P .any ops Q (SS w0 G) ops.size (Array.replicate ops.size false) a w')
    (hG : Gt env L ts G := by repeat (first | exact Gt.nil | (apply Gt.cons; exact rfl; (focus ((repeat (first | exact Pull.here | apply Pull.there)); done))) | apply Gt.skip)) (M : Mixed P := by infer_instance) : (Code.region id ops true).wp P Q a w :=
  wp_region_held (S := SS w0 G) M.h (h _ hS.drew (SS.of hS.drew hG.gin))
/-- Operation i only yields: first. -/
theorem rg_y (i : Nat) {v : Value} {d : Tmp} (hE : Env a n env) (hX : SS w0 G w) (hy : Y P env (SS w0 G) o v) (k : ∀ a', Env a' n ((d, v) :: env) → wpAnyH P .any ops Q (SS w0 G) fuel (listed.setIfInBounds i true) a' w) (hi : ops[i]? = some o)
    (hg : guardIs ops env o = some true) (hd : o.dst = some d) (hlt : Nat.blt d n = true) (hs : Region.noSelect ops = true := by kernel_rfl) (hf : Region.free .any ops listed i = true := by kernel_rfl) (hr : (Region.ready .any ops listed).contains i = true := by kernel_rfl)
    (hQ : ∀ c a w, Q (.panic c) (a.put o.dst v) w → Q (.panic c) a w := by intro _ _ _ h; with_unfolding_all exact h) : wpAnyH P .any ops Q (SS w0 G) (fuel + 1) listed a w :=
  wpAnyH_take hi hs hf hr hQ (.inl ⟨hE.guard hg, fun w' hw' => hy a n w' hE hw'⟩) hX (k _ (hE.putS v hd hlt))
theorem rg_n (i : Nat) {d : Tmp} (hE : Env a n env) (hX : SS w0 G w) (k : ∀ a', Env a' n ((d, undef) :: env) → wpAnyH P .any ops Q (SS w0 G) fuel (listed.setIfInBounds i true) a' w) (hi : ops[i]? = some o)
    (hg : guardIs ops env o = some false) (hd : o.dst = some d) (hlt : Nat.blt d n = true) (hs : Region.noSelect ops = true := by kernel_rfl) (hf : Region.free .any ops listed i = true := by kernel_rfl) (hr : (Region.ready .any ops listed).contains i = true := by kernel_rfl)
    (hQ : ∀ c a w, Q (.panic c) (a.put o.dst undef) w → Q (.panic c) a w := by intro _ _ _ h; with_unfolding_all exact h) : wpAnyH P .any ops Q (SS w0 G) (fuel + 1) listed a w :=
  wpAnyH_take hi hs hf hr hQ (.inr ⟨hE.guard hg, rfl⟩) hX (k _ (hE.putS undef hd hlt))
/-- Operation i is the only one that may come up. -/
theorem rg_e (i : Nat) (hE : Env a n env) (hi : ops[i]? = some o) (hg : guardIs ops env o = some true) (hr : Region.ready .any ops listed = [i])
    (h : ∀ K : Act → World → Prop, (∀ a' w', SS w0 G w' → wpAnyH P .any ops Q (SS w0 G) fuel (listed.setIfInBounds i true) a' w' → K a' w') → o.wp P a w K Q) : wpAnyH P .any ops Q (SS w0 G) (fuel + 1) listed a w :=
  wpAnyH_all hr (by simp) fun j hj => by
    obtain rfl := List.mem_singleton.1 hj
    exact wpOp_step hi fun K hK => by rw [if_pos (hE.guard hg)]; exact h K (fun a' w' h1 h2 => hK a' w' ⟨h1, h2⟩)
theorem rg_es (i : Nat) {d : Tmp} (hE : Env a n env) (hX : SS w0 G w) (hi : ops[i]? = some o) (hg : guardIs ops env o = some false) (hd : o.dst = some d) (hlt : Nat.blt d n = true) (hr : Region.ready .any ops listed = [i])
    (k : ∀ a', Env a' n ((d, undef) :: env) → wpAnyH P .any ops Q (SS w0 G) fuel (listed.setIfInBounds i true) a' w) : wpAnyH P .any ops Q (SS w0 G) (fuel + 1) listed a w :=
  wpAnyH_all hr (by simp) fun j hj => by
    obtain rfl := List.mem_singleton.1 hj
    exact wpOp_step hi fun K hK => by rw [if_neg (by rw [hE.guard hg]; simp)]; exact hK _ _ ⟨hX, k _ (hE.putS undef hd hlt)⟩
theorem rg_e2 (i j : Nat) (hr : Region.ready .any ops listed = [i, j])
    (h1 : ∀ K : Act → World → Prop, (∀ a' w', SS w0 G w' → wpAnyH P .any ops Q (SS w0 G) fuel (listed.setIfInBounds i true) a' w' → K a' w') → wpOp P ops Q i K a w)
    (h2 : ∀ K : Act → World → Prop, (∀ a' w', SS w0 G w' → wpAnyH P .any ops Q (SS w0 G) fuel (listed.setIfInBounds j true) a' w' → K a' w') → wpOp P ops Q j K a w) : wpAnyH P .any ops Q (SS w0 G) (fuel + 1) listed a w :=
  wpAnyH_all hr (by simp) fun q hq => by
    rcases List.mem_cons.1 hq with rfl | hq
    · exact h1 _ (fun a' w' h1 h2 => ⟨h1, h2⟩)
    · obtain rfl := List.mem_singleton.1 hq
      exact h2 _ (fun a' w' h1 h2 => ⟨h1, h2⟩)
theorem rg_op {i : Nat} {K : Act → World → Prop} (hE : Env a n env) (hi : ops[i]? = some o) (hg : guardIs ops env o = some true) (h : o.wp P a w K Q) : wpOp P ops Q i K a w := by
  unfold wpOp
  simp only [hi]
  rw [if_pos (hE.guard hg)]
  exact .inl h
theorem rg_k {K : Act → World → Prop} (hK : ∀ a' w', SS w0 G w' → wpAnyH P .any ops Q (SS w0 G) fuel listed a' w' → K a' w') (hS : Sep w0 w L) (h : SS w0 G w → wpAnyH P .any ops Q (SS w0 G) fuel listed a w)
    (hG : GIn G L := by repeat (first | exact GIn.nil | (apply GIn.cons; (repeat (first | exact Pull.here | apply Pull.there))))) : K a w :=
  hK a w (SS.of hS hG) (h (SS.of hS hG))
theorem rg_done (h : Q .normal a w) (hr : Region.ready .any ops listed = []) : wpAnyH P .any ops Q S fuel listed a w := wpAnyH_done hr h fuel
theorem rg_split (hE : Env a n env) (t : Nat) {b : Bool} (hf : find env t = some (.bool b)) (ht : b = true → Env a n ((t, .bool true) :: env) → wpAnyH P .any ops Q S fuel listed a w) (hn : b = false → Env a n ((t, .bool false) :: env) → wpAnyH P .any ops Q S fuel listed a w) : wpAnyH P .any ops Q S fuel listed a w := by
  cases b with
  | true => exact ht rfl (hE.know hf rfl)
  | false => exact hn rfl (hE.know hf rfl)
end
end Go.Sx

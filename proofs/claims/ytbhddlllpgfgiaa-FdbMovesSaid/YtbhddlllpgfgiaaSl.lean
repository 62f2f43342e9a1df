/- DERIVED. Drawn regions in which one operation waits for all others: until it comes, what it writes may be read. No condition. -/
import Derived.Test.YtbhddlllpgfgiaaSz
import Derived.OrdersHeld
namespace Go.Sx
open Go.RowKit
set_option linter.unusedVariables false
set_option linter.unusedSimpArgs false
section
variable {P : Program} {ops : Array Oper} {Q : Exit → Act → World → Prop} {S : World → Prop} {z : Nat}
def wpAnyL (P : Program) (ops : Array Oper) (Q : Exit → Act → World → Prop) (S : World → Prop) (z : Nat) : Nat → Array Bool → Act → World → Prop
  | 0, listed, a, w => Region.ready .any ops listed = [] ∧ Q .normal a w
  | fuel + 1, listed, a, w => (Region.ready .any ops listed = [] → Q .normal a w) ∧
    ∀ i ∈ Region.ready .any ops listed, wpOp P ops Q i (fun a' w' => (i ≠ z → S w') ∧ wpAnyL P ops Q S z fuel (listed.setIfInBounds i true) a' w') a w
theorem wpAny_of_L : ∀ (fuel : Nat) (listed : Array Bool) (a : Act) (w : World), wpAnyL P ops Q S z fuel listed a w → wpAny P .any ops Q fuel listed a w
  | 0, _, _, _, h => h
  | fuel + 1, _, _, _, h => ⟨h.1, fun i hi => wpOp_mono (fun a' w' h' => wpAny_of_L fuel _ a' w' h'.2) (h.2 i hi)⟩
def waitsFor (ops : Array Oper) (z i : Nat) : Bool := match ops[z]? with
  | some o => o.after.any fun e => Region.binds .any e && e.on == i
  | none => false
/-- Of two that may come up neither waits for the other. -/
theorem no_edge {listed : Array Bool} {i j : Nat} {oj : Oper} (hi : i ∈ Region.ready .any ops listed) (hj : j ∈ Region.ready .any ops listed) (ho : ops[j]? = some oj) : ∀ e ∈ oj.after, Region.binds .any e = true → e.on ≠ i := by
  intro e he hb h
  obtain ⟨_, q, hq, hall⟩ := mem_ready.1 hj
  rw [ho] at hq
  cases hq
  have hl := hall e he hb
  have hu := (mem_ready.1 hi).1
  rw [h] at hl
  by_cases hs : i < listed.size
  · simp [hs] at hl hu
    rw [hl] at hu
    cases hu
  · simp [Array.getElem?_eq_none (Nat.le_of_not_lt hs)] at hl
theorem not_ready {listed : Array Bool} {i : Nat} (h : waitsFor ops z i = true) (hi : i ∈ Region.ready .any ops listed) : z ∉ Region.ready .any ops listed := fun hz => by
  obtain ⟨_, oz, hoz, _⟩ := mem_ready.1 hz
  unfold waitsFor at h
  rw [hoz] at h
  simp only [Array.any_eq_true] at h
  obtain ⟨q, hq, he⟩ := h
  rw [Bool.and_eq_true] at he
  exact no_edge hi hz hoz _ (Array.getElem_mem hq) he.1 (beq_iff_eq.1 he.2)
theorem wpAnyL_first {i : Nat} {oi : Oper} {v : Value} (hi : ops[i]? = some oi) (hsel : ∀ (j : Nat) (o : Oper) cs b, ops[j]? = some o → o.op ≠ .select cs b)
    (hQ : ∀ c a w, Q (.panic c) (a.put oi.dst v) w → Q (.panic c) a w) (hz : waitsFor ops z i = true) : ∀ (fuel : Nat) (listed : Array Bool) (a : Act) (w : World),
      (∀ j oj, ops[j]? = some oj → j ≠ i → listed.getD j true = false → (∀ e ∈ oj.after, Region.binds .any e = true → e.on ≠ i) → oi.apart ops oj = true) →
      i ∈ Region.ready .any ops listed → YieldsIf P ops S oi v a → S w →
      wpAnyL P ops Q S z fuel (listed.setIfInBounds i true) (a.put oi.dst v) w → wpAnyL P ops Q S z (fuel + 1) listed a w := by
  intro fuel
  induction fuel with
  | zero =>
    intro listed a w _ hr hy hS H
    refine ⟨fun h => (by rw [h] at hr; cases hr), fun j hj => ?_⟩
    by_cases hji : j = i
    · subst hji; exact hy.wpOp hi hS ⟨fun _ => hS, H⟩
    · have := ready_mono hj hji
      rw [H.1] at this
      cases this
  | succ fuel ih =>
    intro listed a w hfree hr hy hS H
    refine ⟨fun h => (by rw [h] at hr; cases hr), fun j hj => ?_⟩
    by_cases hji : j = i
    · subst hji; exact hy.wpOp hi hS ⟨fun _ => hS, H⟩
    · have hjz : j ≠ z := fun e => not_ready hz hr (e ▸ hj)
      have h1 := H.2 j (ready_mono hj hji)
      obtain ⟨hjun, oj, hoj, hall⟩ := mem_ready.1 hj
      have hnot := no_edge hr hj hoj
      have h2 := wpOp_putIf hoj (hfree j oj hoj hji hjun hnot) (fun cs b => hsel i oi cs b hi) (fun cs b => hsel j oj cs b hoj) hQ hy h1
      refine wpOp_mono (fun a' w' h3 => ⟨fun _ => h3.2.1 hjz, ih (listed.setIfInBounds j true) a' w' (fun k ok hk hki hun hno => hfree k ok hk hki ?_ hno) (ready_mono hr (Ne.symm hji)) h3.1 (h3.2.1 hjz) ?_⟩) h2
      · by_cases hjk : j = k
        · subst hjk; exact hjun
        · rw [getD_set_ne true hjk] at hun; exact hun
      · rw [Array.setIfInBounds_comm _ _ hji]
        exact h3.2.2
theorem wpAnyL_done {listed : Array Bool} {a : Act} {w : World} (hr : Region.ready .any ops listed = []) (h : Q .normal a w) : ∀ fuel, wpAnyL P ops Q S z fuel listed a w
  | 0 => ⟨hr, h⟩
  | _ + 1 => ⟨fun _ => h, by rw [hr]; simp⟩
end
section
variable {P : Program} {ops : Array Oper} {o : Oper} {a : Act} {w w0 : World} {Q : Exit → Act → World → Prop} {n : Nat} {env : List (Nat × Value)} {L L' : List Asn} {G : List (Nat × List Value × TypeId)} {fuel z : Nat} {listed : Array Bool}
theorem rl_start {id : Nat} (z : Nat) (ts : List Nat) (hE : Env a n env) (hS : Sep w0 w L) (h : ∀ w', Sep w0 w' L → SS w0 G w' → wpAnyL P ops Q (SS w0 G) z ops.size (Array.replicate ops.size false) a w')
    (hG : Gt env L ts G := by repeat (first | exact Gt.nil | (apply Gt.cons; exact rfl; (focus ((repeat (first | exact Pull.here | apply Pull.there)); done))) | apply Gt.skip)) (M : Mixed P := by infer_instance) : (Code.region id ops true).wp P Q a w :=
  wp_region_any M.h (wpAny_of_L _ _ _ _ (h _ hS.drew (SS.of hS.drew hG.gin)))
theorem rl_y (i : Nat) {v : Value} {d : Tmp} (hE : Env a n env) (hX : SS w0 G w) (hy : Y P env (SS w0 G) o v) (k : ∀ a', Env a' n ((d, v) :: env) → wpAnyL P ops Q (SS w0 G) z fuel (listed.setIfInBounds i true) a' w) (hi : ops[i]? = some o)
    (hg : guardIs ops env o = some true) (hd : o.dst = some d) (hlt : Nat.blt d n = true) (hs : Region.noSelect ops = true := by kernel_rfl) (hf : Region.free .any ops listed i = true := by kernel_rfl) (hr : (Region.ready .any ops listed).contains i = true := by kernel_rfl)
    (hQ : ∀ c a w, Q (.panic c) (a.put o.dst v) w → Q (.panic c) a w := by intro _ _ _ h; with_unfolding_all exact h) (hz : waitsFor ops z i = true := by kernel_rfl) : wpAnyL P ops Q (SS w0 G) z (fuel + 1) listed a w :=
  wpAnyL_first hi (Region.noSelect_spec hs) hQ hz fuel listed a w (Region.free_spec hi hf) (by simpa using hr) (.inl ⟨hE.guard hg, fun w' hw' => hy a n w' hE hw'⟩) hX (k _ (hE.putS v hd hlt))
theorem rl_n (i : Nat) {d : Tmp} (hE : Env a n env) (hX : SS w0 G w) (k : ∀ a', Env a' n ((d, undef) :: env) → wpAnyL P ops Q (SS w0 G) z fuel (listed.setIfInBounds i true) a' w) (hi : ops[i]? = some o)
    (hg : guardIs ops env o = some false) (hd : o.dst = some d) (hlt : Nat.blt d n = true) (hs : Region.noSelect ops = true := by kernel_rfl) (hf : Region.free .any ops listed i = true := by kernel_rfl) (hr : (Region.ready .any ops listed).contains i = true := by kernel_rfl)
    (hQ : ∀ c a w, Q (.panic c) (a.put o.dst undef) w → Q (.panic c) a w := by intro _ _ _ h; with_unfolding_all exact h) (hz : waitsFor ops z i = true := by kernel_rfl) : wpAnyL P ops Q (SS w0 G) z (fuel + 1) listed a w :=
  wpAnyL_first hi (Region.noSelect_spec hs) hQ hz fuel listed a w (Region.free_spec hi hf) (by simpa using hr) (.inr ⟨hE.guard hg, rfl⟩) hX (k _ (hE.putS undef hd hlt))
theorem rl_e (i : Nat) (hE : Env a n env) (hi : ops[i]? = some o) (hg : guardIs ops env o = some true) (hr : Region.ready .any ops listed = [i])
    (h : ∀ K : Act → World → Prop, (∀ a' w', SS w0 G w' → wpAnyL P ops Q (SS w0 G) z fuel (listed.setIfInBounds i true) a' w' → K a' w') → o.wp P a w K Q) : wpAnyL P ops Q (SS w0 G) z (fuel + 1) listed a w :=
  ⟨fun h0 => (by rw [hr] at h0; cases h0), fun j hj => by
    rw [hr] at hj
    obtain rfl := List.mem_singleton.1 hj
    exact wpOp_step hi fun K hK => by rw [if_pos (hE.guard hg)]; exact h K (fun a' w' h1 h2 => hK a' w' ⟨fun _ => h1, h2⟩)⟩
theorem rl_z (hE : Env a n env) (hi : ops[z]? = some o) (hg : guardIs ops env o = some true) (hr : Region.ready .any ops listed = [z])
    (h : ∀ K : Act → World → Prop, (∀ a' w', wpAnyL P ops Q (SS w0 G) z fuel (listed.setIfInBounds z true) a' w' → K a' w') → o.wp P a w K Q) : wpAnyL P ops Q (SS w0 G) z (fuel + 1) listed a w :=
  ⟨fun h0 => (by rw [hr] at h0; cases h0), fun j hj => by
    rw [hr] at hj
    obtain rfl := List.mem_singleton.1 hj
    exact wpOp_step hi fun K hK => by rw [if_pos (hE.guard hg)]; exact h K (fun a' w' h2 => hK a' w' ⟨fun e => absurd rfl e, h2⟩)⟩
theorem rl_es (i : Nat) {d : Tmp} (hE : Env a n env) (hX : SS w0 G w) (hi : ops[i]? = some o) (hg : guardIs ops env o = some false) (hd : o.dst = some d) (hlt : Nat.blt d n = true) (hr : Region.ready .any ops listed = [i])
    (k : ∀ a', Env a' n ((d, undef) :: env) → wpAnyL P ops Q (SS w0 G) z fuel (listed.setIfInBounds i true) a' w) : wpAnyL P ops Q (SS w0 G) z (fuel + 1) listed a w :=
  ⟨fun h0 => (by rw [hr] at h0; cases h0), fun j hj => by
    rw [hr] at hj
    obtain rfl := List.mem_singleton.1 hj
    exact wpOp_step hi fun K hK => by rw [if_neg (by rw [hE.guard hg]; simp)]; exact hK _ _ ⟨fun _ => hX, k _ (hE.putS undef hd hlt)⟩⟩
theorem rl_e2 (i j : Nat) (hr : Region.ready .any ops listed = [i, j])
    (h1 : ∀ K : Act → World → Prop, (∀ a' w', SS w0 G w' → wpAnyL P ops Q (SS w0 G) z fuel (listed.setIfInBounds i true) a' w' → K a' w') → wpOp P ops Q i K a w)
    (h2 : ∀ K : Act → World → Prop, (∀ a' w', SS w0 G w' → wpAnyL P ops Q (SS w0 G) z fuel (listed.setIfInBounds j true) a' w' → K a' w') → wpOp P ops Q j K a w) : wpAnyL P ops Q (SS w0 G) z (fuel + 1) listed a w :=
  ⟨fun h0 => (by rw [hr] at h0; cases h0), fun q hq => by
    rw [hr] at hq
    simp only [List.mem_cons, List.not_mem_nil, or_false] at hq
    rcases hq with rfl | rfl
    · exact h1 _ (fun a' w' h1 h2 => ⟨fun _ => h1, h2⟩)
    · exact h2 _ (fun a' w' h1 h2 => ⟨fun _ => h1, h2⟩)⟩
theorem rl_e3 (i j k : Nat) (hr : Region.ready .any ops listed = [i, j, k])
    (h1 : ∀ K : Act → World → Prop, (∀ a' w', SS w0 G w' → wpAnyL P ops Q (SS w0 G) z fuel (listed.setIfInBounds i true) a' w' → K a' w') → wpOp P ops Q i K a w)
    (h2 : ∀ K : Act → World → Prop, (∀ a' w', SS w0 G w' → wpAnyL P ops Q (SS w0 G) z fuel (listed.setIfInBounds j true) a' w' → K a' w') → wpOp P ops Q j K a w)
    (h3 : ∀ K : Act → World → Prop, (∀ a' w', SS w0 G w' → wpAnyL P ops Q (SS w0 G) z fuel (listed.setIfInBounds k true) a' w' → K a' w') → wpOp P ops Q k K a w) : wpAnyL P ops Q (SS w0 G) z (fuel + 1) listed a w :=
  ⟨fun h0 => (by rw [hr] at h0; cases h0), fun q hq => by
    rw [hr] at hq
    simp only [List.mem_cons, List.not_mem_nil, or_false] at hq
    rcases hq with rfl | rfl | rfl
    · exact h1 _ (fun a' w' h1 h2 => ⟨fun _ => h1, h2⟩)
    · exact h2 _ (fun a' w' h1 h2 => ⟨fun _ => h1, h2⟩)
    · exact h3 _ (fun a' w' h1 h2 => ⟨fun _ => h1, h2⟩)⟩
theorem rl_k {K : Act → World → Prop} (hK : ∀ a' w', SS w0 G w' → wpAnyL P ops Q (SS w0 G) z fuel listed a' w' → K a' w') (hS : Sep w0 w L) (h : SS w0 G w → wpAnyL P ops Q (SS w0 G) z fuel listed a w)
    (hG : GIn G L := by repeat (first | exact GIn.nil | (apply GIn.cons; (repeat (first | exact Pull.here | apply Pull.there))))) : K a w :=
  hK a w (SS.of hS hG) (h (SS.of hS hG))
theorem rl_done {S : World → Prop} (h : Q .normal a w) (hr : Region.ready .any ops listed = []) : wpAnyL P ops Q S z fuel listed a w := wpAnyL_done hr h fuel
theorem rl_split {S : World → Prop} (hE : Env a n env) (t : Nat) {b : Bool} (hf : find env t = some (.bool b)) (ht : b = true → Env a n ((t, .bool true) :: env) → wpAnyL P ops Q S z fuel listed a w) (hn : b = false → Env a n ((t, .bool false) :: env) → wpAnyL P ops Q S z fuel listed a w) : wpAnyL P ops Q S z fuel listed a w := by
  cases b with
  | true => exact ht rfl (hE.know hf rfl)
  | false => exact hn rfl (hE.know hf rfl)
end
theorem Sub.refl : ∀ (L : List Asn), Sub L L
  | [] => .nil
  | _ :: L => .cons .here (Sub.refl L)
theorem Sub.skip {x : Asn} {L M : List Asn} (h : Sub L M) : Sub (x :: L) M := by
  induction h with
  | nil => exact .nil
  | cons hp _ ih => exact .cons (.there hp) ih
/-- What is owned, in another order, and less of it; a frame stays. -/
theorem Sep.fit {w0 w : World} {L M : List Asn} (h : Sep w0 w L) (s : Sub L M := by repeat (first | exact Sub.refl _ | (apply Sub.cons; (repeat (first | exact Pull.here | apply Pull.there))) | apply Sub.skip)) : Sep w0 w M := h.sub s
theorem flat_cut {α : Type} {f : α → List Value} {m : Nat} (hf : ∀ x, (f x).length = m) (a b : List α) (k : Nat) (hk : a.length = k) : ((a ++ b).flatMap f).take (k * m) = a.flatMap f ∧ ((a ++ b).flatMap f).drop (k * m) = b.flatMap f := by
  have hl : (a.flatMap f).length = k * m := by rw [flat_len hf, hk]
  rw [List.flatMap_append, ← hl]
  exact ⟨List.take_left, List.drop_left⟩
theorem flat_take {α : Type} {f : α → List Value} {m : Nat} (hf : ∀ x, (f x).length = m) (l : List α) (k : Nat) (hk : k ≤ l.length) : (l.flatMap f).take (k * m) = (l.take k).flatMap f := by
  have := (flat_cut hf (l.take k) (l.drop k) k (by rw [List.length_take, Nat.min_eq_left hk])).1
  rwa [List.take_append_drop] at this
theorem flat_drop {α : Type} {f : α → List Value} {m : Nat} (hf : ∀ x, (f x).length = m) (l : List α) (k : Nat) (hk : k ≤ l.length) : (l.flatMap f).drop (k * m) = (l.drop k).flatMap f := by
  have := (flat_cut hf (l.take k) (l.drop k) k (by rw [List.length_take, Nat.min_eq_left hk])).2
  rwa [List.take_append_drop] at this
/-- Records written over records. -/
theorem flat_put {α : Type} {f : α → List Value} {m : Nat} (hf : ∀ x, (f x).length = m) (a b d c : List α) (q : Nat) (hq : a.length = q) (hd : d.length = b.length) : putL ((a ++ b ++ c).flatMap f) (q * m) (d.flatMap f) = (a ++ d ++ c).flatMap f := by
  have e1 := flat_cut hf a (b ++ c) q hq
  have e2 := flat_cut hf (a ++ b) c (q + d.length) (by rw [List.length_append, hq, hd])
  unfold putL
  rw [flat_len hf, ← Nat.add_mul, e2.2, List.append_assoc a b c, e1.1]
  simp only [List.flatMap_append, List.append_assoc]
theorem oRow.ext {w : World} {base : Nat} {e : TypeId} {sz n c : Nat} {A : Option Addr} {xs : List Value} (h : oRow w base e sz (.slice A n c) n xs) (k : Nat) (hk : n + k ≤ c) (hA : A ≠ none) : ∃ ys, ys.length = k * sz ∧ oRow w base e sz (.slice A (n + k) c) (n + k) (xs ++ ys) := by
  rcases h.2 with ⟨hv, hn⟩ | ⟨g, cap, cur, hv, hb, hg, hnc, hcm, hcs, ht⟩
  · cases hv; exact absurd rfl hA
  · cases hv
    have hle : (n + k) * sz ≤ cur.size := Nat.le_trans (Nat.mul_le_mul_right _ hk) hcs
    have hcu : cur.toList.length = cur.size := Array.length_toList
    refine ⟨(cur.toList.drop (n * sz)).take (k * sz), ?_, ?_, .inr ⟨g, c, cur, rfl, hb, hg, hk, hcm, hcs, ?_⟩⟩
    · rw [Nat.add_mul] at hle
      rw [List.length_take, List.length_drop, hcu]
      omega
    · rw [Nat.add_mul] at hle
      rw [List.length_append, h.1, List.length_take, List.length_drop, hcu, Nat.add_mul]
      omega
    · rw [← ht, Nat.add_mul, List.take_add]
theorem Sep.row_ext {w0 w : World} {L L' : List Asn} {e : TypeId} {sz n c : Nat} {A : Option Addr} {xs : List Value} (hS : Sep w0 w L) (k : Nat) (hk : n + k ≤ c) (hA : A ≠ none) (hp : Pull (row e sz (.slice A n c) n xs) L L' := by repeat (first | exact Pull.here | apply Pull.there)) : ∃ ys, ys.length = k * sz ∧ Sep w0 w (row e sz (.slice A (n + k) c) (n + k) (xs ++ ys) :: L') := by
  have h := hS.pull hp
  obtain ⟨F, ⟨F1, F2, hF, hd, ⟨hr, hr2⟩, hL⟩, hrr⟩ := h.own
  obtain ⟨ys, hy, hr'⟩ := hr.ext k hk hA
  refine ⟨ys, hy, h.below, F, ⟨F1, F2, hF, hd, ⟨hr', fun q => ?_⟩, hL⟩, hrr⟩
  rw [hr2 q]
  cases A <;> rfl
class PtrTy (P : Program) (t : TypeId) : Prop where
  h : ∃ e, P.underlying t = some (.pointer e)
section
variable {P : Program} {o : Oper} {a : Act} {w w0 : World} {Q : Exit → Act → World → Prop} {n : Nat} {env : List (Nat × Value)} {K : Act → World → Prop} {S : World → Prop}
/-- A pointer held against nil. -/
theorem bin_eql_nil {t : TypeId} {x y : Operand} {A : Option Addr} (T : PtrTy P t) : Bin P .eql t x y (.pointer A) (.pointer none) (.bool A.isNone) := fun w => by
  obtain ⟨e, e1⟩ := T.h
  have hd' : Op.maxDepth = 9999 + 1 := rfl
  have hq : (Op.equalIn Op.maxDepth t (.pointer A) (.pointer none)).run P w = .ok A.isNone w := by
    rw [hd']
    unfold Op.equalIn
    cases A <;> simp [run_underlying e1]
  cases A <;> simp [eqGuard, binOp, Op.equal, hq]
theorem qpn {t t' : TypeId} {x y : Operand} {A : Option Addr} {d : Tmp} (hE : Env a n env) (k : ∀ a', Env a' n ((d, .bool A.isNone) :: env) → K a' w) (ho : o.op = .binOp .eql t x y t' := by exact rfl) (T : PtrTy P t := by infer_instance) (hx : opv env x = some (.pointer A) := by exact rfl) (hy : opv env y = some (.pointer none) := by exact rfl) (hd : o.dst = some d := by exact rfl) (hlt : Nat.blt d n = true := by exact rfl) : o.wp P a w K Q := o_bin hE ho hx hy (bin_eql_nil T) hd hlt k
theorem y_pn {t t' : TypeId} {x y : Operand} {A : Option Addr} (ho : o.op = .binOp .eql t x y t' := by exact rfl) (T : PtrTy P t := by infer_instance) (hx : opv env x = some (.pointer A) := by exact rfl) (hy : opv env y = some (.pointer none) := by exact rfl) : Y P env S o (.bool A.isNone) := y_bin ho hx hy (bin_eql_nil T)
end
/-- A cut behind a block. -/
theorem c_midb {P : Program} {a : Act} {w : World} {Q : Exit → Act → World → Prop} {id : Nat} {c c2 : Code} {I : Act → World → Prop} (h1 : (Code.block id c).wp P (Exit.then I Q) a w) (h2 : ∀ a w, I a w → c2.wp P Q a w) : ((Code.block id c).seq c2).wp P Q a w :=
  wp_seq (Code.wp_mono (fun e a w h => by cases e <;> first | exact h2 _ _ h | exact h) h1)
theorem c_midb2 {P : Program} {a : Act} {w : World} {Q : Exit → Act → World → Prop} {id : Nat} {r c c2 : Code} {I : Act → World → Prop} (h1 : (r.seq (Code.block id c)).wp P (Exit.then I Q) a w) (h2 : ∀ a w, I a w → c2.wp P Q a w) : ((r.seq (Code.block id c)).seq c2).wp P Q a w :=
  wp_seq (Code.wp_mono (fun e a w h => by cases e <;> first | exact h2 _ _ h | exact h) h1)
theorem ints_flat (xs : List Int) : ints xs = xs.flatMap fun x => [Value.int .i64 x] := by simp [ints, List.map_eq_flatMap]
section
variable {P : Program} {o : Oper} {a : Act} {w w0 : World} {Q : Exit → Act → World → Prop} {n : Nat} {env : List (Nat × Value)} {L L' : List Asn} {K : Act → World → Prop}
/-- A record's field in an owned row, whatever way its address was reckoned. -/
theorem qlP {α : Type} {f : α → List Value} {l : List α} {df : α} (off : Nat) {ty e m : TypeId} {x : Operand} {A : Option Addr} {N c : Nat} {i : Int} {v : Value} {d : Tmp} {p : Addr} (hE : Env a n env) (hS : Sep w0 w L) (hf : ∀ x, (f x).length = m) (hus : (f (l.getD i.toNat df))[off]? = some v) (k : ∀ a', Env a' n ((d, v) :: env) → K a' w)
    (ho : o.op = .load ty x := by exact rfl) (T : TyInfo P ty false 1 := by infer_instance) (hx : opv env x = some (.pointer (some p)) := by exact rfl) (hpp : p = (adr A).add (i.toNat * m + off) := by first | exact rfl | exact Addr.add_add _ _ _) (hp : Pull (row e m (.slice A N c) N (l.flatMap f)) L L' := by repeat (first | exact Pull.here | apply Pull.there))
    (h0 : 0 ≤ i := by omega) (h1 : i < (l.length : Int) := by omega) (hd : o.dst = some d := by exact rfl) (hlt : Nat.blt d n = true := by exact rfl) : o.wp P a w K Q := by
  subst hpp
  have hA := (flat_at hf ((Rd.row hS hp).at_) i h0 h1 df).drop off
  have e1 : (f (l.getD i.toNat df)).drop off = v :: (f (l.getD i.toNat df)).drop (off + 1) := by rw [← (List.getElem?_eq_some_iff.1 hus).2]; exact List.drop_eq_getElem_cons _
  rw [e1, Addr.add_add] at hA
  have h := run_loadAt (P := P) (ty := ty) (us := [v]) hA rfl rfl (fun _ => rfl)
  exact o_val hE (by simp only [execOp, ho, hE.eval hx]; rw [Sem.run_bind, h]; rfl) hd hlt k
/-- A number stored in an owned row of numbers. -/
theorem qsI {ty e : TypeId} {x y : Operand} {A : Option Addr} {N c : Nat} {i : Int} {xs : List Int} {v : Int} (hE : Env a n env) (hS : Sep w0 w L) (kk : ∀ w', Sep w0 w' (row e 1 (.slice A N c) N (ints (xs.set i.toNat v)) :: L') → K a w') (ho : o.op = .store ty x y := by exact rfl) (T : TyInfo P ty false 1 := by infer_instance)
    (hx : opv env x = some (.pointer (some ((adr A).add (i.toNat * 1)))) := by exact rfl) (hy : opv env y = some (.int .i64 v) := by exact rfl) (hp : Pull (row e 1 (.slice A N c) N (ints xs)) L L' := by repeat (first | exact Pull.here | apply Pull.there)) (h0 : 0 ≤ i := by omega) (h1 : i < (xs.length : Int) := by omega) (hd : o.dst = none := by exact rfl) : o.wp P a w K Q := by
  rw [ints_flat] at hp
  refine qsR (f := fun x => [Value.int .i64 x]) (df := 0) (off := 0) (v := .int .i64 v) v hE hS (fun _ => rfl) rfl (fun w' h => kk w' ?_) ho T hx hy rfl hp rfl rfl rfl rfl h0 h1 hd
  rw [ints_flat]
  exact h
end
theorem Pull.of_mem {x : Asn} : ∀ {L : List Asn}, x ∈ L → ∃ L', Pull x L L'
  | y :: L, h => by
    by_cases e : x = y
    · subst e; exact ⟨L, .here⟩
    · obtain ⟨L', hL⟩ := Pull.of_mem ((List.mem_cons.1 h).resolve_left e)
      exact ⟨y :: L', .there hL⟩
/-- One more of many. -/
theorem Sep.stars_snoc {w0 w : World} {A : Asn} {M R : List Asn} (h : Sep w0 w (A :: stars M :: R)) : Sep w0 w (stars (M ++ [A]) :: R) := by
  have h1 := h.out_stars (M := M) (.there .here)
  refine Sep.in_stars ?_
  rwa [List.append_assoc, List.singleton_append]
/-- What one of many reads. -/
theorem Sep.star_at {w0 w : World} {A : Asn} {M L L' : List Asn} (h : Sep w0 w L) (hA : A ∈ M) (hp : Pull (stars M) L L' := by repeat (first | exact Pull.here | apply Pull.there)) : ∃ R, Sep w0 w (A :: R) := by
  have h1 := h.out_stars hp
  obtain ⟨R, hR⟩ := Pull.of_mem (List.mem_append_left L' hA)
  exact ⟨R, h1.pull hR⟩
end Go.Sx

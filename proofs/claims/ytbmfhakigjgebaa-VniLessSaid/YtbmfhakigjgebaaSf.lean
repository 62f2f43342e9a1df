/- DERIVED. Walks inside a fence, for ranges over a function: the code's rules, an iterator's call of yield. No condition. -/
import Derived.Test.YtbmfhakigjgebaaSl
import Derived.RangeFuncFrom
import Derived.RangeFuncKeeps
import Derived.RangeFuncLeaves
import Derived.RangeFuncCalls
import Derived.TacticsIn
namespace Go.Sx
open Go.RowKit
set_option linter.unusedVariables false
set_option linter.unusedSimpArgs false
/-- A fence that lets all in. -/
structure Wide (F : Fence) (P : Program) : Prop where
  fn : ∀ f, F.fn f
  depth : F.depth = none
  calls : ∀ (n : Nat) (f : FuncId) (args : Array Value) (w : World) (R : Ending → World → Prop), Calls P f args w R → CallsIn F n P f args w R
  rows : ∀ (n : Nat) (row : String) (args : Array Value) (w : World) (R : Value → World → Prop), Rows P row args w R → RowsIn F n P row args w R
theorem Wide.deep {F : Fence} {P : Program} (W : Wide F P) {q : Prop} : F.depth.isSome = true → q := fun h => by
  rw [W.depth] at h
  cases h
theorem wide_wide (P : Program) : Wide Fence.wide P := ⟨fun _ => trivial, rfl, fun _ _ _ _ _ h => callsIn_wide.2 h, fun n row args w R h c cs _ => by
  obtain ⟨v, w', r, s⟩ := h c cs
  exact ⟨v, w', r, stepsIn_wide.2 s⟩⟩
theorem wide_round (P : Program) (l : Nat) : Wide (Fence.wide.inRound l) P := ⟨fun _ => trivial, rfl, fun n f args w R h => CallsIn.inRound l (callsIn_wide.2 h), fun n row args w R h => (wide_wide P).rows n row args w R h⟩
section
variable {F : Fence} {m : Nat} {P : Program} {ops : Array Oper} {rest : List Oper} {o : Oper} {a : Act} {w w0 : World} {Q : Exit → Act → World → Prop} {n : Nat} {env : List (Nat × Value)} {L : List Asn} {K : Act → World → Prop}
theorem semAt_any (hr : ∀ c, o.op ≠ .defer c) (ρ : Operand → Value) : o.semAt F.round ρ = execOp ρ o := by
  cases F.round with
  | none => rfl
  | some l => exact Oper.semAt_some l ρ o hr
theorem oi (W : Wide F P) (hr : ∀ c, o.op ≠ .defer c) (h : o.wp P a w K Q) : o.wpIn F m P a w K Q := by
  refine ⟨fun f _ => W.fn f, ?_⟩
  rw [semAt_any hr]
  unfold Oper.wp at h
  revert h
  generalize (execOp a.eval o).run P w = r
  intro h
  unfold Oper.upon at h
  unfold Oper.uponIn
  split at h <;> first | exact h | exact h.elim | (exact ⟨W.deep, W.calls _ _ _ _ _ h⟩) | (exact ⟨W.deep, W.rows _ _ _ _ _ h⟩)
/-- An operation of a list. -/
theorem wli (W : Wide F P) (hE : Env a n env) (hg : guardIs ops env o = some true) (hr : ∀ c, o.op ≠ .defer c) (h : o.wp P a w (wpListIn F m P ops Q rest) Q) : wpListIn F m P ops Q (o :: rest) a w := by
  show (if Region.wanted o (yielded ops a.tmps) then o.wpIn F m P a w (wpListIn F m P ops Q rest) Q else _)
  rw [if_pos (hE.guard hg)]
  exact oi W hr h
theorem wli_skip (W : Wide F P) (hE : Env a n env) (hg : guardIs ops env o = some false) {d : Tmp} (hd : o.dst = some d) (hlt : Nat.blt d n = true) (k : ∀ a', Env a' n ((d, undef) :: env) → wpListIn F m P ops Q rest a' w) : wpListIn F m P ops Q (o :: rest) a w := by
  show (if Region.wanted o (yielded ops a.tmps) then o.wpIn F m P a w (wpListIn F m P ops Q rest) Q else _)
  rw [if_neg (by rw [hE.guard hg]; simp)]
  exact ⟨fun f _ => W.fn f, k _ (hE.putS _ hd hlt)⟩
theorem wli_split {l : List Oper} (hE : Env a n env) (t : Nat) {b : Bool} (hf : find env t = some (.bool b))
    (ht : b = true → Env a n ((t, .bool true) :: env) → wpListIn F m P ops Q l a w) (hn : b = false → Env a n ((t, .bool false) :: env) → wpListIn F m P ops Q l a w) : wpListIn F m P ops Q l a w := by
  cases b with
  | true => exact ht rfl (hE.know hf rfl)
  | false => exact hn rfl (hE.know hf rfl)
theorem wli_splitg {rest : List Oper} (hE : Env a n env) {t : Nat} (hg : (o.guard.bind fun p => (ops[p.1]?).bind (·.dst)) = some t) {b : Bool} (hf : find env t = some (.bool b))
    (ht : b = true → Env a n ((t, .bool true) :: env) → wpListIn F m P ops Q (o :: rest) a w) (hn : b = false → Env a n ((t, .bool false) :: env) → wpListIn F m P ops Q (o :: rest) a w) : wpListIn F m P ops Q (o :: rest) a w :=
  wli_split hE t hf ht hn
/-- The call of yield. -/
theorem wli_yield (W : Wide F P) (hE : Env a n env) (hg : guardIs ops env o = some true) {l : Nat} {x : Operand} {as : Array Operand} {ts : Array TypeId} {vs : List Value} {R : Ending → World → Prop} (ho : o.op = .call { callee := .value x, args := as, argTypes := ts })
    (hx : opv env x = some (.func (.yield l) #[] #[])) (ha : argsOf env as.toList = some vs) (hy : YieldAt F (m - 1) P l vs.toArray w R) {d : Tmp} (hd : o.dst = some d) (hlt : Nat.blt d n = true)
    (k : ∀ e a' w', R e w' → ∃ v, e = .returned v ∧ (Env a' n ((d, v) :: env) → wpListIn F m P ops Q rest a' w')) : wpListIn F m P ops Q (o :: rest) a w := by
  show (if Region.wanted o (yielded ops a.tmps) then o.wpIn F m P a w (wpListIn F m P ops Q rest) Q else _)
  rw [if_pos (hE.guard hg)]
  refine ⟨fun f _ => W.fn f, ?_⟩
  rw [semAt_any (by rw [ho]; intro c h; cases h)]
  obtain ⟨fn, tmps, assign, body, hr, hR⟩ := hy
  have hm : as.map a.eval = vs.toArray := by
    have := hE.args ha
    apply Array.toList_inj.1
    simpa using this
  have hrun : (execOp a.eval o).run P w = .ok (.round l fn tmps assign body) w := by
    simp [execOp, ho, resolve, hm, hE.eval hx, Deferred.ofValue, invoke, hr]
  rw [hrun]
  refine ⟨W.deep, hR.mono fun e w' h => ?_⟩
  cases e with
  | returned u =>
    obtain ⟨v, hv, hk⟩ := k _ (a.put o.dst u) w' h
    cases hv
    exact hk (hE.putS u hd hlt)
  | panicked ch =>
    obtain ⟨v, hv, _⟩ := k _ a w' h
    cases hv
  | outgrown =>
    obtain ⟨v, hv, _⟩ := k _ a w' h
    cases hv
/-- A function value. -/
theorem qmf {f : FuncId} {A B : Array Operand} {va vb : List Value} {d : Tmp} (hE : Env a n env) (k : ∀ a', Env a' n ((d, .func (.func f) va.toArray vb.toArray) :: env) → K a' w) (ho : o.op = .makeFunc (.func f) A B := by exact rfl) (ha : argsOf env A.toList = some va := by exact rfl) (hb : argsOf env B.toList = some vb := by exact rfl) (hd : o.dst = some d := by exact rfl) (hlt : Nat.blt d n = true := by exact rfl) : o.wp P a w K Q := by
  have e1 : A.map a.eval = va.toArray := Array.toList_inj.1 (by simpa using hE.args ha)
  have e2 : B.map a.eval = vb.toArray := Array.toList_inj.1 (by simpa using hE.args hb)
  refine o_makeFunc hE ho e1 e2 ?_ hd hlt k
  rfl
theorem wli_nil (h : Q .normal a w) : wpListIn F m P ops Q [] a w := h
end
section
variable {F : Fence} {m : Nat} {P : Program} {a : Act} {w w0 : World} {Q : Exit → Act → World → Prop} {n : Nat} {env : List (Nat × Value)} {id : Nat}
theorem ci_wide {c : Code} (h : c.wpIn Fence.wide m P Q a w) : c.wp P Q a w := wpIn_wide.1 h
theorem ci_block {c : Code} (h : c.wpIn F m P (Exit.inBlock id Q) a w) : (Code.block id c).wpIn F m P Q a w := wpIn_block h
theorem ci_skip (h : Q .normal a w) : Code.skip.wpIn F m P Q a w := wpIn_skip h
theorem ci_exit (h : Q (.exit id) a w) : (Code.exit id).wpIn F m P Q a w := wpIn_exit h
theorem ci_ret (h : Q .ret a w) : Code.ret.wpIn F m P Q a w := wpIn_ret h
theorem ci_seq {x y : Code} (h : x.wpIn F m P (Exit.then (y.wpIn F m P Q) Q) a w) : (Code.seq x y).wpIn F m P Q a w := wpIn_seq h
theorem ci_reg {l : List Oper} (h : wpListIn F m P l.toArray Q l a w) : (Code.region id l.toArray false).wpIn F m P Q a w := wpIn_region_lit h
theorem ci_regI (id : Nat) {l : List Oper} (h : wpListIn F m P l.toArray Q l a w) : (Code.region id l.toArray false).wpIn F m P Q a w := ci_reg h
theorem ci_cond {c : Operand} {x y : Code} {b : Bool} (hE : Env a n env) (hc : opv env c = some (.bool b)) (ht : b = true → x.wpIn F m P Q a w) (hf : b = false → y.wpIn F m P Q a w) : (Code.cond c x y).wpIn F m P Q a w :=
  wpIn_cond_split (hE.eval hc) ht hf
theorem ci_cond_t {c : Operand} {x y : Code} (hE : Env a n env) (hc : opv env c = some (.bool true)) (h : x.wpIn F m P Q a w) : (Code.cond c x y).wpIn F m P Q a w := wpIn_cond_true (hE.eval hc) h
theorem ci_cond_f {c : Operand} {x y : Code} (hE : Env a n env) (hc : opv env c = some (.bool false)) (h : y.wpIn F m P Q a w) : (Code.cond c x y).wpIn F m P Q a w := wpIn_cond_false (hE.eval hc) h
/-- A loop, by a number that falls. -/
theorem ci_loopN {c : Code} (I : Nat → Act → World → Prop) (k : Nat) (h₀ : I k a w) (round : ∀ k a w, I k a w → c.wpIn F m P (Exit.then (fun a' w' => ∃ k', k' < k ∧ I k' a' w') Q) a w) : (Code.loop c).wpIn F m P Q a w := by
  have least : ∀ (p : Nat → Prop) (k : Nat), p k → ∃ j, p j ∧ ∀ i, p i → j ≤ i := fun p k => by
    induction k using Nat.strongRecOn with
    | ind k ih =>
      intro hk
      by_cases h : ∃ j, j < k ∧ p j
      · obtain ⟨j, hj, hp⟩ := h
        exact ih j hj hp
      · exact ⟨k, hk, fun i hi => by
          rcases Nat.lt_or_ge i k with h1 | h1
          · exact absurd ⟨i, h1, hi⟩ h
          · exact h1⟩
  classical
  have lw : ∀ a w, (∃ k, I k a w) → ∃ j, I j a w ∧ ∀ i, I i a w → j ≤ i := fun a w ⟨k, hk⟩ => least (fun k => I k a w) k hk
  refine wpIn_loop (fun a w => ∃ k, I k a w) (fun a w => if h : ∃ k, I k a w then Classical.choose (lw a w h) else 0) ⟨k, h₀⟩ ?_
  intro a w h
  have hk := Classical.choose_spec (lw a w h)
  refine wpIn_mono (round _ a w hk.1) fun e a' w' hq => ?_
  cases e <;> first | exact hq | skip
  obtain ⟨k', hlt, hI⟩ := hq
  refine ⟨⟨k', hI⟩, ?_⟩
  have h' : ∃ k, I k a' w' := ⟨k', hI⟩
  simp only [dif_pos h, dif_pos h']
  exact Nat.lt_of_le_of_lt ((Classical.choose_spec (lw a' w' h')).2 _ hI) hlt
end
/-! ### what is owned abides what turns no cells -/
def Cellular (A : Asn) : Prop := ∀ w F, A.P w F → ∀ k, F k → ∃ o : Obj, w.heap[k]? = some o ∧ o.isCells = true
theorem blk_cellular (g : Nat) (cs : List Value) (t : TypeId) : Cellular (blk g cs t) := fun w F h k hk => by
  have := (h.2 k).1 hk
  subst this
  exact ⟨_, h.1, rfl⟩
theorem row_cellular (e : TypeId) (sz : Nat) (v : Value) (n : Nat) (xs : List Value) : Cellular (row e sz v n xs) := fun w F h k hk => by
  have hb := (h.2 k).1 hk
  rcases h.1.2 with ⟨rfl, _⟩ | ⟨g, cap, cur, rfl, _, hg, _⟩
  · simp [Value.ownBlock] at hb
  · simp [Value.ownBlock] at hb
    subst hb
    exact ⟨_, hg, rfl⟩
theorem SepL.cellular {w : World} : ∀ {L : List Asn} {F : Foot}, (∀ A ∈ L, Cellular A) → SepL w L F → ∀ k, F k → ∃ o : Obj, w.heap[k]? = some o ∧ o.isCells = true
  | [], F, _, h, k, hk => (h k hk).elim
  | A :: L, F, hc, ⟨F1, F2, hF, _, hA, hL⟩, k, hk => by
    rcases (hF k).1 hk with h1 | h2
    · exact hc A (by simp) w F1 hA k h1
    · exact SepL.cellular (fun B hB => hc B (by simp [hB])) hL k h2
theorem Sep.kept {w0 w w' : World} {L : List Asn} {r : Option Nat} {B : Nat} (h : Sep w0 w L) (hc : ∀ A ∈ L, Cellular A) (hB : w0.heap.size ≤ B) (hg : w.grownBy w' r) (hr : ∀ k, r = some k → B ≤ k ∧ ∃ o : Obj, w.heap[k]? = some o ∧ o.isCells = false) : Sep w0 w' L := by
  obtain ⟨F, hL, hF⟩ := h.own
  have hs : ∀ k, F k → w'.heap[k]? = w.heap[k]? := fun k hk => hg.block k (hF k hk).2 fun e => by
    obtain ⟨_, o, ho, hoc⟩ := hr k e.symm
    obtain ⟨o', ho', hoc'⟩ := hL.cellular hc k hk
    rw [ho] at ho'; cases ho'; rw [hoc] at hoc'; cases hoc'
  refine ⟨⟨hg.os.trans h.below.os, hg.tape.trans h.below.tape, hg.output.trans h.below.output, Nat.le_trans h.below.size hg.size, fun k hk => ?_⟩, F, hL.move hs, fun k hk => ⟨(hF k hk).1, Nat.lt_of_lt_of_le (hF k hk).2 hg.size⟩⟩
  rw [hg.block k (Nat.lt_of_lt_of_le hk h.below.size) fun e => by have := (hr k e.symm).1; omega, h.below.block k hk]
/-- What a walk of one's own made since w: all that lay there lies. -/
theorem Sep.grown {w0 w : World} {L : List Asn} (h : Sep w0 w L) : w0.grownBy w none := ⟨h.below.os, h.below.tape, h.below.output, h.below.size, fun k hk _ => h.below.block k hk⟩
/-- What an iterator asks a round to keep: these blocks. -/
def KeepsB (S : Nat → Prop) (X Y : World) : Prop := X.heap.size ≤ Y.heap.size ∧ ∀ k, S k → Y.heap[k]? = X.heap[k]?
theorem KeepsB.trans {S : Nat → Prop} {X Y Z : World} (h : KeepsB S X Y) (k : KeepsB S Y Z) : KeepsB S X Z := ⟨Nat.le_trans h.1 k.1, fun i hi => (k.2 i hi).trans (h.2 i hi)⟩
theorem KeepsB.cell {S : Nat → Prop} {X Y : World} (h : KeepsB S X Y) {ad : Addr} {v : Value} (hS : S ad.block) (hc : X.cell? ad = some v) : Y.cell? ad = some v := (World.cell?_of_block (h.2 _ hS)).trans hc
end Go.Sx

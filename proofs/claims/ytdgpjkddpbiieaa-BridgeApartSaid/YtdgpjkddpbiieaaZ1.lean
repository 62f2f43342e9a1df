/- DERIVED. Texts Sep, Sx, Sq, Sr, St, Rn, Op, Su, Sv, Sw, Sy, Sz, Sl, Sm, Ty of this session, put together by a program of it (merge.py). No condition. -/
import Derived.WalkKit
import Derived.Below
import Derived.Deep.Draws
import Derived.Carry
import Derived.Orders
import Derived.Deep.LoopGhost
import Derived.OrdersHeld
import Derived.KernelRfl
import Derived.ProofKit
import Derived.OpenShut
import Derived.ShutString
import Derived.ChangeOld
import Derived.SizedLaws
import Derived.Deep.Slices
import Derived.Test.YtdgpjkddpbiieaaProg
import Derived.ChangeKeysEq
import Derived.LoopN
import Derived.Lib.AppendZerosOnto
import Derived.Lib.Overlaps
import Derived.Laws.CopyRow
import Derived.Maps.Own
import Derived.Maps.Views
/- DERIVED. What a call owns, as a list of resources that lie apart: the heap part of the walks of this seat. No condition. -/
namespace Go.Sx
open Go.RowKit
set_option linter.unusedVariables false
set_option linter.unusedSimpArgs false

abbrev Foot := Nat → Prop

/-- A resource: what it says of the world, and of which blocks. -/
structure Asn where
  P : World → Foot → Prop
  move : ∀ {w w' : World} {F : Foot}, P w F → (∀ k, F k → w'.heap[k]? = w.heap[k]?) → P w' F

def SepL (w : World) : List Asn → Foot → Prop
  | [], F => ∀ k, ¬ F k
  | A :: L, F => ∃ F1 F2 : Foot, (∀ k, F k ↔ F1 k ∨ F2 k) ∧ (∀ k, F1 k → ¬ F2 k) ∧ A.P w F1 ∧ SepL w L F2

theorem SepL.move {w w' : World} : ∀ {L : List Asn} {F : Foot}, SepL w L F → (∀ k, F k → w'.heap[k]? = w.heap[k]?) → SepL w' L F
  | [], _, h, _ => h
  | A :: L, F, ⟨F1, F2, hF, hd, hA, hL⟩, hm => ⟨F1, F2, hF, hd, A.move hA (fun k hk => hm k ((hF k).2 (.inl hk))), SepL.move hL (fun k hk => hm k ((hF k).2 (.inr hk)))⟩

/-- What has become of the world since w0: what was there is as it was, and of what is new L is owned. -/
structure Sep (w0 w : World) (L : List Asn) : Prop where
  below : Below w0.heap.size w0 w
  own : ∃ F, SepL w L F ∧ ∀ k, F k → w0.heap.size ≤ k ∧ k < w.heap.size

theorem Sep.nil (w : World) : Sep w w [] := ⟨Below.refl _ _, fun _ => False, fun _ h => h, fun _ h => h.elim⟩
theorem Sep.size {w0 w : World} {L : List Asn} (h : Sep w0 w L) : w0.heap.size ≤ w.heap.size := h.below.size

/-- L0 is L with x put in somewhere. -/
inductive Pull (x : Asn) : List Asn → List Asn → Prop
  | here {L : List Asn} : Pull x (x :: L) L
  | there {y : Asn} {L L' : List Asn} : Pull x L L' → Pull x (y :: L) (y :: L')

theorem SepL.swap {w : World} {A B : Asn} {L : List Asn} {F : Foot} (h : SepL w (A :: B :: L) F) : SepL w (B :: A :: L) F := by
  obtain ⟨F1, F2, hF, hd, hA, F3, F4, hG, he, hB, hL⟩ := h
  refine ⟨F3, fun k => F1 k ∨ F4 k, fun k => ?_, fun k h3 => ?_, hB, F1, F4, fun k => Iff.rfl, fun k h1 h4 => ?_, hA, hL⟩
  · rw [hF, hG]
    constructor
    · rintro (h | h | h)
      · exact .inr (.inl h)
      · exact .inl h
      · exact .inr (.inr h)
    · rintro (h | h | h)
      · exact .inr (.inl h)
      · exact .inl h
      · exact .inr (.inr h)
  · rintro (h | h)
    · exact hd k h ((hG k).2 (.inl h3))
    · exact he k h3 h
  · exact hd k h1 ((hG k).2 (.inr h4))

theorem SepL.pull {w : World} {x : Asn} {L L' : List Asn} (hp : Pull x L L') : ∀ {F : Foot}, SepL w L F → SepL w (x :: L') F := by
  induction hp with
  | here => exact fun h => h
  | there _ ih =>
    intro F h
    obtain ⟨F1, F2, hF, hd, hA, hL⟩ := h
    exact SepL.swap ⟨F1, F2, hF, hd, hA, ih hL⟩
theorem SepL.push {w : World} {x : Asn} {L L' : List Asn} (hp : Pull x L L') : ∀ {F : Foot}, SepL w (x :: L') F → SepL w L F := by
  induction hp with
  | here => exact fun h => h
  | there _ ih =>
    intro F h
    obtain ⟨F1, F2, hF, hd, hA, hL⟩ := SepL.swap h
    exact ⟨F1, F2, hF, hd, hA, ih hL⟩
theorem Sep.pull {w0 w : World} {x : Asn} {L L' : List Asn} (h : Sep w0 w L) (hp : Pull x L L') : Sep w0 w (x :: L') :=
  ⟨h.below, let ⟨F, hL, hr⟩ := h.own; ⟨F, hL.pull hp, hr⟩⟩
theorem Sep.push {w0 w : World} {x : Asn} {L L' : List Asn} (h : Sep w0 w (x :: L')) (hp : Pull x L L') : Sep w0 w L :=
  ⟨h.below, let ⟨F, hL, hr⟩ := h.own; ⟨F, hL.push hp, hr⟩⟩

theorem SepL.append {w : World} : ∀ {L M : List Asn} {F G : Foot}, SepL w L F → SepL w M G → (∀ k, F k → ¬ G k) → SepL w (L ++ M) (fun k => F k ∨ G k)
  | [], M, F, G, hL, hM, _ => by
    have : (fun k => F k ∨ G k) = G := funext fun k => propext ⟨fun h => h.elim (fun h => (hL k h).elim) id, .inr⟩
    rw [this]; exact hM
  | A :: L, M, F, G, ⟨F1, F2, hF, hd, hA, hL⟩, hM, hx => by
    refine ⟨F1, fun k => F2 k ∨ G k, fun k => ?_, fun k h1 h2 => ?_, hA, SepL.append hL hM (fun k h2 => hx k ((hF k).2 (.inr h2)))⟩
    · show F k ∨ G k ↔ F1 k ∨ (F2 k ∨ G k)
      rw [hF, or_assoc]
    · rcases h2 with h2 | h2
      · exact hd k h1 h2
      · exact hx k ((hF k).2 (.inl h1)) h2

/-- A call that owns nothing of the caller's: what it made is owned beside. -/
theorem Sep.then {w0 w w' : World} {L R : List Asn} (h : Sep w0 w L) (k : Sep w w' R) : Sep w0 w' (R ++ L) := by
  obtain ⟨F, hL, hr⟩ := h.own
  obtain ⟨G, hR, hs⟩ := k.own
  refine ⟨h.below.trans (k.below.mono h.below.size), fun k => G k ∨ F k, SepL.append hR (hL.move fun i hi => k.below.block i (hr i hi).2) (fun i hg hf => by have := hs i hg; have := hr i hf; omega), fun i hi => ?_⟩
  rcases hi with hi | hi
  · have := hs i hi; have := h.below.size; omega
  · have := hr i hi; have := k.below.size; omega

/-- The world turned, but not what is owned, nor what was there. -/
theorem Sep.same {w0 w w' : World} {L : List Asn} (h : Sep w0 w L) (hb : Below w.heap.size w w') : Sep w0 w' L :=
  Sep.then (R := []) h ⟨hb, fun _ => False, fun _ h => h, fun _ h => h.elim⟩
theorem Sep.drew {w0 w : World} {L : List Asn} (h : Sep w0 w L) : Sep w0 w.drew L := h.same (Below.refl _ _).drew
theorem Sep.drop {w0 w : World} {A : Asn} {L : List Asn} (h : Sep w0 w (A :: L)) : Sep w0 w L := by
  obtain ⟨F, ⟨F1, F2, hF, hd, hA, hL⟩, hr⟩ := h.own
  exact ⟨h.below, F2, hL, fun k hk => hr k ((hF k).2 (.inr hk))⟩
theorem Sep.clean {w0 w : World} {L : List Asn} (h : Sep w0 w L) : Sep w0 w [] := ⟨h.below, fun _ => False, fun _ h => h, fun _ h => h.elim⟩

/-! ### the resources -/
/-- A block of cells. -/
def blk (g : Nat) (cs : List Value) (t : TypeId) : Asn where
  P w F := w.heap[g]? = some (.cells cs.toArray t (0, 0)) ∧ ∀ k, F k ↔ k = g
  move := fun ⟨h, hF⟩ hm => ⟨(hm g ((hF g).2 rfl)).trans h, hF⟩
/-- A row of a slice value: like the kit's ownsRow, but the block may be longer than the slice's capacity. -/
def oRow (w : World) (base : Nat) (e : TypeId) (size : Nat) (v : Value) (n : Nat) (xs : List Value) : Prop :=
  xs.length = n * size ∧
  ((v = .slice none 0 0 ∧ n = 0) ∨
   ∃ g cap cur, v = .slice (some ⟨g, 0, none⟩) n cap ∧ base ≤ g ∧ w.heap[g]? = some (.cells cur e (0, 0)) ∧ n ≤ cap ∧ cap ≤ maxLen ∧ cap * size ≤ cur.size ∧ cur.toList.take (n * size) = xs)
theorem oRow_nil (w : World) (base : Nat) (e : TypeId) (size : Nat) : oRow w base e size (.slice none 0 0) 0 [] := ⟨by simp, .inl ⟨rfl, rfl⟩⟩
theorem oRow.lt {w : World} {base : Nat} {e : TypeId} {size : Nat} {v : Value} {n : Nat} {xs : List Value} (h : oRow w base e size v n xs) : ∀ k, v.ownBlock = some k → base ≤ k ∧ k < w.heap.size := by
  intro k hk
  rcases h.2 with ⟨rfl, _⟩ | ⟨g, cap, cur, rfl, hb, hg, _⟩
  · simp [Value.ownBlock] at hk
  · simp [Value.ownBlock] at hk
    subst hk
    exact ⟨hb, (Array.getElem?_eq_some_iff.1 hg).1⟩
theorem oRow.cells {w : World} {base : Nat} {e : TypeId} {size : Nat} {v : Value} {n : Nat} {xs : List Value} (h : oRow w base e size v n xs) {g : Nat} (hg : v.ownBlock = some g) : ∀ j u, xs[j]? = some u → w.cell? ((⟨g, 0, none⟩ : Addr).add j) = some u := by
  intro j u hu
  rcases h.2 with ⟨rfl, _⟩ | ⟨g', cap, cur, rfl, _, hgg, _, _, _, htake⟩
  · simp [Value.ownBlock] at hg
  · simp [Value.ownBlock] at hg
    subst hg
    have hadd : (⟨g', 0, none⟩ : Addr).add j = ⟨g', j, none⟩ := by unfold Addr.add; split <;> simp_all
    rw [hadd, cell_of_row w g' j cur e (0, 0) hgg]
    rw [← htake, List.getElem?_take] at hu
    split at hu
    · simpa using hu
    · cases hu
def row (e : TypeId) (sz : Nat) (v : Value) (n : Nat) (xs : List Value) : Asn where
  P w F := oRow w 0 e sz v n xs ∧ ∀ k, F k ↔ v.ownBlock = some k
  move := by
    rintro w w' F ⟨h, hF⟩ hm
    refine ⟨⟨h.1, ?_⟩, hF⟩
    rcases h.2 with h2 | ⟨g, cap, cur, rfl, hb, hg, r⟩
    · exact .inl h2
    · exact .inr ⟨g, cap, cur, rfl, hb, (hm g ((hF g).2 rfl)).trans hg, r⟩
def pur (p : Prop) : Asn where
  P _ F := p ∧ ∀ k, ¬ F k
  move := fun h _ => h
def ex {α : Type} (f : α → Asn) : Asn where
  P w F := ∃ a, (f a).P w F
  move := fun ⟨a, h⟩ hm => ⟨a, (f a).move h hm⟩
def stars (L : List Asn) : Asn where
  P w F := SepL w L F
  move := fun h hm => h.move hm

section
variable {w0 w : World} {L : List Asn}
theorem Sep.blk_at {g : Nat} {cs : List Value} {t : TypeId} {L' : List Asn} (h : Sep w0 w L) (hp : Pull (blk g cs t) L L') : w.heap[g]? = some (.cells cs.toArray t (0, 0)) := by
  obtain ⟨F, ⟨F1, F2, _, _, hA, _⟩, _⟩ := (h.pull hp).own
  exact hA.1
theorem Sep.row_at {e : TypeId} {sz n : Nat} {v : Value} {xs : List Value} {L' : List Asn} (h : Sep w0 w L) (hp : Pull (row e sz v n xs) L L') : oRow w 0 e sz v n xs := by
  obtain ⟨F, ⟨F1, F2, _, _, hA, _⟩, _⟩ := (h.pull hp).own
  exact hA.1
theorem Sep.out_pur {p : Prop} {L' : List Asn} (h : Sep w0 w L) (hp : Pull (pur p) L L') : p ∧ Sep w0 w L' := by
  obtain ⟨F, ⟨F1, F2, hF, _, hA, hL⟩, hr⟩ := (h.pull hp).own
  exact ⟨hA.1, h.below, F2, hL, fun k hk => hr k ((hF k).2 (.inr hk))⟩
theorem Sep.in_pur {p : Prop} (h : Sep w0 w L) (hp : p) : Sep w0 w (pur p :: L) := by
  obtain ⟨F, hL, hr⟩ := h.own
  exact ⟨h.below, F, ⟨fun _ => False, F, fun k => by simp, fun _ h => h.elim, ⟨hp, fun _ h => h⟩, hL⟩, hr⟩
theorem Sep.out_ex {α : Type} {f : α → Asn} {L' : List Asn} (h : Sep w0 w L) (hp : Pull (ex f) L L') : ∃ a, Sep w0 w (f a :: L') := by
  obtain ⟨F, ⟨F1, F2, hF, hd, ⟨a, hA⟩, hL⟩, hr⟩ := (h.pull hp).own
  exact ⟨a, h.below, F, ⟨F1, F2, hF, hd, hA, hL⟩, hr⟩
theorem Sep.in_ex {α : Type} {f : α → Asn} (a : α) (h : Sep w0 w (f a :: L)) : Sep w0 w (ex f :: L) := by
  obtain ⟨F, ⟨F1, F2, hF, hd, hA, hL⟩, hr⟩ := h.own
  exact ⟨h.below, F, ⟨F1, F2, hF, hd, ⟨a, hA⟩, hL⟩, hr⟩
theorem SepL.split {w : World} : ∀ {L M : List Asn} {F : Foot}, SepL w (L ++ M) F → ∃ F1 F2 : Foot, (∀ k, F k ↔ F1 k ∨ F2 k) ∧ (∀ k, F1 k → ¬ F2 k) ∧ SepL w L F1 ∧ SepL w M F2
  | [], M, F, h => ⟨fun _ => False, F, fun k => by simp, fun _ h => h.elim, fun _ h => h, h⟩
  | A :: L, M, F, ⟨F1, F2, hF, hd, hA, h⟩ => by
    obtain ⟨G1, G2, hG, he, hL, hM⟩ := SepL.split h
    refine ⟨fun k => F1 k ∨ G1 k, G2, fun k => ?_, fun k h1 h2 => ?_, ⟨F1, G1, fun k => Iff.rfl, fun k h1 h2 => hd k h1 ((hG k).2 (.inl h2)), hA, hL⟩, hM⟩
    · rw [hF, hG, or_assoc]
    · rcases h1 with h1 | h1
      · exact hd k h1 ((hG k).2 (.inr h2))
      · exact he k h1 h2
theorem Sep.out_stars {M L' : List Asn} (h : Sep w0 w L) (hp : Pull (stars M) L L') : Sep w0 w (M ++ L') := by
  obtain ⟨F, ⟨F1, F2, hF, hd, hA, hL⟩, hr⟩ := (h.pull hp).own
  refine ⟨h.below, F, ?_, hr⟩
  have := SepL.append hA hL hd
  rwa [show (fun k => F1 k ∨ F2 k) = F from funext fun k => propext (hF k).symm] at this
theorem Sep.in_stars {M : List Asn} (h : Sep w0 w (M ++ L)) : Sep w0 w (stars M :: L) := by
  obtain ⟨F, hL, hr⟩ := h.own
  obtain ⟨F1, F2, hF, hd, h1, h2⟩ := hL.split
  exact ⟨h.below, F, ⟨F1, F2, hF, hd, h1, h2⟩, hr⟩

/-! ### what turns them -/
/-- A new object. -/
theorem Sep.new {A : Asn} (h : Sep w0 w L) (o : Obj) (hA : ∀ w', w'.heap[w.heap.size]? = some o → A.P w' (fun k => k = w.heap.size)) : Sep w0 (w.alloc o) (A :: L) := by
  have hb : Below w.heap.size w (w.alloc o) := (Below.refl _ _).alloc (Nat.le_refl _) o
  obtain ⟨F, hL, hr⟩ := h.own
  refine ⟨h.below.trans (hb.mono h.below.size), fun k => k = w.heap.size ∨ F k, ⟨_, F, fun k => Iff.rfl, fun k h1 h2 => by have := hr k h2; omega, hA _ (heap_alloc_new w o), hL.move fun k hk => hb.block k (hr k hk).2⟩, fun k hk => ?_⟩
  have hs : (w.alloc o).heap.size = w.heap.size + 1 := by simp
  rcases hk with rfl | hk
  · exact ⟨h.below.size, by omega⟩
  · have := hr k hk; exact ⟨this.1, by omega⟩
theorem Sep.alloc {cs : List Value} {t : TypeId} (h : Sep w0 w L) : Sep w0 (w.alloc (.cells cs.toArray t)) (blk w.heap.size cs t :: L) :=
  h.new _ fun w' hw => ⟨hw, fun k => Iff.rfl⟩
/-- One resource is turned into others, in its own blocks or new ones. -/
theorem Sep.turn {w' : World} {A : Asn} {M : List Asn} (h : Sep w0 w (A :: L)) (hos : w'.os = w.os) (htape : w'.tape = w.tape) (hout : w'.output = w.output) (hsz : w.heap.size ≤ w'.heap.size)
    (ht : ∀ F, A.P w F → (∀ k, F k → k < w.heap.size) → (∀ k, k < w.heap.size → ¬ F k → w'.heap[k]? = w.heap[k]?) ∧ ∃ G, SepL w' M G ∧ ∀ k, G k → (F k ∨ w.heap.size ≤ k) ∧ k < w'.heap.size) : Sep w0 w' (M ++ L) := by
  obtain ⟨F, ⟨F1, F2, hF, hd, hA, hL⟩, hr⟩ := h.own
  obtain ⟨hk, G, hM, hG⟩ := ht F1 hA (fun k hk => (hr k ((hF k).2 (.inl hk))).2)
  refine ⟨⟨hos.trans h.below.os, htape.trans h.below.tape, hout.trans h.below.output, Nat.le_trans h.below.size hsz, fun k hlt => ?_⟩, fun k => G k ∨ F2 k, SepL.append hM (hL.move fun k h2 => hk k (hr k ((hF k).2 (.inr h2))).2 (fun h1 => hd k h1 h2)) (fun k hg h2 => ?_), fun k hkk => ?_⟩
  · have hlt' : k < w.heap.size := Nat.lt_of_lt_of_le hlt h.below.size
    rw [hk k hlt' (fun h1 => by have := hr k ((hF k).2 (.inl h1)); omega)]
    exact h.below.block k hlt
  · rcases (hG k hg).1 with h1 | h1
    · exact hd k h1 h2
    · have := hr k ((hF k).2 (.inr h2)); omega
  · rcases hkk with hg | h2
    · refine ⟨?_, (hG k hg).2⟩
      rcases (hG k hg).1 with h1 | h1
      · exact (hr k ((hF k).2 (.inl h1))).1
      · exact Nat.le_trans h.below.size h1
    · have := hr k ((hF k).2 (.inr h2)); omega
theorem Sep.setRow {g : Nat} {cs : List Value} {t : TypeId} (h : Sep w0 w (blk g cs t :: L)) (cs' : List Value) : Sep w0 (w.setRow g cs'.toArray) (blk g cs' t :: L) := by
  refine Sep.turn (M := [blk g cs' t]) h rfl rfl rfl (by simp) fun F hA hF => ⟨fun k _ hk => setRow_other w g k _ (fun e => hk ((hA.2 k).2 e)), fun k => k = g, ⟨fun k => k = g, fun _ => False, fun k => by simp, fun _ _ h => h, ⟨setRow_heap w g _ _ t _ hA.1, fun k => Iff.rfl⟩, fun _ h => h⟩, fun k hk => ?_⟩
  subst hk
  have h1 := (hA.2 k).2 rfl
  exact ⟨.inl h1, by have := hF k h1; simpa using this⟩
/-- A row is grown (the kit's append). -/
theorem Sep.grow {w' : World} {e : TypeId} {sz n n' : Nat} {v v' : Value} {xs xs' : List Value} (h : Sep w0 w (row e sz v n xs :: L)) (hown : oRow w' 0 e sz v' n' xs') (hg : w.grownBy w' v.ownBlock)
    (hat : v'.ownBlock = none ∨ v'.ownBlock = v.ownBlock ∨ ∃ b, v'.ownBlock = some b ∧ w.heap.size ≤ b) : Sep w0 w' (row e sz v' n' xs' :: L) := by
  refine Sep.turn (M := [row e sz v' n' xs']) h hg.os hg.tape hg.output hg.size fun F hA hF => ⟨fun k hk hn => hg.block k hk (fun e => hn ((hA.2 k).2 e.symm)), fun k => v'.ownBlock = some k, ⟨_, fun _ => False, fun k => by simp, fun _ _ h => h, ⟨hown, fun k => Iff.rfl⟩, fun _ h => h⟩, fun k hk => ⟨?_, (hown.lt k hk).2⟩⟩
  rcases hat with ha | ha | ⟨b, hb, hle⟩
  · rw [ha] at hk; cases hk
  · exact .inl ((hA.2 k).2 (ha.symm.trans hk))
  · rw [hb] at hk; cases hk; exact .inr hle
/-- A literal's block, as a row. -/
theorem Sep.to_row {g n sz : Nat} {cs : List Value} {e : TypeId} (h : Sep w0 w (blk g cs e :: L)) (hn : n ≤ maxLen) (hs : cs.length = n * sz) : Sep w0 w (row e sz (.slice (some ⟨g, 0, none⟩) n n) n cs :: L) := by
  obtain ⟨F, ⟨F1, F2, hF, hd, hA, hL⟩, hr⟩ := h.own
  refine ⟨h.below, F, ⟨F1, F2, hF, hd, ⟨⟨hs, .inr ⟨g, n, cs.toArray, rfl, Nat.zero_le _, hA.1, Nat.le_refl _, hn, by simp [hs], by simp [← hs]⟩⟩, fun k => ?_⟩, hL⟩, hr⟩
  rw [hA.2]; simp [Value.ownBlock, eq_comm]
theorem Sep.nil_row {e : TypeId} {sz : Nat} (h : Sep w0 w L) : Sep w0 w (row e sz (.slice none 0 0) 0 [] :: L) := by
  obtain ⟨F, hL, hr⟩ := h.own
  exact ⟨h.below, F, ⟨fun _ => False, F, fun k => by simp, fun _ h => h.elim, ⟨oRow_nil _ _ _ _, fun k => by simp [Value.ownBlock]⟩, hL⟩, hr⟩
/-- What was there at the start reads as it did. -/
theorem Sep.cell {a : Addr} {v : Value} (h : Sep w0 w L) (hc : w0.cell? a = some v) : w.cell? a = some v := (h.below.cell (World.block_lt_of_cell? w0 a hc)).trans hc
end
end Go.Sx
/- DERIVED. The walk of this seat: the frame's temporaries as a list, the heap as resources; one law an operation. No condition. -/
namespace Go.Sx
open Go.RowKit
set_option linter.unusedVariables false
set_option linter.unusedSimpArgs false

def find : List (Nat × Value) → Nat → Option Value
  | [], _ => none
  | (k, v) :: r, t => bif Nat.beq k t then some v else find r t
/-- What is known of a frame: how many temporaries, nothing deferred, these values. -/
structure Env (a : Act) (n : Nat) (env : List (Nat × Value)) : Prop where
  size : a.tmps.size = n
  defers : a.defers = []
  at_ : ∀ t v, find env t = some v → a.tmps.getD t undef = v
def opv (env : List (Nat × Value)) : Operand → Option Value
  | .tmp t => find env t
  | .const v => some v
  | .func f => some (.func (.func f) #[] #[])
  | .global g => some (.pointer (some ⟨g, 0, none⟩))
theorem Env.eval {a : Act} {n : Nat} {env : List (Nat × Value)} (h : Env a n env) {x : Operand} {v : Value} (hx : opv env x = some v) : a.eval x = v := by
  cases x with
  | tmp t => exact h.at_ t v hx
  | const u => exact Option.some.inj hx
  | func f => exact Option.some.inj hx
  | global g => exact Option.some.inj hx
def putE (env : List (Nat × Value)) (d : Option Tmp) (v : Value) : List (Nat × Value) :=
  match d with
  | some d => (d, v) :: env
  | none => env
def inF (d : Option Tmp) (n : Nat) : Bool :=
  match d with
  | some d => Nat.blt d n
  | none => true
theorem Env.put {a : Act} {n : Nat} {env : List (Nat × Value)} (h : Env a n env) {d : Option Tmp} (v : Value) (hd : inF d n = true) : Env (a.put d v) n (putE env d v) := by
  cases d with
  | none => exact h
  | some d =>
    have hlt : d < n := by simpa [inF, Nat.blt_eq] using hd
    refine ⟨by simpa [Act.put] using h.size, h.defers, fun t u hu => ?_⟩
    simp only [putE, find] at hu
    by_cases e : d = t
    · subst e
      simp at hu
      subst hu
      simp [Act.put, h.size, hlt]
    · have hne : Nat.beq d t = false := by
        cases hb : Nat.beq d t with
        | false => rfl
        | true => exact absurd (Nat.eq_of_beq_eq_true hb) e
      rw [hne] at hu
      have := h.at_ t u hu
      simpa [Act.put, Array.getElem?_setIfInBounds_ne e] using this
/-- Less is known. -/
theorem Env.less {a : Act} {n : Nat} {env env' : List (Nat × Value)} (h : Env a n env) (hs : ∀ p ∈ env', find env p.1 = some p.2) : Env a n env' := by
  refine ⟨h.size, h.defers, fun t v hv => ?_⟩
  have : ∀ (l : List (Nat × Value)), (∀ p ∈ l, find env p.1 = some p.2) → find l t = some v → a.tmps.getD t undef = v := by
    intro l
    induction l with
    | nil => intro _ h; simp [find] at h
    | cons p l ih =>
      intro hl hf
      obtain ⟨k, u⟩ := p
      simp only [find] at hf
      by_cases e : Nat.beq k t = true
      · rw [e] at hf
        simp at hf
        subst hf
        have := hl (k, u) (by simp)
        have e' := Nat.eq_of_beq_eq_true e
        subst e'
        exact h.at_ k u this
      · rw [Bool.not_eq_true] at e
        rw [e] at hf
        exact ih (fun p hp => hl p (by simp [hp])) hf
  exact this env' hs hv
def sub (env : List (Nat × Value)) : List (Nat × Value) → Prop
  | [] => True
  | (k, v) :: r => find env k = some v ∧ sub env r
theorem Env.cut {a : Act} {n : Nat} {env env' : List (Nat × Value)} (h : Env a n env) (hs : sub env env') : Env a n env' := by
  refine h.less ?_
  induction env' with
  | nil => intro p hp; cases hp
  | cons q r ih =>
    intro p hp
    obtain ⟨h1, h2⟩ := hs
    rcases List.mem_cons.1 hp with rfl | hp
    · exact h1
    · exact ih h2 p hp
/-- A temporary's value, known better. -/
theorem Env.know {a : Act} {n : Nat} {env : List (Nat × Value)} (h : Env a n env) {t : Nat} {u v : Value} (hf : find env t = some u) (e : u = v) : Env a n ((t, v) :: env) := by
  subst e
  refine ⟨h.size, h.defers, fun s x hx => ?_⟩
  simp only [find] at hx
  by_cases e : Nat.beq t s = true
  · rw [e] at hx
    simp at hx
    subst hx
    have e' := Nat.eq_of_beq_eq_true e
    subst e'
    exact h.at_ _ _ hf
  · rw [Bool.not_eq_true] at e
    rw [e] at hx
    exact h.at_ s x hx

theorem Env.putS {a : Act} {n : Nat} {env : List (Nat × Value)} (h : Env a n env) {o : Oper} {d : Tmp} (v : Value) (hd : o.dst = some d) (hlt : Nat.blt d n = true) : Env (a.put o.dst v) n ((d, v) :: env) := by
  rw [hd]
  exact h.put v hlt
/-! ### lists of operations -/
section
variable {P : Program} {ops : Array Oper} {rest : List Oper} {o : Oper} {a : Act} {w w0 : World} {Q : Exit → Act → World → Prop} {n : Nat} {env : List (Nat × Value)} {L : List Asn} {K : Act → World → Prop}

def guardIs (ops : Array Oper) (env : List (Nat × Value)) (o : Oper) : Option Bool :=   -- is it wanted? (none: not known)
  match o.guard with
  | none => some true
  | some (j, want) => match ((ops[j]?).bind (·.dst)).bind (find env) with
    | some (.bool b) => some (b == want)
    | some (.tuple _) => some false
    | _ => none
theorem Env.guard (h : Env a n env) {b : Bool} (hg : guardIs ops env o = some b) : Region.wanted o (yielded ops a.tmps) = b := by
  unfold guardIs at hg
  unfold Region.wanted
  cases ho : o.guard with
  | none => rw [ho] at hg; simpa using hg
  | some p =>
    obtain ⟨j, want⟩ := p
    rw [ho] at hg
    simp only at hg ⊢
    cases hd : (ops[j]?).bind (·.dst) with
    | none => rw [hd] at hg; simp at hg
    | some d =>
      rw [hd] at hg
      simp only [Option.bind_some] at hg
      cases hf : find env d with
      | none => rw [hf] at hg; simp at hg
      | some v =>
        rw [hf] at hg
        have hv := h.at_ d v hf
        cases v <;> simp at hg
        case tuple q =>
          subst hg
          simp only [yielded, hd, Option.bind_some]
          by_cases hlt : d < a.tmps.size
          · have hq : a.tmps[d]? = some (.tuple q) := by
              rw [Array.getElem?_eq_getElem hlt]
              simpa [Array.getD, hlt] using hv
            rw [hq]
            rfl
          · rw [Array.getElem?_eq_none (Nat.le_of_not_lt hlt)]
            rfl
        rename_i c
        subst hg
        have hlt : d < a.tmps.size := by
          rcases Nat.lt_or_ge d a.tmps.size with h1 | h1
          · exact h1
          · simp [Array.getD, Nat.not_lt.2 h1, undef] at hv
        have hq : a.tmps[d]? = some (.bool c) := by
          rw [Array.getElem?_eq_getElem hlt]
          simpa [Array.getD, hlt] using hv
        simp only [yielded, hd, Option.bind_some, hq]
        cases c <;> cases want <;> rfl
/-- An operation of a list. -/
theorem wl (hE : Env a n env) (hg : guardIs ops env o = some true) (h : o.wp P a w (wpList P ops Q rest) Q) : wpList P ops Q (o :: rest) a w :=
  wpList_step fun K hK => by rw [if_pos (hE.guard hg)]; exact Oper.wp_mono hK h
theorem wl_skip (hE : Env a n env) (hg : guardIs ops env o = some false) {d : Tmp} (hd : o.dst = some d) (hlt : Nat.blt d n = true) (k : ∀ a', Env a' n ((d, undef) :: env) → wpList P ops Q rest a' w) : wpList P ops Q (o :: rest) a w :=
  wpList_step fun K hK => by rw [if_neg (by rw [hE.guard hg]; simp)]; exact hK _ _ (k _ (hE.putS _ hd hlt))
/-- A test's value is not known: both ways. -/
theorem wl_split {l : List Oper} (hE : Env a n env) (t : Nat) {b : Bool} (hf : find env t = some (.bool b))
    (ht : b = true → Env a n ((t, .bool true) :: env) → wpList P ops Q l a w) (hn : b = false → Env a n ((t, .bool false) :: env) → wpList P ops Q l a w) : wpList P ops Q l a w := by
  cases b with
  | true => exact ht rfl (hE.know hf rfl)
  | false => exact hn rfl (hE.know hf rfl)
/-- .. of the test that an operation waits for. -/
theorem wl_splitg {rest : List Oper} (hE : Env a n env) {t : Nat} (hg : (o.guard.bind fun p => (ops[p.1]?).bind (·.dst)) = some t) {b : Bool} (hf : find env t = some (.bool b))
    (ht : b = true → Env a n ((t, .bool true) :: env) → wpList P ops Q (o :: rest) a w) (hn : b = false → Env a n ((t, .bool false) :: env) → wpList P ops Q (o :: rest) a w) : wpList P ops Q (o :: rest) a w :=
  wl_split hE t hf ht hn
theorem o_val {v : Value} (hE : Env a n env) (hr : (execOp a.eval o).run P w = .ok (.value v) w) {d : Tmp} (hd : o.dst = some d) (hlt : Nat.blt d n = true) (k : ∀ a', Env a' n ((d, v) :: env) → K a' w) : o.wp P a w K Q := by
  unfold Oper.wp
  rw [hr]
  exact k _ (hE.putS v hd hlt)
theorem o_move {x : Operand} {v : Value} (hE : Env a n env) (ho : o.op = .move x) (hx : opv env x = some v) {d : Tmp} (hd : o.dst = some d) (hlt : Nat.blt d n = true) (k : ∀ a', Env a' n ((d, v) :: env) → K a' w) : o.wp P a w K Q :=
  o_val hE (by simp [execOp, ho, hE.eval hx]) hd hlt k
theorem o_assign {x : Operand} {v : Value} (hE : Env a n env) (ho : o.op = .assign x) (hx : opv env x = some v) {d : Tmp} (hd : o.dst = some d) (hlt : Nat.blt d n = true) (k : ∀ a', Env a' n ((d, v) :: env) → K a' w) : o.wp P a w K Q :=
  o_val hE (by simp [execOp, ho, hE.eval hx]) hd hlt k
theorem o_pick_t {c x y : Operand} {v : Value} (hE : Env a n env) (ho : o.op = .pick c x y) (hc : opv env c = some (.bool true)) (hx : opv env x = some v) {d : Tmp} (hd : o.dst = some d) (hlt : Nat.blt d n = true) (k : ∀ a', Env a' n ((d, v) :: env) → K a' w) : o.wp P a w K Q :=
  o_val hE (by simp [execOp, ho, hE.eval hx, hE.eval hc, asBool]) hd hlt k
theorem o_pick_f {c x y : Operand} {v : Value} (hE : Env a n env) (ho : o.op = .pick c x y) (hc : opv env c = some (.bool false)) (hx : opv env y = some v) {d : Tmp} (hd : o.dst = some d) (hlt : Nat.blt d n = true) (k : ∀ a', Env a' n ((d, v) :: env) → K a' w) : o.wp P a w K Q :=
  o_val hE (by simp [execOp, ho, hE.eval hx, hE.eval hc, asBool]) hd hlt k
theorem o_extract {t : Operand} {i : Nat} {vs : Array Value} {v : Value} (hE : Env a n env) (ho : o.op = .extract t i) (hx : opv env t = some (.tuple vs)) (hv : vs[i]? = some v) {d : Tmp} (hd : o.dst = some d) (hlt : Nat.blt d n = true) (k : ∀ a', Env a' n ((d, v) :: env) → K a' w) : o.wp P a w K Q :=
  o_val hE (by simp [execOp, ho, hE.eval hx, Instr.extract, hv]) hd hlt k
theorem o_nilCheck {x : Operand} {p : Addr} (hE : Env a n env) (ho : o.op = .nilCheck x) (hx : opv env x = some (.pointer (some p))) {d : Tmp} (hd : o.dst = some d) (hlt : Nat.blt d n = true) (k : ∀ a', Env a' n ((d, (.pointer (some p))) :: env) → K a' w) : o.wp P a w K Q :=
  o_val hE (by simp [execOp, ho, hE.eval hx]) hd hlt k
theorem o_makeFunc {f : Fn} {A B : Array Operand} {va vb : Array Value} (hE : Env a n env) (ho : o.op = .makeFunc f A B) (ha : A.map a.eval = va) (hb : B.map a.eval = vb) (hr : (Instr.makeFunc f va vb).run P w = .ok (.func f va vb) w) {d : Tmp} (hd : o.dst = some d) (hlt : Nat.blt d n = true) (k : ∀ a', Env a' n ((d, (.func f va vb)) :: env) → K a' w) : o.wp P a w K Q :=
  o_val hE (by simp [execOp, ho, ha, hb, hr]) hd hlt k

/-! arithmetic and tests -/
/-- What an operation of two operands yields, whatever the world. -/
def Bin (P : Program) (op : BinOp) (t : TypeId) (x y : Operand) (u v r : Value) : Prop := ∀ w, (do eqGuard op t x y u v; binOp op t u v : Sem Value).run P w = .ok r w
theorem o_bin {op : BinOp} {t t' : TypeId} {x y : Operand} {u v r : Value} (hE : Env a n env) (ho : o.op = .binOp op t x y t') (hx : opv env x = some u) (hy : opv env y = some v) (hb : Bin P op t x y u v r) {d : Tmp} (hd : o.dst = some d) (hlt : Nat.blt d n = true) (k : ∀ a', Env a' n ((d, r) :: env) → K a' w) : o.wp P a w K Q :=
  o_val hE (by
    have h := hb w
    simp only [execOp, ho, hE.eval hx, hE.eval hy]
    rw [Sem.run_bind, h]; rfl) hd hlt k
variable {t : TypeId} {x y : Operand} {kd : IntKind} {i j : Int}
theorem bin_add : Bin P .add t x y (.int kd i) (.int kd j) (.int kd (kd.wrap (i + j))) := fun w => by simp [eqGuard, binOp, Op.intArith]
theorem bin_sub : Bin P .sub t x y (.int kd i) (.int kd j) (.int kd (kd.wrap (i - j))) := fun w => by simp [eqGuard, binOp, Op.intArith]
theorem wrap_in {i : Int} (h0 : -9223372036854775808 ≤ i) (h1 : i ≤ 9223372036854775807) : IntKind.i64.wrap i = i := by
  have := IntWalk.i64_in i (by omega)
  exact this
theorem bin_add_in (h0 : -9223372036854775808 ≤ i + j) (h1 : i + j ≤ 9223372036854775807) : Bin P .add t x y (.int .i64 i) (.int .i64 j) (.int .i64 (i + j)) := fun w => by rw [bin_add w, wrap_in h0 h1]
theorem bin_sub_in (h0 : -9223372036854775808 ≤ i - j) (h1 : i - j ≤ 9223372036854775807) : Bin P .sub t x y (.int .i64 i) (.int .i64 j) (.int .i64 (i - j)) := fun w => by rw [bin_sub w, wrap_in h0 h1]
theorem bin_lss : Bin P .lss t x y (.int kd i) (.int kd j) (.bool (decide (i < j))) := fun w => by simp [eqGuard, binOp, Op.intCmp]
theorem bin_leq : Bin P .leq t x y (.int kd i) (.int kd j) (.bool (decide (i ≤ j))) := fun w => by simp [eqGuard, binOp, Op.intCmp]
theorem bin_gtr : Bin P .gtr t x y (.int kd i) (.int kd j) (.bool (decide (j < i))) := fun w => by simp [eqGuard, binOp, Op.intCmp]
theorem bin_geq : Bin P .geq t x y (.int kd i) (.int kd j) (.bool (decide (j ≤ i))) := fun w => by simp [eqGuard, binOp, Op.intCmp]
theorem bin_eql : Bin P .eql t x y (.int kd i) (.int kd j) (.bool (decide (i = j))) := fun w => by simp [eqGuard, binOp, Op.intCmp]; rfl
class BoolTy (P : Program) (t : TypeId) : Prop where
  h : P.underlying t = some .bool
theorem bin_neq : Bin P .neq t x y (.int kd i) (.int kd j) (.bool (!decide (i = j))) := fun w => by simp [eqGuard, binOp, Op.intCmp]; rfl

/-! memory -/
class TyInfo (P : Program) (t : TypeId) (agg : outParam Bool) (m : outParam Nat) : Prop where
  h1 : (P.underlying t).map (fun d => match d with | .struct _ | .array _ _ => true | _ => false) = some agg
  h2 : (P.info? t).map (·.size) = some m
class ZeroTy (P : Program) (t : TypeId) (cs : outParam (List Value)) : Prop where
  h : (P.info? t).map (fun i => i.zero.map (fun z => z.cells.toList)) = some (some cs)
class FieldTy (P : Program) (t : TypeId) (f : Nat) (off : outParam Nat) : Prop where
  h : ∃ fs, P.underlying t = some (.struct fs) ∧ ∃ fd, fs[f]? = some fd ∧ fd.offset = off ∧ ∃ i, P.info? fd.type = some i ∧ i.size ≠ 0
class SliceTy (P : Program) (t : TypeId) (e : outParam TypeId) (sz : outParam Nat) : Prop where
  h1 : P.underlying t = some (.slice e)
  h2 : (P.info? e).map (·.size) = some sz
  h3 : sz ≠ 0
theorem info_of {P : Program} {t : TypeId} {m : Nat} (h : (P.info? t).map (·.size) = some m) : ∃ i, P.info? t = some i ∧ i.size = m := by
  cases hi : P.info? t with
  | none => rw [hi] at h; simp at h
  | some i => rw [hi] at h; exact ⟨i, rfl, by simpa using h⟩
theorem run_loadVar_at {ty m : Nat} {b : Bool} [T : TyInfo P ty b m] {ad : Addr} {vs : List Value} (hl : vs.length = m) (h : ∀ j v, vs[j]? = some v → w.cell? (ad.add j) = some v) (hb : b = false → m = 1) :
    (loadVar ty ad).run P w = .ok (if b then .agg vs.toArray else vs.getD 0 undef) w := by
  obtain ⟨i, hi, hs⟩ := info_of T.h2
  have h1 := T.h1
  cases hu : P.underlying ty with
  | none => rw [hu] at h1; simp at h1
  | some d =>
    rw [hu] at h1
    have hla : (isAgg ty).run P w = .ok b w := by
      unfold isAgg
      rw [Sem.run_bind, run_underlying hu]
      cases d <;> simp at h1 <;> subst h1 <;> rfl
    unfold loadVar
    rw [Sem.run_bind, hla]
    cases b with
    | true =>
      have hz : (sizeOf ty).run P w = .ok vs.length w := by simp [sizeOf, typeInfo, hi, hs, hl]
      simp only [Result.andThen_ok, if_true]
      rw [Sem.run_bind, hz]
      simp only [Result.andThen_ok]
      rw [Sem.run_bind, run_loadCells_list w ad vs h]
      rfl
    | false =>
      have hm := hb rfl
      obtain ⟨v, hv⟩ : ∃ v, vs[0]? = some v := ⟨_, List.getElem?_eq_getElem (by omega)⟩
      have hc := h 0 v hv
      have e : ad.add 0 = ad := rfl
      rw [e] at hc
      simp only [Result.andThen_ok, Bool.false_eq_true, if_false]
      simp [load, Sem.run, hc, hv]
/-- What lies at an address. -/
def At (w : World) (ad : Addr) (vs : List Value) : Prop := ∀ j v, vs[j]? = some v → w.cell? (ad.add j) = some v
theorem At.move {ad : Addr} {vs : List Value} (h : At w0 ad vs) (hS : Sep w0 w L) : At w ad vs := fun j v hv => hS.cell (h j v hv)
theorem at_blk {g off : Nat} {cs : List Value} {t : TypeId} (h : w.heap[g]? = some (.cells cs.toArray t (0, 0))) : At w ⟨g, off, none⟩ (cs.drop off) := fun j v hv => by
  rw [Addr.add_lit, cell_of_row w g _ _ _ _ h]
  simpa [List.getElem?_drop] using hv
theorem At.take {ad : Addr} {vs : List Value} (h : At w ad vs) (m : Nat) : At w ad (vs.take m) := fun j v hv => h j v (by
  rw [List.getElem?_take] at hv
  split at hv
  · exact hv
  · cases hv)
theorem At.drop {ad : Addr} {vs : List Value} (h : At w ad vs) (k : Nat) : At w (ad.add k) (vs.drop k) := fun j v hv => by
  rw [Addr.add_add]
  exact h _ _ (by simpa [List.getElem?_drop] using hv)
theorem run_loadAt {ty m : Nat} {b : Bool} [T : TyInfo P ty b m] {ad : Addr} {vs us : List Value} (h : At w ad vs) (hl : vs.take m = us) (hm : us.length = m) (hb : b = false → m = 1) :
    (Instr.loadAt ty (.pointer (some ad))).run P w = .ok (if b then .agg us.toArray else us.getD 0 undef) w := by
  subst hl
  simp only [Instr.loadAt, Instr.sureAddr, Sem.run_bind, Sem.run_pure, Result.andThen_ok]
  exact run_loadVar_at hm (h.take m) hb
/-- A load of one cell, of a block of one's own. -/
theorem o_load {ty : TypeId} {x : Operand} {g off : Nat} {cs : List Value} {t : TypeId} {L' : List Asn} {v : Value} [T : TyInfo P ty false 1] (hE : Env a n env) (hS : Sep w0 w L) (ho : o.op = .load ty x) (hx : opv env x = some (.pointer (some ⟨g, off, none⟩)))
    (hp : Pull (blk g cs t) L L') (hv : cs[off]? = some v) {d : Tmp} (hd : o.dst = some d) (hlt : Nat.blt d n = true) (k : ∀ a', Env a' n ((d, v) :: env) → K a' w) : o.wp P a w K Q :=
  o_val hE (by
    have hlt : off < cs.length := (List.getElem?_eq_some_iff.1 hv).1
    have e : cs.drop off = v :: cs.drop (off + 1) := by rw [← (List.getElem?_eq_some_iff.1 hv).2]; exact List.drop_eq_getElem_cons hlt
    have h := run_loadAt (P := P) (ty := ty) (us := [v]) (at_blk (off := off) (hS.blk_at hp)) (by rw [e]; rfl) rfl (fun _ => rfl)
    simp only [execOp, ho, hE.eval hx]
    rw [Sem.run_bind, h]; rfl) hd hlt k
/-- A load of a struct. -/
theorem o_loadA {ty m : TypeId} {x : Operand} {g off : Nat} {cs us : List Value} {t : TypeId} {L' : List Asn} [T : TyInfo P ty true m] (hE : Env a n env) (hS : Sep w0 w L) (ho : o.op = .load ty x) (hx : opv env x = some (.pointer (some ⟨g, off, none⟩)))
    (hp : Pull (blk g cs t) L L') (hv : (cs.drop off).take m = us) (hm : us.length = m) {d : Tmp} (hd : o.dst = some d) (hlt : Nat.blt d n = true) (k : ∀ a', Env a' n ((d, (.agg us.toArray)) :: env) → K a' w) : o.wp P a w K Q :=
  o_val hE (by
    have h := run_loadAt (P := P) (ty := ty) (at_blk (off := off) (hS.blk_at hp)) hv hm (fun h => by cases h)
    simp only [execOp, ho, hE.eval hx]
    rw [Sem.run_bind, h]; rfl) hd hlt k
/-- A load of what was there. -/
theorem o_load0 {ty : TypeId} {x : Operand} {ad : Addr} {v : Value} {vs : List Value} [T : TyInfo P ty false 1] (hE : Env a n env) (hS : Sep w0 w L) (ho : o.op = .load ty x) (hx : opv env x = some (.pointer (some ad)))
    (hA : At w0 ad (v :: vs)) {d : Tmp} (hd : o.dst = some d) (hlt : Nat.blt d n = true) (k : ∀ a', Env a' n ((d, v) :: env) → K a' w) : o.wp P a w K Q :=
  o_val hE (by
    have h := run_loadAt (P := P) (ty := ty) (us := [v]) (hA.move hS) rfl rfl (fun _ => rfl)
    simp only [execOp, ho, hE.eval hx]
    rw [Sem.run_bind, h]; rfl) hd hlt k
theorem o_loadA0 {ty m : TypeId} {x : Operand} {ad : Addr} {vs us : List Value} [T : TyInfo P ty true m] (hE : Env a n env) (hS : Sep w0 w L) (ho : o.op = .load ty x) (hx : opv env x = some (.pointer (some ad)))
    (hA : At w0 ad vs) (hv : vs.take m = us) (hm : us.length = m) {d : Tmp} (hd : o.dst = some d) (hlt : Nat.blt d n = true) (k : ∀ a', Env a' n ((d, (.agg us.toArray)) :: env) → K a' w) : o.wp P a w K Q :=
  o_val hE (by
    have h := run_loadAt (P := P) (ty := ty) (hA.move hS) hv hm (fun h => by cases h)
    simp only [execOp, ho, hE.eval hx]
    rw [Sem.run_bind, h]; rfl) hd hlt k
/-- A store, into a block of one's own. -/
theorem o_store {ty m : TypeId} {b : Bool} {x y : Operand} {g off : Nat} {cs cs' : List Value} {t : TypeId} {L' : List Asn} {v : Value} [T : TyInfo P ty b m] (hE : Env a n env) (hS : Sep w0 w L) (ho : o.op = .store ty x y) (hx : opv env x = some (.pointer (some ⟨g, off, none⟩))) (hy : opv env y = some v)
    (hp : Pull (blk g cs t) L L') (hm : v.cells.toList.length = m) (h1' : v.cells.toList.all Value.oneCell' = true) (hf' : Nat.ble (off + v.cells.toList.length) cs.length = true) (hc : cs.take off ++ v.cells.toList ++ cs.drop (off + v.cells.toList.length) = cs') (hd : o.dst = none)
    (k : ∀ w', Sep w0 w' (blk g cs' t :: L') → K a w') : o.wp P a w K Q := by
  have h1 : ∀ u ∈ v.cells.toList, u.oneCell' = true := fun u hu => List.all_eq_true.1 h1' u hu
  have hf := Nat.le_of_ble_eq_true hf'
  obtain ⟨i, hi, hs⟩ := info_of T.h2
  have hz : (sizeOf ty).run P w = .ok v.cells.size w := by simp [sizeOf, typeInfo, hi, hs, ← hm]
  have hst := run_storeCells_at P g off t v.cells.toList 0 cs.toArray w (hS.blk_at hp) (by simpa using hf) h1
  subst hc
  have hS' := (hS.pull hp).setRow (cs.take off ++ v.cells.toList ++ cs.drop (off + v.cells.toList.length))
  have hr : (execOp a.eval o).run P w = .ok .skip (w.setRow g (cs.take off ++ v.cells.toList ++ cs.drop (off + v.cells.toList.length)).toArray) := by
    simp only [execOp, ho, hE.eval hx, hE.eval hy, Instr.storeAt, Instr.sureAddr, storeVar]
    simp only [Sem.run_bind, Sem.run_pure, Result.andThen_ok, hz, ne_eq, not_true_eq_false, if_false]
    rw [hst]
    simp
  unfold Oper.wp
  rw [hr]
  show K (a.put o.dst undef) _
  rw [hd]
  exact k _ hS'
/-- A value's cells, as a list. -/
def cellsL (v : Value) : List Value := v.cells.toList
theorem cellsL_agg (us : List Value) : cellsL (.agg us.toArray) = us := rfl
theorem cellsL_int (k : IntKind) (i : Int) : cellsL (.int k i) = [.int k i] := rfl
theorem cellsL_bool (b : Bool) : cellsL (.bool b) = [.bool b] := rfl
theorem cellsL_string (s : ByteArray) : cellsL (.string s) = [.string s] := rfl
theorem cellsL_slice (A : Option Addr) (n c : Nat) : cellsL (.slice A n c) = [.slice A n c] := rfl
theorem cellsL_pointer (p : Option Addr) : cellsL (.pointer p) = [.pointer p] := rfl
theorem cellsL_map (p : Option Nat) : cellsL (.map p) = [.map p] := rfl
theorem cellsL_func (f : Fn) (A B : Array Value) : cellsL (.func f A B) = [.func f A B] := rfl
theorem cellsL_nilFunc : cellsL .nilFunc = [.nilFunc] := rfl
theorem cellsL_nilIface : cellsL .nilIface = [.nilIface] := rfl
theorem cellsL_iface (t : TypeId) (v : Value) : cellsL (.iface t v) = [.iface t v] := rfl
def putL (zs : List Value) (off : Nat) (us : List Value) : List Value := zs.take off ++ us ++ zs.drop (off + us.length)
theorem putL_length {zs : List Value} {off : Nat} {us : List Value} (h : off + us.length ≤ zs.length) : (putL zs off us).length = zs.length := by
  simp [putL]; omega
theorem foldl_put (off : Nat) : ∀ (us : List Value) (j : Nat) (cs : List Value), off + j + us.length ≤ cs.length →
    ((us.zipIdx j).foldl (fun (cs : Array Value) (x : Value × Nat) => cs.setIfInBounds (off + x.2) x.1) cs.toArray) = (putL cs (off + j) us).toArray
  | [], j, cs, _ => by simp [putL]
  | u :: r, j, cs, h => by
    simp only [List.length_cons] at h
    rw [List.zipIdx_cons, List.foldl_cons]
    simp only [List.setIfInBounds_toArray]
    rw [foldl_put off r (j + 1) (cs.set (off + j) u) (by simp; omega)]
    have e : (cs.set (off + j) u).take (off + (j + 1)) = cs.take (off + j) ++ [u] := by
      have hlt : off + j < (cs.set (off + j) u).length := by simp; omega
      rw [show off + (j + 1) = off + j + 1 by omega, List.take_succ_eq_append_getElem hlt]
      simp [List.take_set_of_le]
    have e2 : (cs.set (off + j) u).drop (off + (j + 1) + r.length) = cs.drop (off + j + (r.length + 1)) := by
      rw [show off + (j + 1) + r.length = off + j + (r.length + 1) by omega]
      rw [List.drop_set_of_lt (by omega)]
    simp only [putL, e, e2, List.length_cons, List.append_assoc, List.cons_append, List.nil_append]
/-- Parts put at their places. -/
def bld (pl : List (Nat × Nat)) : List Value → List (Nat × Value) → Option (List Value)
  | zs, [] => some zs
  | zs, (i, v) :: r => match pl[i]? with
    | none => none
    | some (off, sz) => bif Nat.beq (cellsL v).length sz && Nat.ble (off + (cellsL v).length) zs.length then bld pl (putL zs off (cellsL v)) r else none
theorem fill_of (f : Nat → Option (Nat × Nat)) (pl : List (Nat × Nat)) (hf : ∀ i x, pl[i]? = some x → f i = some x) : ∀ (ps : List (Nat × Value)) (zs cs : List Value), bld pl zs ps = some cs → Instr.fill f zs.toArray ps = some cs.toArray
  | [], zs, cs, h => by simp [bld] at h; simp [Instr.fill, h]
  | (i, v) :: r, zs, cs, h => by
    simp only [bld] at h
    cases hp : pl[i]? with
    | none => rw [hp] at h; simp at h
    | some x =>
      obtain ⟨off, sz⟩ := x
      rw [hp] at h
      simp only at h
      cases hb : (Nat.beq (cellsL v).length sz && Nat.ble (off + (cellsL v).length) zs.length) with
      | false => rw [hb] at h; simp at h
      | true =>
        rw [hb] at h
        simp only [cond_true] at h
        rw [Bool.and_eq_true] at hb
        have h1 : (cellsL v).length = sz := Nat.eq_of_beq_eq_true hb.1
        have h2 := Nat.le_of_ble_eq_true hb.2
        have hcs : v.cells.size = sz := by rw [← h1]; simp [cellsL]
        simp only [Instr.fill, hf i _ hp]
        rw [if_neg (by simp [hcs]; simpa [cellsL, ← hcs] using h2)]
        have hfold : v.cells.zipIdx.foldl (fun (cs : Array Value) (x : Value × Nat) => cs.setIfInBounds (off + x.2) x.1) zs.toArray = (putL zs off (cellsL v)).toArray := by
          have := foldl_put off (cellsL v) 0 zs (by simpa using h2)
          rw [Nat.add_zero] at this
          rw [← this, ← Array.foldl_toList, Array.toList_zipIdx]
          rfl
        have hfold' : (v.cells.zipIdx.foldl (fun cs x => match x with | (c, j) => cs.setIfInBounds (off + j) c) zs.toArray) = (putL zs off (cellsL v)).toArray := hfold
        rw [hfold']
        exact fill_of f pl hf r _ cs h
theorem o_alloc {ty : TypeId} {cs : List Value} [T : ZeroTy P ty cs] (hE : Env a n env) (hS : Sep w0 w L) (ho : o.op = .alloc ty) {d : Tmp} (hd : o.dst = some d) (hlt : Nat.blt d n = true) (k : ∀ g a' w', Env a' n ((d, (.pointer (some ⟨g, 0, none⟩))) :: env) → Sep w0 w' (blk g cs ty :: L) → K a' w') : o.wp P a w K Q := by
  have hz := T.h
  cases hi : P.info? ty with
  | none => rw [hi] at hz; simp at hz
  | some i =>
    rw [hi] at hz
    simp only [Option.map_some, Option.some.injEq] at hz
    cases hq : i.zero with
    | none => rw [hq] at hz; simp at hz
    | some z =>
      rw [hq] at hz
      simp only [Option.map_some, Option.some.injEq] at hz
      have hr : (execOp a.eval o).run P w = .ok (.value (.pointer (some ⟨w.heap.size, 0, none⟩))) (w.alloc (.cells cs.toArray ty)) := by
        subst hz
        simp [execOp, ho, Instr.alloc, zeroValue, typeInfo, hi, hq, newVar, newRow, newObj, Sem.run]
      unfold Oper.wp
      rw [hr]
      exact k _ _ _ (hE.putS _ hd hlt) hS.alloc
theorem o_box {ty : TypeId} {x : Operand} {v : Value} {cs : List Value} (hE : Env a n env) (hS : Sep w0 w L) (ho : o.op = .box ty x) (hx : opv env x = some v) (hc : v.cells.toList = cs) {d : Tmp} (hd : o.dst = some d) (hlt : Nat.blt d n = true) (k : ∀ g a' w', Env a' n ((d, (.pointer (some ⟨g, 0, none⟩))) :: env) → Sep w0 w' (blk g cs ty :: L) → K a' w') : o.wp P a w K Q := by
  subst hc
  have hr : (execOp a.eval o).run P w = .ok (.value (.pointer (some ⟨w.heap.size, 0, none⟩))) (w.alloc (.cells v.cells.toList.toArray ty)) := by
    simp [execOp, ho, hE.eval hx, Instr.box, newVar, newRow, newObj, Sem.run]
  unfold Oper.wp
  rw [hr]
  exact k _ _ _ (hE.putS _ hd hlt) hS.alloc
theorem o_field {ty : TypeId} {f off : Nat} {x : Operand} {ad : Addr} [T : FieldTy P ty f off] (hE : Env a n env) (ho : o.op = .fieldAddr ty x f) (hx : opv env x = some (.pointer (some ad))) {d : Tmp} (hd : o.dst = some d) (hlt : Nat.blt d n = true) (k : ∀ a', Env a' n ((d, (.pointer (some (ad.add off)))) :: env) → K a' w) : o.wp P a w K Q :=
  o_val hE (by
    obtain ⟨fs, hu, fd, hf, rfl, i, hi, hs⟩ := T.h
    simp [execOp, ho, hE.eval hx, Instr.fieldAt, run_underlying hu, hf, Instr.sureAddr, fieldPlace, sizeOf, typeInfo, hi, hs]) hd hlt k
theorem o_fieldL {ty : TypeId} {f off : Nat} {x : Operand} {g q : Nat} [T : FieldTy P ty f off] (hE : Env a n env) (ho : o.op = .fieldAddr ty x f) (hx : opv env x = some (.pointer (some ⟨g, q, none⟩))) {d : Tmp} (hd : o.dst = some d) (hlt : Nat.blt d n = true) (k : ∀ a', Env a' n ((d, (.pointer (some ⟨g, q + off, none⟩))) :: env) → K a' w) : o.wp P a w K Q :=
  o_field hE ho hx hd hlt (fun a' h => k a' (by rw [Addr.add_lit] at h; exact h))
/-- The address of a slice that has elements. -/
def adr (A : Option Addr) : Addr := A.getD ⟨0, 0, none⟩
theorem o_index {ty e : TypeId} {sz : Nat} {x y : Operand} {A : Option Addr} {len cap : Nat} {i : Int} {kd : IntKind} [T : SliceTy P ty e sz] (hE : Env a n env) (ho : o.op = .indexAddr ty x y) (hx : opv env x = some (.slice A len cap)) (hy : opv env y = some (.int kd i)) (hA : A = some (adr A)) (h0 : 0 ≤ i) (h1 : i < len) {d : Tmp} (hd : o.dst = some d) (hlt : Nat.blt d n = true)
    (k : ∀ a', Env a' n ((d, .pointer (some ((adr A).add (i.toNat * sz)))) :: env) → K a' w) : o.wp P a w K Q :=
  o_val hE (by
    obtain ⟨q, hq, hs⟩ := info_of T.h2
    rw [hA] at hx
    simp [execOp, ho, hE.eval hx, hE.eval hy, Instr.indexAt, asIntOf, run_underlying T.h1, h0, h1, sizeOf, typeInfo, hq, hs]) hd hlt k
theorem o_not {x : Operand} {b : Bool} (hE : Env a n env) (ho : o.op = .unOp .not t x) (hx : opv env x = some (.bool b)) {d : Tmp} (hd : o.dst = some d) (hlt : Nat.blt d n = true) (k : ∀ a', Env a' n ((d, .bool (!b)) :: env) → K a' w) : o.wp P a w K Q :=
  o_val hE (by simp [execOp, ho, hE.eval hx, Op.unary]) hd hlt k
theorem o_len {t : TypeId} {x : Operand} {ad : Option Addr} {len cap : Nat} {e sz : Nat} [T : SliceTy P t e sz] (hE : Env a n env) (ho : o.op = .call { callee := .builtin .len, args := #[x], argTypes := #[t] }) (hx : opv env x = some (.slice ad len cap)) {d : Tmp} (hd : o.dst = some d) (hlt : Nat.blt d n = true)
    (k : ∀ a', Env a' n ((d, (.int .i64 len)) :: env) → K a' w) : o.wp P a w K Q :=
  o_val hE (by simp [execOp, ho, resolve, invoke, builtin, hE.eval hx, Builtin.len_, run_underlying T.h1, goInt]) hd hlt k
class StrTy (P : Program) (t : TypeId) : Prop where
  h : P.underlying t = some .string
theorem o_lenS {t : TypeId} {x : Operand} {s : ByteArray} [T : StrTy P t] (hE : Env a n env) (ho : o.op = .call { callee := .builtin .len, args := #[x], argTypes := #[t] }) (hx : opv env x = some (.string s)) {d : Tmp} (hd : o.dst = some d) (hlt : Nat.blt d n = true)
    (k : ∀ a', Env a' n ((d, (.int .i64 s.size)) :: env) → K a' w) : o.wp P a w K Q :=
  o_val hE (by simp [execOp, ho, resolve, invoke, builtin, hE.eval hx, Builtin.len_, run_underlying T.h, goInt]) hd hlt k
class StructTy (P : Program) (t : TypeId) (pl : outParam (List (Nat × Nat))) : Prop where
  h : ∃ fs, P.underlying t = some (.struct fs) ∧ (fs.toList.map fun f => (f.offset, (P.info? f.type).map (·.size))) = pl.map (fun p => (p.1, some p.2))
theorem run_places : ∀ (fs : List Field) (pl : List (Nat × Nat)), (fs.map fun f => (f.offset, (P.info? f.type).map (·.size))) = pl.map (fun p => (p.1, some p.2)) →
    (fs.mapM fun f => do pure (f.offset, ← sizeOf f.type) : Sem (List (Nat × Nat))).run P w = .ok pl w
  | [], pl, h => by
    cases pl with
    | nil => rfl
    | cons p r => simp at h
  | f :: fs, pl, h => by
    cases pl with
    | nil => simp at h
    | cons p r =>
      simp only [List.map_cons, List.cons.injEq, Prod.mk.injEq] at h
      obtain ⟨⟨h1, h2⟩, h3⟩ := h
      obtain ⟨i, hi, hs⟩ := info_of h2
      rw [List.mapM_cons, Sem.run_bind]
      have : (do pure (f.offset, ← sizeOf f.type) : Sem (Nat × Nat)).run P w = .ok p w := by
        simp [sizeOf, typeInfo, hi, hs, h1]
      rw [this]
      simp only [Result.andThen_ok]
      rw [Sem.run_bind, run_places fs r h3]
      rfl
theorem run_build {ty : TypeId} {zs cs : List Value} {pl : List (Nat × Nat)} [Z : ZeroTy P ty zs] [S : StructTy P ty pl] {ps : Array (Nat × Value)} (h : bld pl zs ps.toList = some cs) : (Instr.build ty ps).run P w = .ok (.agg cs.toArray) w := by
  obtain ⟨fs, hu, hpl⟩ := S.h
  have hz := Z.h
  cases hi : P.info? ty with
  | none => rw [hi] at hz; simp at hz
  | some i =>
    rw [hi] at hz
    simp only [Option.map_some, Option.some.injEq] at hz
    cases hq : i.zero with
    | none => rw [hq] at hz; simp at hz
    | some z =>
      rw [hq] at hz
      simp only [Option.map_some, Option.some.injEq] at hz
      have hzv : (zeroValue ty).run P w = .ok z w := by simp [zeroValue, typeInfo, hi, hq]
      have hp := run_places (P := P) (w := w) fs.toList pl hpl
      have hpa : (fs.mapM fun f => do pure (f.offset, ← sizeOf f.type) : Sem (Array (Nat × Nat))).run P w = .ok pl.toArray w := by
        have e : fs = fs.toList.toArray := by simp
        rw [e, List.mapM_toArray, Sem.run_map]
        rw [hp]
        rfl
      have hf := fill_of (pl.toArray[·]?) pl (fun i x hx => by simpa using hx) ps.toList zs cs h
      have hzc : z.cells = zs.toArray := by rw [← hz]
      unfold Instr.build
      rw [Sem.run_bind, hzv]
      simp only [Result.andThen_ok]
      rw [Sem.run_bind, run_underlying hu]
      simp only [Result.andThen_ok]
      rw [Sem.run_bind, hpa]
      simp only [Result.andThen_ok, hzc, hf]
      rfl
/-- The parts of a build. -/
def partsOf (env : List (Nat × Value)) : List (Nat × Operand) → Option (List (Nat × Value))
  | [] => some []
  | (i, x) :: r => match opv env x, partsOf env r with
    | some v, some vs => some ((i, v) :: vs)
    | _, _ => none
theorem Env.parts (hE : Env a n env) : ∀ {ars : List (Nat × Operand)} {vs : List (Nat × Value)}, partsOf env ars = some vs → ars.map (fun x => (x.1, a.eval x.2)) = vs
  | [], vs, h => by simp [partsOf] at h; simp [h]
  | (i, x) :: r, vs, h => by
    simp only [partsOf] at h
    cases hx : opv env x with
    | none => rw [hx] at h; simp at h
    | some v =>
      cases hr : partsOf env r with
      | none => rw [hx, hr] at h; simp at h
      | some us =>
        rw [hx, hr] at h
        simp only [Option.some.injEq] at h
        subst h
        simp [hE.eval hx, Env.parts hE hr]
theorem o_build {ty : TypeId} {zs cs cs' : List Value} {pl : List (Nat × Nat)} [Z : ZeroTy P ty zs] [S : StructTy P ty pl] {ps : Array (Nat × Operand)} {vs : List (Nat × Value)} (hE : Env a n env) (ho : o.op = .build ty ps) (hp : partsOf env ps.toList = some vs) (hb : bld pl zs vs = some cs) (hn : cs = cs') {d : Tmp} (hd : o.dst = some d) (hlt : Nat.blt d n = true)
    (k : ∀ a', Env a' n ((d, .agg cs'.toArray) :: env) → K a' w) : o.wp P a w K Q :=
  o_val hE (by
    subst hn
    have hm : (ps.map fun (i, x) => (i, a.eval x)) = vs.toArray := by
      have := hE.parts hp
      apply Array.toList_inj.1
      simpa using this
    have hr := run_build (P := P) (w := w) (ty := ty) (ps := vs.toArray) hb
    simp only [execOp, ho, hm]
    rw [Sem.run_bind, hr]; rfl) hd hlt k
/-- A slice's literal: a block of its own. -/
theorem o_buildSlice0 {ty e : TypeId} {sz : Nat} [T : SliceTy P ty e sz] (hE : Env a n env) (hS : Sep w0 w L) (ho : o.op = .buildSlice ty 0 #[]) {d : Tmp} (hd : o.dst = some d) (hlt : Nat.blt d n = true)
    (k : ∀ g a' w', Env a' n ((d, .slice (some ⟨g, 0, none⟩) 0 0) :: env) → Sep w0 w' (row e sz (.slice (some ⟨g, 0, none⟩) 0 0) 0 [] :: L) → K a' w') : o.wp P a w K Q := by
  obtain ⟨i, hi, hs⟩ := info_of T.h2
  have hr : (execOp a.eval o).run P w = .ok (.value (.slice (some ⟨w.heap.size, 0, none⟩) 0 0)) (w.alloc (.cells [].toArray e)) := by
    simp [execOp, ho, Instr.buildSlice, run_underlying T.h1, sizeOf, typeInfo, hi, Instr.fill, newRow, newObj, Sem.run]
    congr 2
    apply Array.toList_inj.1
    simp
  unfold Oper.wp
  rw [hr]
  exact k _ _ _ (hE.putS _ hd hlt) (Sep.to_row (sz := sz) (n := 0) hS.alloc (by simp) (by simp))
theorem o_buildSlice {ty e : TypeId} {sz len : Nat} {zs cs cs' : List Value} [T : SliceTy P ty e sz] [Z : ZeroTy P e zs] {ps : Array (Nat × Operand)} {vs : List (Nat × Value)} (hE : Env a n env) (hS : Sep w0 w L) (ho : o.op = .buildSlice ty len ps) (hp : partsOf env ps.toList = some vs)
    (hlen : Nat.ble (len * sz) 16777216 = true) (hl0 : Nat.ble 1 (len * sz) = true) (hz : Nat.beq zs.length sz = true) (hb : bld ((List.range len).map fun i => (i * sz, sz)) ((List.range (len * sz)).map fun i => zs.getD (i % zs.length) undef) vs = some cs) (hn : cs = cs') (hcl : Nat.beq cs'.length (len * sz) = true) (hlm : Nat.ble len 4294967296 = true) {d : Tmp} (hd : o.dst = some d) (hlt : Nat.blt d n = true)
    (k : ∀ g a' w', Env a' n ((d, .slice (some ⟨g, 0, none⟩) len len) :: env) → Sep w0 w' (row e sz (.slice (some ⟨g, 0, none⟩) len len) len cs' :: L) → K a' w') : o.wp P a w K Q := by
  subst hn
  obtain ⟨i, hi, hs⟩ := info_of T.h2
  have hZ := Z.h
  rw [hi] at hZ
  simp only [Option.map_some, Option.some.injEq] at hZ
  cases hq : i.zero with
  | none => rw [hq] at hZ; simp at hZ
  | some z =>
    rw [hq] at hZ
    simp only [Option.map_some, Option.some.injEq] at hZ
    have hm : (ps.map fun (i, x) => (i, a.eval x)) = vs.toArray := by
      have := hE.parts hp
      apply Array.toList_inj.1
      simpa using this
    have h1 := Nat.le_of_ble_eq_true hlen
    have h2 := Nat.le_of_ble_eq_true hl0
    have h3 := Nat.eq_of_beq_eq_true hz
    have h4 := Nat.eq_of_beq_eq_true hcl
    have h5 := Nat.le_of_ble_eq_true hlm
    have hzc : z.cells = zs.toArray := by rw [← hZ]
    have hzr : ((Array.range (len * sz)).map (fun x => zs.toArray[x % zs.length]!)) = ((List.range (len * sz)).map fun i => zs.getD (i % zs.length) undef).toArray := by
      apply Array.toList_inj.1
      simp only [Array.toList_map, Array.toList_range]
      apply List.map_congr_left
      intro q _
      have hlt' : q % zs.length < zs.length := Nat.mod_lt _ (by have : 0 < sz := Nat.pos_of_ne_zero T.h3; omega)
      simp [hlt']
    have hf := fill_of (fun i => some (i * sz, sz)) ((List.range len).map fun i => (i * sz, sz)) (fun i x hx => by
      rw [List.getElem?_map] at hx
      cases hq : (List.range len)[i]? with
      | none => rw [hq] at hx; simp at hx
      | some q =>
        rw [hq] at hx
        have := (List.getElem?_eq_some_iff.1 hq)
        obtain ⟨hlt', e⟩ := this
        simp at e
        subst e
        simpa using hx) vs _ cs hb
    have hr : (execOp a.eval o).run P w = .ok (.value (.slice (some ⟨w.heap.size, 0, none⟩) len len)) (w.alloc (.cells cs.toArray e)) := by
      simp only [execOp, ho, hm]
      unfold Instr.buildSlice
      simp only [Sem.run_bind, run_underlying T.h1, Result.andThen_ok]
      have hsz : (sizeOf e).run P w = .ok sz w := by simp [sizeOf, typeInfo, hi, hs]
      have hzv : (zeroValue e).run P w = .ok z w := by simp [zeroValue, typeInfo, hi, hq]
      rw [hsz]
      simp only [Result.andThen_ok]
      rw [if_neg (by show ¬ len * sz > 2 ^ 24; omega), if_neg (by omega)]
      simp only [Sem.run_bind, Sem.run_pure, Result.andThen_ok, hzv, hzc, List.size_toArray]
      rw [hzr, hf]
      simp [newRow, newObj, Sem.run]
    unfold Oper.wp
    rw [hr]
    exact k _ _ _ (hE.putS _ hd hlt) (Sep.to_row (sz := sz) (n := len) hS.alloc (by unfold maxLen; omega) h4)
/-- A call of a function. -/
def argsOf (env : List (Nat × Value)) : List Operand → Option (List Value)
  | [] => some []
  | x :: r => match opv env x, argsOf env r with
    | some v, some vs => some (v :: vs)
    | _, _ => none
theorem Env.args (hE : Env a n env) : ∀ {ars : List Operand} {vs : List Value}, argsOf env ars = some vs → ars.map a.eval = vs
  | [], vs, h => by simp [argsOf] at h; simp [h]
  | x :: r, vs, h => by
    simp only [argsOf] at h
    cases hx : opv env x with
    | none => rw [hx] at h; simp at h
    | some v =>
      cases hr : argsOf env r with
      | none => rw [hx, hr] at h; simp at h
      | some us =>
        rw [hx, hr] at h
        simp only [Option.some.injEq] at h
        subst h
        simp [hE.eval hx, Env.args hE hr]
class FnTy (P : Program) (f : FuncId) : Prop where
  h : ∃ fn, P.funcs[f]? = some fn ∧ (fn.name == "runtime.NumGoroutine") = false ∧ fn.body.isSome = true
theorem o_call {f : FuncId} {ars : Array Operand} {ts : Array TypeId} {vs : List Value} {R : Value → World → Prop} [F : FnTy P f] (hE : Env a n env) (ho : o.op = .call { callee := .value (.func f), args := ars, argTypes := ts }) (ha : argsOf env ars.toList = some vs)
    (hc : Calls P f vs.toArray w fun e w' => ∃ v, e = .returned v ∧ R v w') {d : Tmp} (hd : o.dst = some d) (hlt : Nat.blt d n = true) (k : ∀ v a' w', R v w' → Env a' n ((d, v) :: env) → K a' w') : o.wp P a w K Q := by
  obtain ⟨fn, hf, hn, hb⟩ := F.h
  have hm : ars.map a.eval = vs.toArray := by
    have := hE.args ha
    apply Array.toList_inj.1
    simpa using this
  have hev : a.eval (.func f) = .func (.func f) #[] #[] := rfl
  have hr : (execOp a.eval o).run P w = .ok (.enter f vs.toArray) w := by
    have hb' : fn.body ≠ none := by intro h; rw [h] at hb; simp at hb
    have hn' : fn.name ≠ "runtime.NumGoroutine" := by simpa using hn
    simp [execOp, ho, resolve, hm, hev, Deferred.ofValue, invoke, callFunc, program, Sem.run, hf, hn', hb']
  unfold Oper.wp
  rw [hr]
  refine Calls.mono hc ?_
  rintro e w' ⟨v, rfl, hR⟩
  exact k v _ w' hR (hE.putS v hd hlt)
end

/-! ### code -/
section
variable {P : Program} {a : Act} {w : World} {Q : Exit → Act → World → Prop} {next : Act → World → Prop} {ops : Array Oper} {id id' : Nat}
theorem wl_nil (h : Q .normal a w) : wpList P ops Q [] a w := h
theorem then_n (h : next a w) : Exit.then next Q .normal a w := h
theorem then_r (h : Q .ret a w) : Exit.then next Q .ret a w := h
theorem then_e (h : Q (.exit id) a w) : Exit.then next Q (.exit id) a w := h
theorem inb_n (h : Q .normal a w) : Exit.inBlock id Q .normal a w := h
theorem inb_r (h : Q .ret a w) : Exit.inBlock id Q .ret a w := h
theorem inb_e (h : Q .normal a w) : Exit.inBlock id Q (.exit id) a w := by simp only [Exit.inBlock, if_true]; exact h
theorem inb_o (hne : Nat.beq id' id = false) (h : Q (.exit id') a w) : Exit.inBlock id Q (.exit id') a w := by
  simp only [Exit.inBlock]
  rw [if_neg (fun e => by subst e; simp at hne)]
  exact h
theorem c_block {c : Code} (h : c.wp P (Exit.inBlock id Q) a w) : (Code.block id c).wp P Q a w := wp_block h
theorem c_skip (h : Q .normal a w) : Code.skip.wp P Q a w := wp_skip h
theorem c_exit (h : Q (.exit id) a w) : (Code.exit id).wp P Q a w := wp_exit h
theorem c_ret (h : Q .ret a w) : Code.ret.wp P Q a w := wp_ret h
end
section
variable {P : Program} {a : Act} {w w0 : World} {Q : Exit → Act → World → Prop} {n : Nat} {env : List (Nat × Value)} {L : List Asn}
/-- The parameters, as what is known at the start. -/
def envOf : Nat → List Value → List (Nat × Value)
  | _, [] => []
  | k, v :: r => (k, v) :: envOf (k + 1) r
theorem find_envOf {t : Nat} {v : Value} : ∀ (l : List Value) (k : Nat), find (envOf k l) t = some v → k ≤ t ∧ l[t - k]? = some v
  | [], k, h => by simp [envOf, find] at h
  | u :: r, k, h => by
    simp only [envOf, find] at h
    by_cases e : Nat.beq k t = true
    · rw [e] at h
      have e' := Nat.eq_of_beq_eq_true e
      subst e'
      exact ⟨Nat.le_refl _, by simpa using h⟩
    · rw [Bool.not_eq_true] at e
      rw [e] at h
      obtain ⟨h1, h2⟩ := find_envOf r (k + 1) h
      exact ⟨by omega, by rw [show t - k = (t - (k + 1)) + 1 by omega]; simpa using h2⟩
theorem enter {f : FuncId} {fn : Func} {c : Code} {args : List Value} {R : Ending → World → Prop} (m : Nat) (hf : P.funcs[f]? = some fn) (hb : fn.body = some c) (hm : Nat.beq fn.ntmps m = true) (hle' : Nat.ble args.length m = true)
    (h : ∀ a, Env a m (envOf 0 args) → Sep w w [] → c.wp P (bodyPost P fn R) a w) : Calls P f args.toArray w R := by
  have hle : args.length ≤ m := Nat.le_of_ble_eq_true hle'
  have hm' := Nat.eq_of_beq_eq_true hm
  refine calls_of_wp hf hb (h _ ⟨by simp [hm']; omega, rfl, fun t v hv => ?_⟩ (Sep.nil w))
  obtain ⟨_, h2⟩ := find_envOf args 0 hv
  have hlt : t < args.length := (List.getElem?_eq_some_iff.1 h2).1
  simp only [Nat.sub_zero] at h2
  rw [Array.getD_eq_getD_getElem?, Array.getElem?_append_left (by simpa using hlt)]
  simp [h2]
theorem c_seq {x y : Code} (h : x.wp P (Exit.then (y.wp P Q) Q) a w) : (Code.seq x y).wp P Q a w := wp_seq h
/-- A statement whose ways meet behind it: I is what is known there. -/
theorem c_seqI {x y : Code} (I : Act → World → Prop) (h : x.wp P (Exit.then I Q) a w) (k : ∀ a w, I a w → y.wp P Q a w) : (Code.seq x y).wp P Q a w :=
  wp_seq (wp_mono h fun e a w hq => by cases e <;> first | exact k _ _ hq | exact hq)
theorem c_reg {id : Nat} {l : List Oper} (h : wpList P l.toArray Q l a w) : (Code.region id l.toArray false).wp P Q a w := wp_region_lit h
theorem c_cond {c : Operand} {x y : Code} {b : Bool} (hE : Env a n env) (hc : opv env c = some (.bool b)) (ht : b = true → x.wp P Q a w) (hf : b = false → y.wp P Q a w) : (Code.cond c x y).wp P Q a w :=
  wp_cond_split (hE.eval hc) ht hf
theorem c_cond_t {c : Operand} {x y : Code} (hE : Env a n env) (hc : opv env c = some (.bool true)) (h : x.wp P Q a w) : (Code.cond c x y).wp P Q a w := wp_cond_true (hE.eval hc) h
theorem c_cond_f {c : Operand} {x y : Code} (hE : Env a n env) (hc : opv env c = some (.bool false)) (h : y.wp P Q a w) : (Code.cond c x y).wp P Q a w := wp_cond_false (hE.eval hc) h
theorem p_ret {fn : Func} {R : Ending → World → Prop} {t : Tmp} {v : Value} (hE : Env a n env) (hr : fn.results = #[.tmp t]) (hv : find env t = some v) (h : R (.returned v) w) : bodyPost P fn R .ret a w := by
  refine bodyPost_ret (v := v) ?_ hE.defers h
  simp [results, hr, hE.at_ t v hv]
  have := hE.at_ t v hv
  simpa [Array.getD_eq_getD_getElem?] using this
/-- A loop, by a number that falls. -/
theorem c_loopN {c : Code} (I : Nat → Act → World → Prop) (m : Nat) (h₀ : I m a w) (round : ∀ m a w, I m a w → c.wp P (Exit.then (fun a' w' => ∃ m', m' < m ∧ I m' a' w') Q) a w) : (Code.loop c).wp P Q a w :=
  wp_loop_ghost I m h₀ round
/-- Results, in line. -/
inductive RVs (P : Program) (a : Act) (w : World) : List ResultVar → List Value → Prop
  | nil : RVs P a w [] []
  | tmp {t : Tmp} {v : Value} {rs : List ResultVar} {vs : List Value} (h : a.tmps.getD t undef = v) (r : RVs P a w rs vs) : RVs P a w (.tmp t :: rs) (v :: vs)
  | cell {t : Tmp} {ty : TypeId} {ad : Addr} {v : Value} {rs : List ResultVar} {vs : List Value} (hp : a.tmps.getD t undef = .pointer (some ad)) (h : (loadVar ty ad).run P w = .ok v w) (r : RVs P a w rs vs) : RVs P a w (.cell t ty :: rs) (v :: vs)
theorem rv_t {t : Tmp} {v : Value} {rs : List ResultVar} {vs : List Value} (hE : Env a n env) (h : find env t = some v) (r : RVs P a w rs vs) : RVs P a w (.tmp t :: rs) (v :: vs) := .tmp (hE.at_ t v h) r
theorem rv_c {t ty m g off e : Nat} {cs us : List Value} {L' : List Asn} {rs : List ResultVar} {vs : List Value} [T : TyInfo P ty true m] (hE : Env a n env) (hS : Sep w0 w L) (h : find env t = some (.pointer (some ⟨g, off, none⟩))) (hp : Pull (blk g cs e) L L') (hv : (cs.drop off).take m = us) (hm : us.length = m) (r : RVs P a w rs vs) : RVs P a w (.cell t ty :: rs) (.agg us.toArray :: vs) :=
  .cell (hE.at_ t _ h) (by
    have hA := at_blk (off := off) (hS.blk_at hp)
    subst hv
    exact run_loadVar_at (P := P) (ty := ty) hm (hA.take m) (fun h => by cases h)) r
theorem rv_s {t ty g off e : Nat} {cs : List Value} {v : Value} {L' : List Asn} {rs : List ResultVar} {vs : List Value} [T : TyInfo P ty false 1] (hE : Env a n env) (hS : Sep w0 w L) (h : find env t = some (.pointer (some ⟨g, off, none⟩))) (hp : Pull (blk g cs e) L L') (hv : cs[off]? = some v) (r : RVs P a w rs vs) : RVs P a w (.cell t ty :: rs) (v :: vs) :=
  .cell (hE.at_ t _ h) (by
    have hA := at_blk (off := off) (hS.blk_at hp)
    have hlt : off < cs.length := (List.getElem?_eq_some_iff.1 hv).1
    have e : cs.drop off = v :: cs.drop (off + 1) := by rw [← (List.getElem?_eq_some_iff.1 hv).2]; exact List.drop_eq_getElem_cons hlt
    rw [e] at hA
    have := run_loadVar_at (P := P) (ty := ty) (vs := [v]) rfl (hA.take 1) (fun _ => rfl)
    exact this) r
def rvOf (a : Act) : ResultVar → Sem Value
  | .tmp t => pure (a.tmps.getD t undef)
  | .cell p t => do loadVar t (← asAddr (a.tmps.getD p undef))
theorem RVs.run {rs : List ResultVar} {vs : List Value} (h : RVs P a w rs vs) : (rs.mapM (rvOf a)).run P w = .ok vs w := by
  induction h with
  | nil => rfl
  | @tmp t v rs vs h r ih =>
    have h1 : (rvOf a (.tmp t)).run P w = .ok v w := by simp [rvOf, ← h]
    rw [List.mapM_cons, Sem.run_bind, h1]
    simp only [Result.andThen_ok]
    rw [Sem.run_bind, ih]
    rfl
  | @cell t ty ad v rs vs hp h r ih =>
    have h1 : (rvOf a (.cell t ty)).run P w = .ok v w := by
      show (do loadVar ty (← asAddr (a.tmps.getD t undef)) : Sem Value).run P w = _
      rw [hp]
      simp [asAddr, h]
    rw [List.mapM_cons, Sem.run_bind, h1]
    simp only [Result.andThen_ok]
    rw [Sem.run_bind, ih]
    rfl
theorem run_results {fn : Func} {rs : List ResultVar} {vs : List Value} (hr : fn.results = rs.toArray) (hV : RVs P a w rs vs) : (results fn a.tmps).run P w = .ok (if h : vs.toArray.size = 1 then vs.toArray[0] else .tuple vs.toArray) w := by
  have hq := hV.run
  have e : results fn a.tmps = (do let l ← rs.mapM (rvOf a); pure (if h : l.toArray.size = 1 then l.toArray[0] else .tuple l.toArray)) := by
    unfold results
    rw [hr, List.mapM_toArray, map_eq_pure_bind, bind_assoc]
    simp only [pure_bind]
    rfl
  rw [e, Sem.run_bind, hq]
  rfl
theorem p_rets {fn : Func} {R : Ending → World → Prop} {rs : List ResultVar} {vs : List Value} (hE : Env a n env) (hr : fn.results = rs.toArray) (hV : RVs P a w rs vs) (hl : Nat.beq vs.length 1 = false) (h : R (.returned (.tuple vs.toArray)) w) : bodyPost P fn R .ret a w := by
  refine bodyPost_ret (v := .tuple vs.toArray) ?_ hE.defers h
  have hne : vs.length ≠ 1 := fun e => by rw [e] at hl; simp at hl
  rw [run_results hr hV, dif_neg (by simpa using hne)]
theorem p_ret1 {fn : Func} {R : Ending → World → Prop} {r : ResultVar} {v : Value} (hE : Env a n env) (hr : fn.results = #[r]) (hV : RVs P a w [r] [v]) (h : R (.returned v) w) : bodyPost P fn R .ret a w := by
  refine bodyPost_ret (v := v) ?_ hE.defers h
  rw [run_results (rs := [r]) hr hV]
  rfl
theorem p_none {fn : Func} {R : Ending → World → Prop} (hE : Env a n env) (hr : fn.results = #[]) (h : R (.returned (.tuple #[])) w) : bodyPost P fn R .ret a w :=
  bodyPost_ret (results_none hr _ _ _) hE.defers h
theorem p_end {fn : Func} {R : Ending → World → Prop} (hE : Env a n env) (hr : fn.results = #[]) (h : R (.returned (.tuple #[])) w) : bodyPost P fn R .normal a w :=
  bodyPost_end (results_none hr _ _ _) hE.defers h
end
/-- Cells that can be read, from an address on (none: there are none). -/
def Rd (w : World) (A : Option Addr) (cells : List Value) : Prop := ∀ j u, cells[j]? = some u → ∃ ad, A = some ad ∧ w.cell? (ad.add j) = some u
theorem Rd.at_ {w : World} {A : Option Addr} {cells : List Value} (h : Rd w A cells) : At w (adr A) cells := fun j u hu => by
  obtain ⟨ad, e, hc⟩ := h j u hu
  subst e
  exact hc
theorem Rd.some {w : World} {A : Option Addr} {cells : List Value} (h : Rd w A cells) (hne : 0 < cells.length) : A = Option.some (adr A) := by
  obtain ⟨ad, e, _⟩ := h 0 _ (List.getElem?_eq_getElem hne)
  subst e
  rfl
theorem Rd.move {w0 w : World} {L : List Asn} {A : Option Addr} {cells : List Value} (h : Rd w0 A cells) (hS : Sep w0 w L) : Rd w A cells := fun j u hu => by
  obtain ⟨ad, e, hc⟩ := h j u hu
  exact ⟨ad, e, hS.cell hc⟩
def ints (xs : List Int) : List Value := xs.map (Value.int .i64)
theorem ints_length (xs : List Int) : (ints xs).length = xs.length := by simp [ints]
theorem ints_at {w : World} {ad : Addr} {xs : List Int} (h : At w ad (ints xs)) (i : Int) (h0 : 0 ≤ i) (h1 : i < (xs.length : Int)) : At w (ad.add (i.toNat * 1)) (.int .i64 (xs.getD i.toNat 0) :: ints (xs.drop (i.toNat + 1))) := by
  have hlt : i.toNat < xs.length := by omega
  have hd := h.drop (i.toNat * 1)
  rw [Nat.mul_one] at hd ⊢
  have e : (ints xs).drop i.toNat = .int .i64 (xs.getD i.toNat 0) :: ints (xs.drop (i.toNat + 1)) := by
    unfold ints
    rw [← List.map_drop, List.drop_eq_getElem_cons hlt, List.map_cons]
    simp [hlt]
  rwa [e] at hd
end Go.Sx
/- DERIVED. The walk's laws, their plain conditions paid where they are used. No condition. -/
namespace Go.Sx
open Go.RowKit
set_option linter.unusedVariables false
set_option linter.unusedSimpArgs false
variable {P : Program} {o : Oper} {a : Act} {w w0 : World} {Q : Exit → Act → World → Prop} {n : Nat} {env : List (Nat × Value)} {L : List Asn} {K : Act → World → Prop}
theorem qm {x : Operand} {v : Value} {d : Tmp} (hE : Env a n env) (k : ∀ a', Env a' n ((d, v) :: env) → K a' w) (ho : o.op = .move x := by exact rfl) (hx : opv env x = some v := by exact rfl) (hd : o.dst = some d := by exact rfl) (hlt : Nat.blt d n = true := by exact rfl) : o.wp P a w K Q := o_move hE ho hx hd hlt k
theorem qa {x : Operand} {v : Value} {d : Tmp} (hE : Env a n env) (k : ∀ a', Env a' n ((d, v) :: env) → K a' w) (ho : o.op = .assign x := by exact rfl) (hx : opv env x = some v := by exact rfl) (hd : o.dst = some d := by exact rfl) (hlt : Nat.blt d n = true := by exact rfl) : o.wp P a w K Q := o_assign hE ho hx hd hlt k
theorem qpt {c x y : Operand} {v : Value} {d : Tmp} (hE : Env a n env) (k : ∀ a', Env a' n ((d, v) :: env) → K a' w) (ho : o.op = .pick c x y := by exact rfl) (hc : opv env c = some (.bool true) := by exact rfl) (hx : opv env x = some v := by exact rfl) (hd : o.dst = some d := by exact rfl) (hlt : Nat.blt d n = true := by exact rfl) : o.wp P a w K Q := o_pick_t hE ho hc hx hd hlt k
theorem qpf {c x y : Operand} {v : Value} {d : Tmp} (hE : Env a n env) (k : ∀ a', Env a' n ((d, v) :: env) → K a' w) (ho : o.op = .pick c x y := by exact rfl) (hc : opv env c = some (.bool false) := by exact rfl) (hx : opv env y = some v := by exact rfl) (hd : o.dst = some d := by exact rfl) (hlt : Nat.blt d n = true := by exact rfl) : o.wp P a w K Q := o_pick_f hE ho hc hx hd hlt k
theorem qe {t : Operand} {i : Nat} {vs : Array Value} {v : Value} {d : Tmp} (hE : Env a n env) (k : ∀ a', Env a' n ((d, v) :: env) → K a' w) (ho : o.op = .extract t i := by exact rfl) (hx : opv env t = some (.tuple vs) := by exact rfl) (hv : vs[i]? = some v := by exact rfl) (hd : o.dst = some d := by exact rfl) (hlt : Nat.blt d n = true := by exact rfl) : o.wp P a w K Q := o_extract hE ho hx hv hd hlt k
theorem qn {x : Operand} {p : Addr} {d : Tmp} (hE : Env a n env) (k : ∀ a', Env a' n ((d, .pointer (some p)) :: env) → K a' w) (ho : o.op = .nilCheck x := by exact rfl) (hx : opv env x = some (.pointer (some p)) := by exact rfl) (hd : o.dst = some d := by exact rfl) (hlt : Nat.blt d n = true := by exact rfl) : o.wp P a w K Q := o_nilCheck hE ho hx hd hlt k
theorem qb {op : BinOp} {t t' : TypeId} {x y : Operand} {u v r : Value} {d : Tmp} (hE : Env a n env) (k : ∀ a', Env a' n ((d, r) :: env) → K a' w) (ho : o.op = .binOp op t x y t' := by exact rfl) (hx : opv env x = some u := by exact rfl) (hy : opv env y = some v := by exact rfl) (hb : Bin P op t x y u v r := by first | exact bin_lss | exact bin_leq | exact bin_gtr | exact bin_geq | exact bin_eql | exact bin_neq | exact bin_add_in (by omega) (by omega) | exact bin_sub_in (by omega) (by omega) | exact bin_add | exact bin_sub | exact bin_mul_in (by omega) (by omega) | exact bin_mul | exact bin_eql_bool | exact bin_neq_bool | exact bin_eql_str | exact bin_neq_str) (hd : o.dst = some d := by exact rfl) (hlt : Nat.blt d n = true := by exact rfl) : o.wp P a w K Q := o_bin hE ho hx hy hb hd hlt k
theorem qu {x : Operand} {b : Bool} {t : TypeId} {d : Tmp} (hE : Env a n env) (k : ∀ a', Env a' n ((d, .bool (!b)) :: env) → K a' w) (ho : o.op = .unOp .not t x := by exact rfl) (hx : opv env x = some (.bool b) := by exact rfl) (hd : o.dst = some d := by exact rfl) (hlt : Nat.blt d n = true := by exact rfl) : o.wp P a w K Q := o_not hE ho hx hd hlt k
theorem ql {ty : TypeId} {x : Operand} {g off : Nat} {cs : List Value} {t : TypeId} {L' : List Asn} {v : Value} {d : Tmp} (hE : Env a n env) (hS : Sep w0 w L) (k : ∀ a', Env a' n ((d, v) :: env) → K a' w) (ho : o.op = .load ty x := by exact rfl) (T : TyInfo P ty false 1 := by infer_instance) (hx : opv env x = some (.pointer (some ⟨g, off, none⟩)) := by exact rfl) (hp : Pull (blk g cs t) L L' := by repeat (first | exact Pull.here | apply Pull.there)) (hv : cs[off]? = some v := by exact rfl) (hd : o.dst = some d := by exact rfl) (hlt : Nat.blt d n = true := by exact rfl) : o.wp P a w K Q := o_load hE hS ho hx hp hv hd hlt k
theorem qL {ty m : TypeId} {x : Operand} {g off : Nat} {cs us : List Value} {t : TypeId} {L' : List Asn} {d : Tmp} (hE : Env a n env) (hS : Sep w0 w L) (k : ∀ a', Env a' n ((d, .agg us.toArray) :: env) → K a' w) (ho : o.op = .load ty x := by exact rfl) (T : TyInfo P ty true m := by infer_instance) (hx : opv env x = some (.pointer (some ⟨g, off, none⟩)) := by exact rfl) (hp : Pull (blk g cs t) L L' := by repeat (first | exact Pull.here | apply Pull.there)) (hv : (cs.drop off).take m = us := by (try simp only [cellsL_agg, cellsL_int, cellsL_bool, cellsL_string, cellsL_slice, cellsL_pointer, cellsL_map, cellsL_func, cellsL_nilFunc, cellsL_iface, cellsL_nilIface, putL, List.length_cons, List.length_nil, List.take_succ_cons, List.take_zero, List.take_nil, List.drop_succ_cons, List.drop_zero, List.drop_nil, List.nil_append, List.cons_append, List.append_nil, Nat.reduceAdd, Nat.add_zero, Nat.zero_add]); first | done | rfl) (hm : us.length = m := by exact rfl) (hd : o.dst = some d := by exact rfl) (hlt : Nat.blt d n = true := by exact rfl) : o.wp P a w K Q := o_loadA hE hS ho hx hp hv hm hd hlt k
theorem q0 {ty : TypeId} {x : Operand} {ad : Addr} {v : Value} {vs : List Value} {d : Tmp} (hE : Env a n env) (hS : Sep w0 w L) (hA : At w0 ad (v :: vs)) (k : ∀ a', Env a' n ((d, v) :: env) → K a' w) (ho : o.op = .load ty x := by exact rfl) (T : TyInfo P ty false 1 := by infer_instance) (hx : opv env x = some (.pointer (some ad)) := by exact rfl) (hd : o.dst = some d := by exact rfl) (hlt : Nat.blt d n = true := by exact rfl) : o.wp P a w K Q := o_load0 hE hS ho hx hA hd hlt k
theorem q00 {ty m : TypeId} {x : Operand} {ad : Addr} {vs us : List Value} {d : Tmp} (hE : Env a n env) (hS : Sep w0 w L) (hA : At w0 ad vs) (k : ∀ a', Env a' n ((d, .agg us.toArray) :: env) → K a' w) (ho : o.op = .load ty x := by exact rfl) (T : TyInfo P ty true m := by infer_instance) (hx : opv env x = some (.pointer (some ad)) := by exact rfl) (hv : vs.take m = us := by (try simp only [cellsL_agg, cellsL_int, cellsL_bool, cellsL_string, cellsL_slice, cellsL_pointer, cellsL_map, cellsL_func, cellsL_nilFunc, cellsL_iface, cellsL_nilIface, putL, List.length_cons, List.length_nil, List.take_succ_cons, List.take_zero, List.take_nil, List.drop_succ_cons, List.drop_zero, List.drop_nil, List.nil_append, List.cons_append, List.append_nil, Nat.reduceAdd, Nat.add_zero, Nat.zero_add]); first | done | rfl) (hm : us.length = m := by exact rfl) (hd : o.dst = some d := by exact rfl) (hlt : Nat.blt d n = true := by exact rfl) : o.wp P a w K Q := o_loadA0 hE hS ho hx hA hv hm hd hlt k
theorem qf {ty : TypeId} {f off : Nat} {x : Operand} {g q : Nat} {d : Tmp} (hE : Env a n env) (k : ∀ a', Env a' n ((d, .pointer (some ⟨g, q + off, none⟩)) :: env) → K a' w) (ho : o.op = .fieldAddr ty x f := by exact rfl) (T : FieldTy P ty f off := by infer_instance) (hx : opv env x = some (.pointer (some ⟨g, q, none⟩)) := by exact rfl) (hd : o.dst = some d := by exact rfl) (hlt : Nat.blt d n = true := by exact rfl) : o.wp P a w K Q := o_fieldL hE ho hx hd hlt k
theorem qi {ty e : TypeId} {sz : Nat} {x y : Operand} {A : Option Addr} {len cap : Nat} {i : Int} {kd : IntKind} {d : Tmp} (hE : Env a n env) (hA : (0 : Int) < (len : Int) → A = some (adr A)) (k : ∀ a', Env a' n ((d, .pointer (some ((adr A).add (i.toNat * sz)))) :: env) → K a' w) (ho : o.op = .indexAddr ty x y := by exact rfl) (T : SliceTy P ty e sz := by infer_instance) (hx : opv env x = some (.slice A len cap) := by exact rfl) (hy : opv env y = some (.int kd i) := by exact rfl) (h0 : 0 ≤ i := by omega) (h1 : i < len := by omega) (hd : o.dst = some d := by exact rfl) (hlt : Nat.blt d n = true := by exact rfl) : o.wp P a w K Q := o_index hE ho hx hy (hA (by omega)) h0 h1 hd hlt k
theorem qn1 {t : TypeId} {x : Operand} {ad : Option Addr} {len cap : Nat} {e sz : Nat} {d : Tmp} (hE : Env a n env) (k : ∀ a', Env a' n ((d, .int .i64 len) :: env) → K a' w) (ho : o.op = .call { callee := .builtin .len, args := #[x], argTypes := #[t] } := by exact rfl) (T : SliceTy P t e sz := by infer_instance) (hx : opv env x = some (.slice ad len cap) := by exact rfl) (hd : o.dst = some d := by exact rfl) (hlt : Nat.blt d n = true := by exact rfl) : o.wp P a w K Q := o_len hE ho hx hd hlt k
theorem qns {t : TypeId} {x : Operand} {s : ByteArray} {d : Tmp} (hE : Env a n env) (k : ∀ a', Env a' n ((d, .int .i64 s.size) :: env) → K a' w) (ho : o.op = .call { callee := .builtin .len, args := #[x], argTypes := #[t] } := by exact rfl) (T : StrTy P t := by infer_instance) (hx : opv env x = some (.string s) := by exact rfl) (hd : o.dst = some d := by exact rfl) (hlt : Nat.blt d n = true := by exact rfl) : o.wp P a w K Q := o_lenS hE ho hx hd hlt k
theorem qal {ty : TypeId} {cs : List Value} {d : Tmp} (hE : Env a n env) (hS : Sep w0 w L) (k : ∀ g a' w', Env a' n ((d, .pointer (some ⟨g, 0, none⟩)) :: env) → Sep w0 w' (blk g cs ty :: L) → K a' w') (ho : o.op = .alloc ty := by exact rfl) (T : ZeroTy P ty cs := by infer_instance) (hd : o.dst = some d := by exact rfl) (hlt : Nat.blt d n = true := by exact rfl) : o.wp P a w K Q := o_alloc hE hS ho hd hlt k
theorem qbx {ty : TypeId} {x : Operand} {v : Value} {cs : List Value} {d : Tmp} (hE : Env a n env) (hS : Sep w0 w L) (k : ∀ g a' w', Env a' n ((d, .pointer (some ⟨g, 0, none⟩)) :: env) → Sep w0 w' (blk g cs ty :: L) → K a' w') (ho : o.op = .box ty x := by exact rfl) (hx : opv env x = some v := by exact rfl) (hc : cellsL v = cs := by (try simp only [cellsL_agg, cellsL_int, cellsL_bool, cellsL_string, cellsL_slice, cellsL_pointer, cellsL_map, cellsL_func, cellsL_nilFunc, cellsL_iface, cellsL_nilIface, putL, List.length_cons, List.length_nil, List.take_succ_cons, List.take_zero, List.take_nil, List.drop_succ_cons, List.drop_zero, List.drop_nil, List.nil_append, List.cons_append, List.append_nil, Nat.reduceAdd, Nat.add_zero, Nat.zero_add]); first | done | rfl) (hd : o.dst = some d := by exact rfl) (hlt : Nat.blt d n = true := by exact rfl) : o.wp P a w K Q := o_box hE hS ho hx hc hd hlt k
theorem qbu {ty : TypeId} {zs cs cs' : List Value} {pl : List (Nat × Nat)} {ps : Array (Nat × Operand)} {vs : List (Nat × Value)} {d : Tmp} (hE : Env a n env) (k : ∀ a', Env a' n ((d, .agg cs'.toArray) :: env) → K a' w) (ho : o.op = .build ty ps := by exact rfl) (Z : ZeroTy P ty zs := by infer_instance) (S : StructTy P ty pl := by infer_instance) (hp : partsOf env ps.toList = some vs := by exact rfl) (hb : bld pl zs vs = some cs := by exact rfl) (hn : cs = cs' := by (try simp only [cellsL_agg, cellsL_int, cellsL_bool, cellsL_string, cellsL_slice, cellsL_pointer, cellsL_map, cellsL_func, cellsL_nilFunc, cellsL_iface, cellsL_nilIface, putL, List.length_cons, List.length_nil, List.take_succ_cons, List.take_zero, List.take_nil, List.drop_succ_cons, List.drop_zero, List.drop_nil, List.nil_append, List.cons_append, List.append_nil, Nat.reduceAdd, Nat.add_zero, Nat.zero_add]); first | done | rfl) (hd : o.dst = some d := by exact rfl) (hlt : Nat.blt d n = true := by exact rfl) : o.wp P a w K Q := o_build hE ho hp hb hn hd hlt k
theorem qbs0 {ty e : TypeId} {sz : Nat} {d : Tmp} (hE : Env a n env) (hS : Sep w0 w L) (k : ∀ g a' w', Env a' n ((d, .slice (some ⟨g, 0, none⟩) 0 0) :: env) → Sep w0 w' (row e sz (.slice (some ⟨g, 0, none⟩) 0 0) 0 [] :: L) → K a' w') (ho : o.op = .buildSlice ty 0 #[] := by exact rfl) (T : SliceTy P ty e sz := by infer_instance) (hd : o.dst = some d := by exact rfl) (hlt : Nat.blt d n = true := by exact rfl) : o.wp P a w K Q := o_buildSlice0 hE hS ho hd hlt k
theorem qbs {ty e : TypeId} {sz len : Nat} {zs cs cs' : List Value} {ps : Array (Nat × Operand)} {vs : List (Nat × Value)} {d : Tmp} (hE : Env a n env) (hS : Sep w0 w L) (k : ∀ g a' w', Env a' n ((d, .slice (some ⟨g, 0, none⟩) len len) :: env) → Sep w0 w' (row e sz (.slice (some ⟨g, 0, none⟩) len len) len cs' :: L) → K a' w') (ho : o.op = .buildSlice ty len ps := by exact rfl) (T : SliceTy P ty e sz := by infer_instance) (Z : ZeroTy P e zs := by infer_instance) (hp : partsOf env ps.toList = some vs := by exact rfl) (hlen : Nat.ble (len * sz) 16777216 = true := by exact rfl) (hl0 : Nat.ble 1 (len * sz) = true := by exact rfl) (hz : Nat.beq zs.length sz = true := by exact rfl) (hb : bld ((List.range len).map fun i => (i * sz, sz)) ((List.range (len * sz)).map fun i => zs.getD (i % zs.length) undef) vs = some cs := by exact rfl) (hn : cs = cs' := by (try simp only [cellsL_agg, cellsL_int, cellsL_bool, cellsL_string, cellsL_slice, cellsL_pointer, cellsL_map, cellsL_func, cellsL_nilFunc, cellsL_iface, cellsL_nilIface, putL, List.length_cons, List.length_nil, List.take_succ_cons, List.take_zero, List.take_nil, List.drop_succ_cons, List.drop_zero, List.drop_nil, List.nil_append, List.cons_append, List.append_nil, Nat.reduceAdd, Nat.add_zero, Nat.zero_add]); first | done | rfl) (hcl : Nat.beq cs'.length (len * sz) = true := by exact rfl) (hlm : Nat.ble len 4294967296 = true := by exact rfl) (hd : o.dst = some d := by exact rfl) (hlt : Nat.blt d n = true := by exact rfl) : o.wp P a w K Q := o_buildSlice hE hS ho hp hlen hl0 hz hb hn hcl hlm hd hlt k
theorem qst {ty m : TypeId} {b : Bool} {x y : Operand} {g off : Nat} {cs cs' : List Value} {t : TypeId} {L' : List Asn} {v : Value} (hE : Env a n env) (hS : Sep w0 w L) (k : ∀ w', Sep w0 w' (blk g cs' t :: L') → K a w') (ho : o.op = .store ty x y := by exact rfl) (T : TyInfo P ty b m := by infer_instance) (hx : opv env x = some (.pointer (some ⟨g, off, none⟩)) := by exact rfl) (hy : opv env y = some v := by exact rfl)
    (hp : Pull (blk g cs t) L L' := by repeat (first | exact Pull.here | apply Pull.there)) (hm : (cellsL v).length = m := by exact rfl) (h1' : (cellsL v).all Value.oneCell' = true := by exact rfl) (hf' : Nat.ble (off + (cellsL v).length) cs.length = true := by exact rfl) (hc : putL cs off (cellsL v) = cs' := by (try simp only [cellsL_agg, cellsL_int, cellsL_bool, cellsL_string, cellsL_slice, cellsL_pointer, cellsL_map, cellsL_func, cellsL_nilFunc, cellsL_iface, cellsL_nilIface, putL, List.length_cons, List.length_nil, List.take_succ_cons, List.take_zero, List.take_nil, List.drop_succ_cons, List.drop_zero, List.drop_nil, List.nil_append, List.cons_append, List.append_nil, Nat.reduceAdd, Nat.add_zero, Nat.zero_add]); first | done | rfl) (hd : o.dst = none := by exact rfl) : o.wp P a w K Q := o_store hE hS ho hx hy hp hm h1' hf' hc hd k
theorem qc {f : FuncId} {ars : Array Operand} {ts : Array TypeId} {vs : List Value} {R : Value → World → Prop} {d : Tmp} (hE : Env a n env) (hc : Calls P f vs.toArray w fun e w' => ∃ v, e = .returned v ∧ R v w') (k : ∀ v a' w', R v w' → Env a' n ((d, v) :: env) → K a' w') (ho : o.op = .call { callee := .value (.func f), args := ars, argTypes := ts } := by exact rfl) (F : FnTy P f := by infer_instance) (ha : argsOf env ars.toList = some vs := by exact rfl) (hd : o.dst = some d := by exact rfl) (hlt : Nat.blt d n = true := by exact rfl) : o.wp P a w K Q := o_call hE ho ha hc hd hlt k
theorem q0i {ty : TypeId} {x : Operand} {ad : Addr} {xs : List Int} {i : Int} {d : Tmp} (hE : Env a n env) (hS : Sep w0 w L) (hA : At w0 ad (ints xs)) (k : ∀ a', Env a' n ((d, .int .i64 (xs.getD i.toNat 0)) :: env) → K a' w) (ho : o.op = .load ty x := by exact rfl) (T : TyInfo P ty false 1 := by infer_instance) (hx : opv env x = some (.pointer (some (ad.add (i.toNat * 1)))) := by exact rfl) (h0 : 0 ≤ i := by omega) (h1 : i < (xs.length : Int) := by omega) (hd : o.dst = some d := by exact rfl) (hlt : Nat.blt d n = true := by exact rfl) : o.wp P a w K Q := q0 hE hS (ints_at hA i h0 h1) k ho T hx hd hlt
theorem rt {t : Tmp} {v : Value} {rs : List ResultVar} {vs : List Value} (hE : Env a n env) (r : RVs P a w rs vs) (h : find env t = some v := by exact rfl) : RVs P a w (.tmp t :: rs) (v :: vs) := rv_t hE h r
theorem rc {t ty m g off e : Nat} {cs us : List Value} {L' : List Asn} {rs : List ResultVar} {vs : List Value} (hE : Env a n env) (hS : Sep w0 w L) (r : RVs P a w rs vs) (T : TyInfo P ty true m := by infer_instance) (h : find env t = some (.pointer (some ⟨g, off, none⟩)) := by exact rfl) (hp : Pull (blk g cs e) L L' := by repeat (first | exact Pull.here | apply Pull.there)) (hv : (cs.drop off).take m = us := by (try simp only [cellsL_agg, cellsL_int, cellsL_bool, cellsL_string, cellsL_slice, cellsL_pointer, cellsL_map, cellsL_func, cellsL_nilFunc, cellsL_iface, cellsL_nilIface, putL, List.length_cons, List.length_nil, List.take_succ_cons, List.take_zero, List.take_nil, List.drop_succ_cons, List.drop_zero, List.drop_nil, List.nil_append, List.cons_append, List.append_nil, Nat.reduceAdd, Nat.add_zero, Nat.zero_add]); first | done | rfl) (hm : us.length = m := by exact rfl) : RVs P a w (.cell t ty :: rs) (.agg us.toArray :: vs) := rv_c hE hS h hp hv hm r
theorem rs {t ty g off e : Nat} {cs : List Value} {v : Value} {L' : List Asn} {rs : List ResultVar} {vs : List Value} (hE : Env a n env) (hS : Sep w0 w L) (r : RVs P a w rs vs) (T : TyInfo P ty false 1 := by infer_instance) (h : find env t = some (.pointer (some ⟨g, off, none⟩)) := by exact rfl) (hp : Pull (blk g cs e) L L' := by repeat (first | exact Pull.here | apply Pull.there)) (hv : cs[off]? = some v := by exact rfl) : RVs P a w (.cell t ty :: rs) (v :: vs) := rv_s hE hS h hp hv r
/-- A cut behind a region. -/
theorem c_midq {P : Program} {a : Act} {w : World} {Q : Exit → Act → World → Prop} {id : Nat} {ops : Array Oper} {c2 : Code} {I : Act → World → Prop} (h1 : (Code.region id ops false).wp P (Exit.then I Q) a w) (h2 : ∀ a w, I a w → c2.wp P Q a w) : ((Code.region id ops false).seq c2).wp P Q a w :=
  wp_seq (wp_mono h1 fun e a w hq => by cases e <;> first | exact h2 _ _ hq | exact hq)
theorem c_regI (id : Nat) {P : Program} {a : Act} {w : World} {Q : Exit → Act → World → Prop} {l : List Oper} (h : wpList P l.toArray Q l a w) : (Code.region id l.toArray false).wp P Q a w := c_reg h
end Go.Sx
/- DERIVED. The walk through a statement whose order is open. No condition. -/
namespace Go.Sx
open Go.RowKit
set_option linter.unusedVariables false
set_option linter.unusedSimpArgs false

/-- What is held through the statement: what was there is as it was; these blocks are as they were. -/
def SS (w0 : World) (G : List (Nat × List Value × TypeId)) (w : World) : Prop := Below w0.heap.size w0 w ∧ ∀ p ∈ G, w.heap[p.1]? = some (.cells p.2.1.toArray p.2.2 (0, 0))
inductive GIn : List (Nat × List Value × TypeId) → List Asn → Prop
  | nil {L : List Asn} : GIn [] L
  | cons {g : Nat} {cs : List Value} {t : TypeId} {G : List (Nat × List Value × TypeId)} {L L' : List Asn} (h : Pull (blk g cs t) L L') (r : GIn G L) : GIn ((g, cs, t) :: G) L
theorem SS.of {w0 w : World} {L : List Asn} {G : List (Nat × List Value × TypeId)} (hS : Sep w0 w L) (h : GIn G L) : SS w0 G w := by
  refine ⟨hS.below, ?_⟩
  induction h with
  | nil => intro p hp; cases hp
  | cons h r ih =>
    intro p hp
    rcases List.mem_cons.1 hp with rfl | hp
    · exact hS.blk_at h
    · exact ih hS p hp
/-- The blocks that these temporaries point to. -/
inductive Gt (env : List (Nat × Value)) (L : List Asn) : List Nat → List (Nat × List Value × TypeId) → Prop
  | nil : Gt env L [] []
  | cons {t g : Nat} {cs : List Value} {ty : TypeId} {ts : List Nat} {G : List (Nat × List Value × TypeId)} {L' : List Asn} (h : find env t = some (.pointer (some ⟨g, 0, none⟩))) (hp : Pull (blk g cs ty) L L') (r : Gt env L ts G) : Gt env L (t :: ts) ((g, cs, ty) :: G)
  | skip {t : Nat} {ts : List Nat} {G : List (Nat × List Value × TypeId)} (r : Gt env L ts G) : Gt env L (t :: ts) G
theorem Gt.gin {env : List (Nat × Value)} {L : List Asn} {ts : List Nat} {G : List (Nat × List Value × TypeId)} (h : Gt env L ts G) : GIn G L := by
  induction h with
  | nil => exact .nil
  | cons h hp r ih => exact .cons hp ih
  | skip r ih => exact ih
class Mixed (P : Program) : Prop where
  h : P.follows .mixedOrders = true
section
variable {P : Program} {ops : Array Oper} {o : Oper} {a : Act} {w w0 : World} {Q : Exit → Act → World → Prop} {n : Nat} {env : List (Nat × Value)} {L : List Asn} {S : World → Prop} {G : List (Nat × List Value × TypeId)} {listed : Array Bool} {fuel : Nat}
/-- An operation that only yields. -/
def Y (P : Program) (env : List (Nat × Value)) (S : World → Prop) (o : Oper) (v : Value) : Prop := ∀ (a : Act) (n : Nat) (w : World), Env a n env → S w → (execOp a.eval o).run P w = .ok (.value v) w
theorem y_move {x : Operand} {v : Value} (ho : o.op = .move x := by exact rfl) (hx : opv env x = some v := by exact rfl) : Y P env S o v := fun a n w hE _ => by simp [execOp, ho, hE.eval hx]
theorem y_assign {x : Operand} {v : Value} (ho : o.op = .assign x := by exact rfl) (hx : opv env x = some v := by exact rfl) : Y P env S o v := fun a n w hE _ => by simp [execOp, ho, hE.eval hx]
theorem y_pick_t {c x y : Operand} {v : Value} (ho : o.op = .pick c x y := by exact rfl) (hc : opv env c = some (.bool true) := by exact rfl) (hx : opv env x = some v := by exact rfl) : Y P env S o v := fun a n w hE _ => by simp [execOp, ho, hE.eval hx, hE.eval hc, asBool]
theorem y_pick_f {c x y : Operand} {v : Value} (ho : o.op = .pick c x y := by exact rfl) (hc : opv env c = some (.bool false) := by exact rfl) (hx : opv env y = some v := by exact rfl) : Y P env S o v := fun a n w hE _ => by simp [execOp, ho, hE.eval hx, hE.eval hc, asBool]
theorem y_extract {t : Operand} {i : Nat} {vs : Array Value} {v : Value} (ho : o.op = .extract t i := by exact rfl) (hx : opv env t = some (.tuple vs) := by exact rfl) (hv : vs[i]? = some v := by exact rfl) : Y P env S o v := fun a n w hE _ => by simp [execOp, ho, hE.eval hx, Instr.extract, hv]
theorem y_nil {x : Operand} {p : Addr} (ho : o.op = .nilCheck x := by exact rfl) (hx : opv env x = some (.pointer (some p)) := by exact rfl) : Y P env S o (.pointer (some p)) := fun a n w hE _ => by simp [execOp, ho, hE.eval hx]
theorem y_bin {op : BinOp} {t t' : TypeId} {x y : Operand} {u v r : Value} (ho : o.op = .binOp op t x y t' := by exact rfl) (hx : opv env x = some u := by exact rfl) (hy : opv env y = some v := by exact rfl) (hb : Bin P op t x y u v r := by first | exact bin_lss | exact bin_leq | exact bin_gtr | exact bin_geq | exact bin_eql | exact bin_neq | exact bin_add_in (by omega) (by omega) | exact bin_sub_in (by omega) (by omega) | exact bin_add | exact bin_sub | exact bin_mul_in (by omega) (by omega) | exact bin_mul | exact bin_eql_bool | exact bin_neq_bool | exact bin_eql_str | exact bin_neq_str) : Y P env S o r := fun a n w hE _ => by
  have h := hb w
  simp only [execOp, ho, hE.eval hx, hE.eval hy]
  rw [Sem.run_bind, h]; rfl
theorem y_not {x : Operand} {b : Bool} {t : TypeId} (ho : o.op = .unOp .not t x := by exact rfl) (hx : opv env x = some (.bool b) := by exact rfl) : Y P env S o (.bool (!b)) := fun a n w hE _ => by simp [execOp, ho, hE.eval hx, Op.unary]
theorem y_field {ty : TypeId} {f off : Nat} {x : Operand} {g q : Nat} (ho : o.op = .fieldAddr ty x f := by exact rfl) (T : FieldTy P ty f off := by infer_instance) (hx : opv env x = some (.pointer (some ⟨g, q, none⟩)) := by exact rfl) : Y P env S o (.pointer (some ⟨g, q + off, none⟩)) := fun a n w hE _ => by
  obtain ⟨fs, hu, fd, hf, rfl, i, hi, hs⟩ := T.h
  simp [execOp, ho, hE.eval hx, Instr.fieldAt, run_underlying hu, hf, Instr.sureAddr, fieldPlace, sizeOf, typeInfo, hi, hs, Addr.add_lit]
theorem y_fieldF {ty : TypeId} {f off : Nat} {x : Operand} {ad : Addr} (ho : o.op = .fieldAddr ty x f := by exact rfl) (T : FieldTy P ty f off := by infer_instance) (hx : opv env x = some (.pointer (some ad)) := by exact rfl) : Y P env S o (.pointer (some (ad.add off))) := fun a n w hE _ => by
  obtain ⟨fs, hu, fd, hf, rfl, i, hi, hs⟩ := T.h
  simp [execOp, ho, hE.eval hx, Instr.fieldAt, run_underlying hu, hf, Instr.sureAddr, fieldPlace, sizeOf, typeInfo, hi, hs]
theorem y_index {ty e : TypeId} {sz : Nat} {x y : Operand} {A : Option Addr} {len cap : Nat} {i : Int} {kd : IntKind} (hA : (0 : Int) < (len : Int) → A = some (adr A)) (ho : o.op = .indexAddr ty x y := by exact rfl) (T : SliceTy P ty e sz := by infer_instance) (hx : opv env x = some (.slice A len cap) := by exact rfl) (hy : opv env y = some (.int kd i) := by exact rfl) (h0 : 0 ≤ i := by omega) (h1 : i < len := by omega) :
    Y P env S o (.pointer (some ((adr A).add (i.toNat * sz)))) := fun a n w hE _ => by
  obtain ⟨q, hq, hs⟩ := info_of T.h2
  have hA' := hA (by omega)
  rw [hA'] at hx
  simp [execOp, ho, hE.eval hx, hE.eval hy, Instr.indexAt, asIntOf, run_underlying T.h1, h0, h1, sizeOf, typeInfo, hq, hs]
theorem y_len {t : TypeId} {x : Operand} {ad : Option Addr} {len cap : Nat} {e sz : Nat} (ho : o.op = .call { callee := .builtin .len, args := #[x], argTypes := #[t] } := by exact rfl) (T : SliceTy P t e sz := by infer_instance) (hx : opv env x = some (.slice ad len cap) := by exact rfl) : Y P env S o (.int .i64 len) := fun a n w hE _ => by
  simp [execOp, ho, resolve, invoke, builtin, hE.eval hx, Builtin.len_, run_underlying T.h1, goInt]
theorem y_build {ty : TypeId} {zs cs cs' : List Value} {pl : List (Nat × Nat)} {ps : Array (Nat × Operand)} {vs : List (Nat × Value)} (ho : o.op = .build ty ps := by exact rfl) (Z : ZeroTy P ty zs := by infer_instance) (S' : StructTy P ty pl := by infer_instance) (hp : partsOf env ps.toList = some vs := by exact rfl) (hb : bld pl zs vs = some cs := by exact rfl) (hn : cs = cs' := by (try simp only [cellsL_agg, cellsL_int, cellsL_bool, cellsL_string, cellsL_slice, cellsL_pointer, cellsL_map, cellsL_func, cellsL_nilFunc, cellsL_iface, cellsL_nilIface, putL, List.length_cons, List.length_nil, List.take_succ_cons, List.take_zero, List.take_nil, List.drop_succ_cons, List.drop_zero, List.drop_nil, List.nil_append, List.cons_append, List.append_nil, Nat.reduceAdd, Nat.add_zero, Nat.zero_add]); first | done | rfl) : Y P env S o (.agg cs'.toArray) := fun a n w hE _ => by
  subst hn
  have hm : (ps.map fun (i, x) => (i, a.eval x)) = vs.toArray := by
    have := hE.parts hp
    apply Array.toList_inj.1
    simpa using this
  have hr := run_build (P := P) (w := w) (ty := ty) (ps := vs.toArray) hb
  simp only [execOp, ho, hm]
  rw [Sem.run_bind, hr]; rfl
inductive GMem : (Nat × List Value × TypeId) → List (Nat × List Value × TypeId) → Prop
  | here {p : Nat × List Value × TypeId} {G : List (Nat × List Value × TypeId)} : GMem p (p :: G)
  | there {p q : Nat × List Value × TypeId} {G : List (Nat × List Value × TypeId)} (h : GMem p G) : GMem p (q :: G)
theorem GMem.mem {p : Nat × List Value × TypeId} (h : GMem p G) : p ∈ G := by
  induction h with
  | here => exact List.mem_cons_self
  | there _ ih => exact List.mem_cons_of_mem _ ih
theorem y_load {ty : TypeId} {x : Operand} {g off : Nat} {cs : List Value} {t : TypeId} {v : Value} (ho : o.op = .load ty x := by exact rfl) (T : TyInfo P ty false 1 := by infer_instance) (hx : opv env x = some (.pointer (some ⟨g, off, none⟩)) := by exact rfl) (hp : GMem (g, cs, t) G := by repeat (first | exact GMem.here | apply GMem.there)) (hv : cs[off]? = some v := by exact rfl) : Y P env (SS w0 G) o v := fun a n w hE hSS => by
  have hlt : off < cs.length := (List.getElem?_eq_some_iff.1 hv).1
  have e : cs.drop off = v :: cs.drop (off + 1) := by rw [← (List.getElem?_eq_some_iff.1 hv).2]; exact List.drop_eq_getElem_cons hlt
  have h := run_loadAt (P := P) (ty := ty) (us := [v]) (at_blk (off := off) (hSS.2 _ hp.mem)) (by rw [e]; rfl) rfl (fun _ => rfl)
  simp only [execOp, ho, hE.eval hx]
  rw [Sem.run_bind, h]; rfl
theorem y_loadA {ty m : TypeId} {x : Operand} {g off : Nat} {cs us : List Value} {t : TypeId} (ho : o.op = .load ty x := by exact rfl) (T : TyInfo P ty true m := by infer_instance) (hx : opv env x = some (.pointer (some ⟨g, off, none⟩)) := by exact rfl) (hp : GMem (g, cs, t) G := by repeat (first | exact GMem.here | apply GMem.there)) (hv : (cs.drop off).take m = us := by (try simp only [cellsL_agg, cellsL_int, cellsL_bool, cellsL_string, cellsL_slice, cellsL_pointer, cellsL_map, cellsL_func, cellsL_nilFunc, cellsL_iface, cellsL_nilIface, putL, List.length_cons, List.length_nil, List.take_succ_cons, List.take_zero, List.take_nil, List.drop_succ_cons, List.drop_zero, List.drop_nil, List.nil_append, List.cons_append, List.append_nil, Nat.reduceAdd, Nat.add_zero, Nat.zero_add]); first | done | rfl) (hm : us.length = m := by exact rfl) : Y P env (SS w0 G) o (.agg us.toArray) := fun a n w hE hSS => by
  have h := run_loadAt (P := P) (ty := ty) (at_blk (off := off) (hSS.2 _ hp.mem)) hv hm (fun h => by cases h)
  simp only [execOp, ho, hE.eval hx]
  rw [Sem.run_bind, h]; rfl
theorem At.below {ad : Addr} {vs : List Value} (h : At w0 ad vs) (hb : Below w0.heap.size w0 w) : At w ad vs := fun j v hv => (hb.cell (World.block_lt_of_cell? w0 _ (h j v hv))).trans (h j v hv)
theorem y_load0 {ty : TypeId} {x : Operand} {ad : Addr} {v : Value} {vs : List Value} (hA : At w0 ad (v :: vs)) (ho : o.op = .load ty x := by exact rfl) (T : TyInfo P ty false 1 := by infer_instance) (hx : opv env x = some (.pointer (some ad)) := by exact rfl) : Y P env (SS w0 G) o v := fun a n w hE hSS => by
  have h := run_loadAt (P := P) (ty := ty) (us := [v]) (hA.below hSS.1) rfl rfl (fun _ => rfl)
  simp only [execOp, ho, hE.eval hx]
  rw [Sem.run_bind, h]; rfl
theorem y_loadA0 {ty m : TypeId} {x : Operand} {ad : Addr} {vs us : List Value} (hA : At w0 ad vs) (ho : o.op = .load ty x := by exact rfl) (T : TyInfo P ty true m := by infer_instance) (hx : opv env x = some (.pointer (some ad)) := by exact rfl) (hv : vs.take m = us := by (try simp only [cellsL_agg, cellsL_int, cellsL_bool, cellsL_string, cellsL_slice, cellsL_pointer, cellsL_map, cellsL_func, cellsL_nilFunc, cellsL_iface, cellsL_nilIface, putL, List.length_cons, List.length_nil, List.take_succ_cons, List.take_zero, List.take_nil, List.drop_succ_cons, List.drop_zero, List.drop_nil, List.nil_append, List.cons_append, List.append_nil, Nat.reduceAdd, Nat.add_zero, Nat.zero_add]); first | done | rfl) (hm : us.length = m := by exact rfl) : Y P env (SS w0 G) o (.agg us.toArray) := fun a n w hE hSS => by
  have h := run_loadAt (P := P) (ty := ty) (hA.below hSS.1) hv hm (fun h => by cases h)
  simp only [execOp, ho, hE.eval hx]
  rw [Sem.run_bind, h]; rfl

theorem rg_guard (id : Nat) (h : (Code.region id ops true).wp P Q a w) : (Code.region id ops true).wp P Q a w := h
/-- The beginning. -/
theorem rg_start {id : Nat} (ts : List Nat) (hE : Env a n env) (hS : Sep w0 w L) (h : ∀ w', Sep w0 w' L → SS w0 G w' → wpAnyH P .any ops Q (SS w0 G) ops.size (Array.replicate ops.size false) a w')
    (hG : Gt env L ts G := by repeat (first | exact Gt.nil | (apply Gt.cons; exact rfl; (focus ((repeat (first | exact Pull.here | apply Pull.there)); done))) | apply Gt.skip)) (M : Mixed P := by infer_instance) : (Code.region id ops true).wp P Q a w :=
  wp_region_held (S := SS w0 G) M.h (h _ hS.drew (SS.of hS.drew hG.gin))
/-- Operation i only yields: first. -/
theorem rg_y (i : Nat) {v : Value} {d : Tmp} (hE : Env a n env) (hX : SS w0 G w) (hy : Y P env (SS w0 G) o v) (k : ∀ a', Env a' n ((d, v) :: env) → wpAnyH P .any ops Q (SS w0 G) fuel (listed.setIfInBounds i true) a' w) (hi : ops[i]? = some o)
    (hg : guardIs ops env o = some true) (hd : o.dst = some d) (hlt : Nat.blt d n = true) (hs : Region.noSelect ops = true := by kernel_rfl) (hf : Region.free .any ops listed i = true := by kernel_rfl) (hr : (Region.ready .any ops listed).contains i = true := by kernel_rfl)
    (hQ : ∀ c a w, Q (.panic c) (a.put o.dst v) w → Q (.panic c) a w := by intro _ _ _ h; with_unfolding_all exact h) : wpAnyH P .any ops Q (SS w0 G) (fuel + 1) listed a w :=
  wpAnyH_take hi hs hf hr hQ (.inl ⟨hE.guard hg, fun w' hw' => hy a n w' hE hw'⟩) hX (k _ (hE.putS v hd hlt))
theorem rg_n (i : Nat) {d : Tmp} (hE : Env a n env) (hX : SS w0 G w) (k : ∀ a', Env a' n ((d, undef) :: env) → wpAnyH P .any ops Q (SS w0 G) fuel (listed.setIfInBounds i true) a' w) (hi : ops[i]? = some o)
    (hg : guardIs ops env o = some false) (hd : o.dst = some d) (hlt : Nat.blt d n = true) (hs : Region.noSelect ops = true := by kernel_rfl) (hf : Region.free .any ops listed i = true := by kernel_rfl) (hr : (Region.ready .any ops listed).contains i = true := by kernel_rfl)
    (hQ : ∀ c a w, Q (.panic c) (a.put o.dst undef) w → Q (.panic c) a w := by intro _ _ _ h; with_unfolding_all exact h) : wpAnyH P .any ops Q (SS w0 G) (fuel + 1) listed a w :=
  wpAnyH_take hi hs hf hr hQ (.inr ⟨hE.guard hg, rfl⟩) hX (k _ (hE.putS undef hd hlt))
/-- Operation i is the only one that may come up. -/
theorem rg_e (i : Nat) (hE : Env a n env) (hi : ops[i]? = some o) (hg : guardIs ops env o = some true) (hr : Region.ready .any ops listed = [i])
    (h : ∀ K : Act → World → Prop, (∀ a' w', SS w0 G w' → wpAnyH P .any ops Q (SS w0 G) fuel (listed.setIfInBounds i true) a' w' → K a' w') → o.wp P a w K Q) : wpAnyH P .any ops Q (SS w0 G) (fuel + 1) listed a w :=
  wpAnyH_all hr (by simp) fun j hj => by
    obtain rfl := List.mem_singleton.1 hj
    exact wpOp_step hi fun K hK => by rw [if_pos (hE.guard hg)]; exact h K (fun a' w' h1 h2 => hK a' w' ⟨h1, h2⟩)
theorem rg_es (i : Nat) {d : Tmp} (hE : Env a n env) (hX : SS w0 G w) (hi : ops[i]? = some o) (hg : guardIs ops env o = some false) (hd : o.dst = some d) (hlt : Nat.blt d n = true) (hr : Region.ready .any ops listed = [i])
    (k : ∀ a', Env a' n ((d, undef) :: env) → wpAnyH P .any ops Q (SS w0 G) fuel (listed.setIfInBounds i true) a' w) : wpAnyH P .any ops Q (SS w0 G) (fuel + 1) listed a w :=
  wpAnyH_all hr (by simp) fun j hj => by
    obtain rfl := List.mem_singleton.1 hj
    exact wpOp_step hi fun K hK => by rw [if_neg (by rw [hE.guard hg]; simp)]; exact hK _ _ ⟨hX, k _ (hE.putS undef hd hlt)⟩
theorem rg_e2 (i j : Nat) (hr : Region.ready .any ops listed = [i, j])
    (h1 : ∀ K : Act → World → Prop, (∀ a' w', SS w0 G w' → wpAnyH P .any ops Q (SS w0 G) fuel (listed.setIfInBounds i true) a' w' → K a' w') → wpOp P ops Q i K a w)
    (h2 : ∀ K : Act → World → Prop, (∀ a' w', SS w0 G w' → wpAnyH P .any ops Q (SS w0 G) fuel (listed.setIfInBounds j true) a' w' → K a' w') → wpOp P ops Q j K a w) : wpAnyH P .any ops Q (SS w0 G) (fuel + 1) listed a w :=
  wpAnyH_all hr (by simp) fun q hq => by
    rcases List.mem_cons.1 hq with rfl | hq
    · exact h1 _ (fun a' w' h1 h2 => ⟨h1, h2⟩)
    · obtain rfl := List.mem_singleton.1 hq
      exact h2 _ (fun a' w' h1 h2 => ⟨h1, h2⟩)
theorem rg_op {i : Nat} {K : Act → World → Prop} (hE : Env a n env) (hi : ops[i]? = some o) (hg : guardIs ops env o = some true) (h : o.wp P a w K Q) : wpOp P ops Q i K a w := by
  unfold wpOp
  simp only [hi]
  rw [if_pos (hE.guard hg)]
  exact .inl h
theorem rg_k {K : Act → World → Prop} (hK : ∀ a' w', SS w0 G w' → wpAnyH P .any ops Q (SS w0 G) fuel listed a' w' → K a' w') (hS : Sep w0 w L) (h : SS w0 G w → wpAnyH P .any ops Q (SS w0 G) fuel listed a w)
    (hG : GIn G L := by repeat (first | exact GIn.nil | (apply GIn.cons; (repeat (first | exact Pull.here | apply Pull.there))))) : K a w :=
  hK a w (SS.of hS hG) (h (SS.of hS hG))
theorem rg_done (h : Q .normal a w) (hr : Region.ready .any ops listed = []) : wpAnyH P .any ops Q S fuel listed a w := wpAnyH_done hr h fuel
theorem rg_split (hE : Env a n env) (t : Nat) {b : Bool} (hf : find env t = some (.bool b)) (ht : b = true → Env a n ((t, .bool true) :: env) → wpAnyH P .any ops Q S fuel listed a w) (hn : b = false → Env a n ((t, .bool false) :: env) → wpAnyH P .any ops Q S fuel listed a w) : wpAnyH P .any ops Q S fuel listed a w := by
  cases b with
  | true => exact ht rfl (hE.know hf rfl)
  | false => exact hn rfl (hE.know hf rfl)
end
end Go.Sx
/- DERIVED. append, slices of slices and of strings, min, max. No condition. -/
namespace Go.Sx
open Go.RowKit
set_option linter.unusedVariables false
set_option linter.unusedSimpArgs false
class AppTy (P : Program) (t : TypeId) (e : outParam TypeId) (sz : outParam Nat) : Prop where
  h1 : P.underlying t = some (.slice e)
  h2 : (P.info? e).map (fun i => (i.zero.map (fun z => z.cells.size), i.size, Nat.ble i.bytes 4096)) = some (some sz, sz, true)
  h3 : sz ≠ 0
section
variable {P : Program} {w w0 : World}
/-- What is appended to an owned row: the row that comes of it is the same block or a new one. -/
theorem run_app5 {t ty e : TypeId} {sz : Nat} [T : AppTy P t e sz] {v : Value} {n : Nat} {xs : List Value} (hown : oRow w 0 e sz v n xs) {B : Option Addr} {m c : Nat} {news : List Value} (hl : news.length = m * sz) (hnews : Rd w B news) (h1 : ∀ u ∈ news, u.oneCell' = true) (hb : n + m ≤ 1073741824) :
    ∃ A' c' w', (Builtin.append_ #[t, t] ty #[v, .slice B m c]).run P w = .ok (.slice A' (n + m) c') w' ∧ oRow w' 0 e sz (.slice A' (n + m) c') (n + m) (xs ++ news) ∧ w.grownBy w' v.ownBlock ∧
      ((Value.slice A' (n + m) c').ownBlock = none ∨ (Value.slice A' (n + m) c').ownBlock = v.ownBlock ∨ ∃ b, (Value.slice A' (n + m) c').ownBlock = some b ∧ w.heap.size ≤ b) ∧ ∀ A c2, v = .slice A n c2 → n + m ≤ c2 → A' = A ∧ c' = c2 := by
  have ht := T.h1
  have h2 := T.h2
  have h3 := T.h3
  cases hi : P.info? e with
  | none => rw [hi] at h2; simp at h2
  | some i =>
  rw [hi] at h2
  simp only [Option.map_some, Option.some.injEq, Prod.mk.injEq] at h2
  obtain ⟨hz', hsz, hby⟩ := h2
  have hby : i.bytes ≤ 4096 := Nat.le_of_ble_eq_true hby
  cases hz : i.zero with
  | none => rw [hz] at hz'; simp at hz'
  | some z =>
  rw [hz] at hz'
  simp only [Option.map_some, Option.some.injEq] at hz'
  subst hsz
  have hmax : n + m ≤ maxLen := by simp only [maxLen]; omega
  have hlen : (xs ++ news).length = (n + m) * i.size := by rw [List.length_append, hown.1, hl, Nat.add_mul]
  have hbytes : (n + m) * i.bytes ≤ 140737488355328 := Nat.le_trans (Nat.mul_le_mul hb hby) (by decide)
  by_cases hm : m = 0
  · subst hm
    have hn : news = [] := List.eq_nil_of_length_eq_zero (by simpa using hl)
    subst hn
    rcases hown.2 with ⟨rfl, rfl⟩ | ⟨g, cap, cur, rfl, hbg, hg, hnc, hcm, hcs, htake⟩
    · refine ⟨none, 0, w, ?_, ?_, ⟨rfl, rfl, rfl, Nat.le_refl _, fun _ _ _ => rfl⟩, .inl rfl, fun A c2 e _ => by cases e; exact ⟨rfl, rfl⟩⟩
      · have e0 : (Builtin.firstCells i.size 0 (.slice B 0 c)).run P w = .ok #[] w := by cases B <;> simp [Builtin.firstCells, loadCells, loadCellsFrom]
        cases B <;> simp [Builtin.append_, run_underlying ht, sizeOf, typeInfo, hi, Builtin.lenOf, Builtin.firstCells, loadCells, loadCellsFrom, e0]
      · simpa using hown
    · refine ⟨_, cap, w, ?_, by simpa using hown, ⟨rfl, rfl, rfl, Nat.le_refl _, fun _ _ _ => rfl⟩, .inr (.inl rfl), fun A c2 e _ => by cases e; exact ⟨rfl, rfl⟩⟩
      have e0 : (Builtin.firstCells i.size 0 (.slice B 0 c)).run P w = .ok #[] w := by cases B <;> simp [Builtin.firstCells, loadCells, loadCellsFrom]
      simp [Builtin.append_, run_underlying ht, sizeOf, typeInfo, hi, Builtin.lenOf, hnc, e0, storeCells]
  · have hpos : 0 < news.length := by rw [hl]; exact Nat.mul_pos (Nat.pos_of_ne_zero hm) (Nat.pos_of_ne_zero h3)
    have hB := hnews.some hpos
    have hn' : ∀ j u, news[j]? = some u → w.cell? ((adr B).add j) = some u := hnews.at_
    rw [hB]
    have grown : ∀ (old : Nat), old < n + m → ∀ (row : Option Nat),
        oRow (w.drew.alloc (.cells (xs.toArray ++ news.toArray ++ Builtin.zeroCells z.cells (grownCap w (n + m) old e - (n + m))) e)) 0 e i.size
          (.slice (some ⟨w.heap.size, 0, none⟩) (n + m) (grownCap w (n + m) old e)) (n + m) (xs ++ news) ∧
        w.grownBy (w.drew.alloc (.cells (xs.toArray ++ news.toArray ++ Builtin.zeroCells z.cells (grownCap w (n + m) old e - (n + m))) e)) row := by
      intro old ho row
      have hge := grownCap_ge w (n + m) old e
      have hcm : grownCap w (n + m) old e ≤ maxLen := grownCap_le_maxLen w (n + m) old e hmax
      refine ⟨⟨hlen, .inr ⟨w.heap.size, _, _, rfl, Nat.zero_le _, heap_alloc_new w.drew _, hge, hcm, ?_, ?_⟩⟩, ⟨rfl, rfl, rfl, by simp, fun k hk _ => by first | exact Go.heap_alloc_old w.drew _ k hk | exact heap_alloc_old w.drew _ hk⟩⟩
      · simp only [Array.size_append, List.size_toArray, size_zeroCells, hz', hown.1, hl, ← Nat.add_mul]
        refine Nat.mul_le_mul_right _ ?_
        omega
      · simp only [Array.toList_append, List.append_assoc]
        rw [← List.append_assoc, ← hlen]
        exact List.take_left
    rcases hown.2 with ⟨rfl, rfl⟩ | ⟨g, cap, cur, rfl, hbg, hg, hnc, hcm, hcs, htake⟩
    · have hx : xs = [] := List.eq_nil_of_length_eq_zero (by simpa using hown.1)
      subst hx
      have hr := run_append_nil (P := P) w t ty e i z ht hi hz (adr B) m c news hl hn' (by omega) (by omega) (by have := hbytes; simp only [Nat.zero_add] at this; omega)
      have hgr := grown 0 (by omega) (Value.ownBlock (.slice none 0 0))
      simp only [Nat.zero_add, List.nil_append, Array.empty_append] at hgr ⊢
      exact ⟨_, _, _, hr, hgr.1, hgr.2, .inr (.inr ⟨_, rfl, Nat.le_refl _⟩), fun A c2 e h => by cases e; omega⟩
    · by_cases hroom : n + m ≤ cap
      · have hfit : n * i.size + news.length ≤ cur.size := Nat.le_trans (by rw [hl, ← Nat.add_mul]; exact Nat.mul_le_mul_right _ hroom) hcs
        have hr := run_append_room (P := P) w t ty e i ht hi g n cap cur hg (adr B) m c news hl hn' h1 hroom hfit
        refine ⟨_, _, _, hr, ⟨hlen, .inr ⟨g, cap, _, rfl, hbg, setRow_heap w g cur _ e _ hg, hroom, hcm, ?_, ?_⟩⟩, ⟨rfl, rfl, rfl, by simp, fun k _ hk => setRow_other w g k _ (fun e => hk (by simp [Value.ownBlock, e]))⟩, .inr (.inl rfl), fun A c2 e _ => by cases e; exact ⟨rfl, rfl⟩⟩
        · simp only [List.size_toArray, List.length_append, List.length_take, List.length_drop, Array.length_toList]
          omega
        · rw [htake, ← hlen]
          exact List.take_left
      · have holds : ∀ j u, xs[j]? = some u → w.cell? ((⟨g, 0, none⟩ : Addr).add j) = some u := hown.cells (g := g) rfl
        have hr := run_append_grow (P := P) w t ty e i z ht hi hz ⟨g, 0, none⟩ n cap xs hown.1 holds (adr B) m c news hl hn' (by omega) (by omega) (growslice_fits (by omega) hbytes)
        have hgr := grown cap (by omega) (Value.ownBlock (.slice (some ⟨g, 0, none⟩) n cap))
        exact ⟨_, _, _, hr, hgr.1, hgr.2, .inr (.inr ⟨_, rfl, Nat.le_refl _⟩), fun A c2 e h => by cases e; exact absurd h hroom⟩
theorem run_app {t ty e : TypeId} {sz : Nat} [T : AppTy P t e sz] {v : Value} {n : Nat} {xs : List Value} (hown : oRow w 0 e sz v n xs) {B : Option Addr} {m c : Nat} {news : List Value} (hl : news.length = m * sz) (hnews : Rd w B news) (h1 : ∀ u ∈ news, u.oneCell' = true) (hb : n + m ≤ 1073741824) :
    ∃ A' c' w', (Builtin.append_ #[t, t] ty #[v, .slice B m c]).run P w = .ok (.slice A' (n + m) c') w' ∧ oRow w' 0 e sz (.slice A' (n + m) c') (n + m) (xs ++ news) ∧ w.grownBy w' v.ownBlock ∧
      ((Value.slice A' (n + m) c').ownBlock = none ∨ (Value.slice A' (n + m) c').ownBlock = v.ownBlock ∨ ∃ b, (Value.slice A' (n + m) c').ownBlock = some b ∧ w.heap.size ≤ b) := by
  obtain ⟨A', c', w', a1, a2, a3, a4, _⟩ := run_app5 (P := P) (t := t) (ty := ty) hown (c := c) hl hnews h1 hb
  exact ⟨A', c', w', a1, a2, a3, a4⟩
/-- A row reads as its cells. -/
theorem Rd.row {L L' : List Asn} {e : TypeId} {sz n c : Nat} {A : Option Addr} {xs : List Value} (hS : Sep w0 w L) (hp : Pull (row e sz (.slice A n c) n xs) L L' := by repeat (first | exact Pull.here | apply Pull.there)) : Rd w A xs := by
  have h := hS.row_at hp
  intro j u hj
  rcases h.2 with ⟨hv, rfl⟩ | ⟨g, cap, cur, hv, _, hg, _, _, _, htake⟩
  · have hx : xs = [] := List.eq_nil_of_length_eq_zero (by simpa using h.1)
    subst hx
    cases hj
  · cases hv
    exact ⟨_, rfl, h.cells rfl j u hj⟩
theorem Rd.take {A : Option Addr} {cells : List Value} (h : Rd w A cells) (k : Nat) : Rd w A (cells.take k) := fun j u hj => by
  rw [List.getElem?_take] at hj
  split at hj
  · exact h j u hj
  · cases hj
theorem Rd.nil {A : Option Addr} : Rd w A [] := fun j u hj => by cases hj
theorem At.pre {ad : Addr} {xs ys : List Value} (h : At w ad (xs ++ ys)) : At w ad xs := fun j u hj => h j u (by rw [List.getElem?_append_left (List.getElem?_eq_some_iff.1 hj).1]; exact hj)
theorem flat_at {α : Type} {f : α → List Value} {sz : Nat} (hf : ∀ x, (f x).length = sz) {ad : Addr} {l : List α} (h : At w ad (l.flatMap f)) (i : Int) (h0 : 0 ≤ i) (h1 : i < (l.length : Int)) (df : α) : At w (ad.add (i.toNat * sz)) (f (l.getD i.toNat df)) := by
  obtain ⟨k, rfl⟩ := Int.eq_ofNat_of_zero_le h0
  simp only [Int.ofNat_eq_natCast, Int.toNat_natCast]
  have hk : k < l.length := by simpa using h1
  have e : l = l.take k ++ (l[k] :: l.drop (k + 1)) := by rw [← List.drop_eq_getElem_cons hk, List.take_append_drop]
  have hlen : ((l.take k).flatMap f).length = k * sz := by
    have : ∀ (q : List α), (q.flatMap f).length = q.length * sz := fun q => by
      induction q with
      | nil => simp
      | cons x q ih => simp only [List.flatMap_cons, List.length_append, List.length_cons, hf, ih, Nat.add_mul]; omega
    rw [this, List.length_take, Nat.min_eq_left (Nat.le_of_lt hk)]
  have hg : l.getD k df = l[k] := by simp [hk]
  rw [hg]
  intro j u hj
  have hjs : j < sz := by have := (List.getElem?_eq_some_iff.1 hj).1; rwa [hf] at this
  have e2 : (l.flatMap f)[k * sz + j]? = some u := by
    rw [e, List.flatMap_append, List.getElem?_append_right (by omega), hlen, List.flatMap_cons, List.getElem?_append_left (by rw [hf]; omega), show k * sz + j - k * sz = j by omega]
    exact hj
  have := h _ _ e2
  rwa [← Addr.add_add] at this
theorem Sep.only {L L' : List Asn} {x : Asn} (hS : Sep w0 w L) (hp : Pull x L L' := by repeat (first | exact Pull.here | apply Pull.there)) : Sep w0 w [x] := by
  obtain ⟨F, ⟨F1, F2, hF, hd, hA, hL⟩, hr⟩ := (hS.pull hp).own
  exact ⟨hS.below, F1, ⟨F1, fun _ => False, fun k => by simp, fun _ _ h => h, hA, fun _ h => h⟩, fun k hk => hr k ((hF k).2 (.inl hk))⟩
theorem ints_one (xs : List Int) : ∀ u ∈ ints xs, u.oneCell' = true := fun u hu => by
  obtain ⟨_, _, rfl⟩ := List.mem_map.1 hu
  rfl
theorem ints_take (xs : List Int) (k : Nat) : (ints xs).take k = ints (xs.take k) := by simp [ints]
end
section
variable {P : Program} {o : Oper} {a : Act} {w w0 : World} {Q : Exit → Act → World → Prop} {n : Nat} {env : List (Nat × Value)} {L L' : List Asn} {K : Act → World → Prop}
theorem qap {s x : Operand} {t e : TypeId} {sz k c m c2 N : Nat} {A B : Option Addr} {xs news ys : List Value} {d : Tmp} (hE : Env a n env) (hS : Sep w0 w L) (hnews : Rd w B news) (h1 : ∀ u ∈ news, u.oneCell' = true)
    (kk : ∀ A' c' a' w', Env a' n ((d, .slice A' N c') :: env) → Sep w0 w' (row e sz (.slice A' N c') N ys :: L') → K a' w')
    (ho : o.op = .call { callee := .builtin .append, args := #[s, x], argTypes := #[t, t] } := by exact rfl) (T : AppTy P t e sz := by infer_instance) (hs : opv env s = some (.slice A k c) := by exact rfl) (hx : opv env x = some (.slice B m c2) := by exact rfl)
    (hp : Pull (row e sz (.slice A k c) k xs) L L' := by repeat (first | exact Pull.here | apply Pull.there))
    (hl : news.length = m * sz := by first | rfl | (simp [ints]; done) | (simp [ints]; omega)) (hN : k + m = N := by first | omega | (simp only [List.length_take, List.length_append, List.length_cons, List.length_nil]; omega)) (hb : N ≤ 1073741824 := by first | omega | (simp only [List.length_take, List.length_append, List.length_cons, List.length_nil]; omega))
    (hY : xs ++ news = ys := by first | rfl | exact List.nil_append _ | exact ints_append _ _) (hd : o.dst = some d := by exact rfl) (hlt : Nat.blt d n = true := by exact rfl) : o.wp P a w K Q := by
  subst hN
  subst hY
  obtain ⟨A', c', w', hr, hw, hg, hat⟩ := run_app (P := P) (t := t) (ty := o.type) (hS.row_at hp) (c := c2) hl hnews h1 hb
  unfold Oper.wp execOp
  simp only [ho, resolve, invoke, builtin, Sem.run_bind, Sem.run_pure, Result.andThen_ok, List.map_toArray, List.map_cons, List.map_nil, hE.eval hs, hE.eval hx, hr]
  exact kk A' c' _ w' (hE.putS _ hd hlt) (Sep.grow (hS.pull hp) hw hg hat)
/-- append, where there is room. -/
theorem qapR {s x : Operand} {t e : TypeId} {sz k c m c2 N : Nat} {A B : Option Addr} {xs news ys : List Value} {d : Tmp} (hE : Env a n env) (hS : Sep w0 w L) (hnews : Rd w B news) (h1 : ∀ u ∈ news, u.oneCell' = true)
    (kk : ∀ a' w', Env a' n ((d, .slice A N c) :: env) → Sep w0 w' (row e sz (.slice A N c) N ys :: L') → K a' w')
    (ho : o.op = .call { callee := .builtin .append, args := #[s, x], argTypes := #[t, t] } := by exact rfl) (T : AppTy P t e sz := by infer_instance) (hs : opv env s = some (.slice A k c) := by exact rfl) (hx : opv env x = some (.slice B m c2) := by exact rfl)
    (hp : Pull (row e sz (.slice A k c) k xs) L L' := by repeat (first | exact Pull.here | apply Pull.there))
    (hl : news.length = m * sz := by first | rfl | (simp [ints]; done) | (simp [ints]; omega)) (hN : k + m = N := by omega) (hb : N ≤ 1073741824 := by omega) (hfit : N ≤ c := by omega)
    (hY : xs ++ news = ys := by first | rfl | exact List.nil_append _ | exact ints_append _ _) (hd : o.dst = some d := by exact rfl) (hlt : Nat.blt d n = true := by exact rfl) : o.wp P a w K Q := by
  subst hN
  subst hY
  obtain ⟨A', c', w', hr, hw, hg, hat, hin⟩ := run_app5 (P := P) (t := t) (ty := o.type) (hS.row_at hp) (c := c2) hl hnews h1 hb
  obtain ⟨rfl, rfl⟩ := hin A c rfl hfit
  unfold Oper.wp execOp
  simp only [ho, resolve, invoke, builtin, Sem.run_bind, Sem.run_pure, Result.andThen_ok, List.map_toArray, List.map_cons, List.map_nil, hE.eval hs, hE.eval hx, hr]
  exact kk _ w' (hE.putS _ hd hlt) (Sep.grow (hS.pull hp) hw hg hat)
theorem qmin {x y : Operand} {kd k' : IntKind} {i j : Int} {ts : Array TypeId} {d : Tmp} (hE : Env a n env) (k : ∀ a', Env a' n ((d, .int kd (min i j)) :: env) → K a' w) (ho : o.op = .call { callee := .builtin .min, args := #[x, y], argTypes := ts } := by exact rfl) (hx : opv env x = some (.int kd i) := by exact rfl) (hy : opv env y = some (.int k' j) := by exact rfl) (hd : o.dst = some d := by exact rfl) (hlt : Nat.blt d n = true := by exact rfl) : o.wp P a w K Q := by
  have e : (if j < i then j else i) = min i j := by omega
  unfold Oper.wp execOp
  simp only [ho, resolve, invoke, builtin, Sem.run_bind, Sem.run_pure, Result.andThen_ok, List.map_toArray, List.map_cons, List.map_nil, hE.eval hx, hE.eval hy, run_min_int2, e]
  exact k _ (hE.putS _ hd hlt)
theorem elem_of {t e : TypeId} (h : P.underlying t = some (.slice e)) : P.underlying t = some (.slice (P.elem t)) := by simp [Program.elem, h]
/-- x[:h]. -/
theorem qsh {t e : TypeId} {sz : Nat} {x y : Operand} {A : Option Addr} {len cap : Nat} {kd : IntKind} {h : Int} (q : Nat) {d : Tmp} (hE : Env a n env) (k : ∀ a', Env a' n ((d, .slice A q cap) :: env) → K a' w)
    (ho : o.op = .slice t x none (some y) none := by exact rfl) (T : SliceTy P t e sz := by infer_instance) (hx : opv env x = some (.slice A len cap) := by exact rfl) (hy : opv env y = some (.int kd h) := by exact rfl) (hq : h = (q : Int) := by first | omega | (simp only [List.length_take]; omega)) (hc : q ≤ cap := by first | omega | (simp only [List.length_take]; omega)) (hd : o.dst = some d := by exact rfl) (hlt : Nat.blt d n = true := by exact rfl) : o.wp P a w K Q := by
  subst hq
  obtain ⟨i, hi, hs⟩ := info_of T.h2
  have e1 := T.h1
  have he : P.elem t = e := by simp [Program.elem, e1]
  have hsi : (sizeOf (P.elem t)).run P w = .ok i.size w := by rw [he]; simp [sizeOf, typeInfo, hi]
  have e2 : (if cap = 0 then A else A.map fun b => b.add (0 * i.size)) = A := by cases A <;> simp [Addr.add]
  unfold Oper.wp execOp
  simp only [ho, Option.map_some, Option.map_none, hE.eval hx, hE.eval hy]
  have hr := run_slice_h (P := P) w t A len cap (elem_of T.h1) kd (q : Int) (by omega) (by omega)
  simp only [Sem.run_bind, hr, hsi, Result.andThen_ok, sliced, e2, Nat.sub_zero, Int.toNat_natCast, Sem.run_pure, run_sliceAt_slice w t _ _ _ _ (elem_of T.h1)]
  exact k _ (hE.putS _ hd hlt)
theorem qLs {α : Type} {f : α → List Value} {l : List α} {df : α} {ty m : TypeId} {x : Operand} {ad : Addr} {i : Int} {us : List Value} {d : Tmp} (hE : Env a n env) (hS : Sep w0 w L) (hf : ∀ x, (f x).length = m) (hA : At w0 ad (l.flatMap f)) (hus : f (l.getD i.toNat df) = us) (k : ∀ a', Env a' n ((d, .agg us.toArray) :: env) → K a' w)
    (ho : o.op = .load ty x := by exact rfl) (T : TyInfo P ty true m := by infer_instance) (hx : opv env x = some (.pointer (some (ad.add (i.toNat * m)))) := by exact rfl) (h0 : 0 ≤ i := by omega) (h1 : i < (l.length : Int) := by omega) (hd : o.dst = some d := by exact rfl) (hlt : Nat.blt d n = true := by exact rfl) : o.wp P a w K Q := by
  subst hus
  exact q00 hE hS (flat_at hf hA i h0 h1 df) k ho T hx (by rw [List.take_of_length_le (by rw [hf]; exact Nat.le_refl _)]) (hf _) hd hlt
theorem y_load0i {G : List (Nat × List Value × TypeId)} {ty : TypeId} {x : Operand} {ad : Addr} {xs : List Int} {i : Int} (hA : At w0 ad (ints xs)) (ho : o.op = .load ty x := by exact rfl) (T : TyInfo P ty false 1 := by infer_instance) (hx : opv env x = some (.pointer (some (ad.add (i.toNat * 1)))) := by exact rfl) (h0 : 0 ≤ i := by omega) (h1 : i < (xs.length : Int) := by omega) : Y P env (SS w0 G) o (.int .i64 (xs.getD i.toNat 0)) := y_load0 (ints_at hA i h0 h1) ho T hx
/-- s[:h] of a string. -/
theorem qssh {t : TypeId} {x y : Operand} {s : ByteArray} {kd : IntKind} {h : Int} {d : Tmp} (hE : Env a n env) (k : ∀ a', Env a' n ((d, .string (s.extract 0 h.toNat)) :: env) → K a' w)
    (ho : o.op = .slice t x none (some y) none := by exact rfl) (T : StrTy P t := by infer_instance) (hx : opv env x = some (.string s) := by exact rfl) (hy : opv env y = some (.int kd h) := by exact rfl) (h0 : 0 ≤ h := by omega) (h1 : h ≤ (s.size : Int) := by omega) (hd : o.dst = some d := by exact rfl) (hlt : Nat.blt d n = true := by exact rfl) : o.wp P a w K Q := by
  unfold Oper.wp execOp
  simp only [ho, Option.map_some, Option.map_none, hE.eval hx, hE.eval hy]
  simp only [Sem.run_bind, run_sliceAt_string w t _ _ _ _ T.h, run_slice_string_h (P := P) w t s T.h kd h h0 h1, Result.andThen_ok, Sem.run_pure]
  exact k _ (hE.putS _ hd hlt)
end
end Go.Sx
/- DERIVED. What a value that can be read as data is, kind by kind: for the rows of laws whose parameters are structs and slices. No condition. -/
namespace Go.Sx
open Go.RowKit
set_option linter.unusedVariables false
set_option linter.unusedSimpArgs false
/-- A kind: which cells a value has, in this world. -/
structure Kn (α : Type) where
  sz : Nat
  K : World → α → List Value → Prop
  len : ∀ {w : World} {a : α} {cs : List Value}, K w a cs → cs.length = sz
def Kn.int (k : IntKind) : Kn Int := ⟨1, fun _ n cs => cs = [.int k n], fun h => by rw [h]; rfl⟩
def Kn.bool : Kn Bool := ⟨1, fun _ b cs => cs = [.bool b], fun h => by rw [h]; rfl⟩
def Kn.string : Kn ByteArray := ⟨1, fun _ s cs => cs = [.string s], fun h => by rw [h]; rfl⟩
def Kn.pair {α β : Type} (d : Kn α) (e : Kn β) : Kn (α × β) := ⟨d.sz + e.sz, fun w x cs => ∃ a b, cs = a ++ b ∧ d.K w x.1 a ∧ e.K w x.2 b, fun ⟨a, b, h, ha, hb⟩ => by rw [h, List.length_append, d.len ha, e.len hb]⟩
/-- The elements' cells, in line. -/
def Kn.Rows {α : Type} (d : Kn α) (w : World) : List α → List (List Value) → Prop
  | [], [] => True
  | x :: xs, r :: rs => d.K w x r ∧ d.Rows w xs rs
  | _, _ => False
def Kn.slice {α : Type} (d : Kn α) : Kn (List α) := ⟨1, fun w xs cs => ∃ A c rs, cs = [.slice A xs.length c] ∧ xs.length ≤ c ∧ d.Rows w xs rs ∧ Rd w A rs.flatten, fun ⟨A, c, rs, h, _⟩ => by rw [h]; rfl⟩
theorem Kn.Rows.flat {α : Type} {d : Kn α} {w : World} {f : α → List Value} (h : ∀ x r, d.K w x r → r = f x) : ∀ (xs : List α) (rs : List (List Value)), d.Rows w xs rs → rs.flatten = xs.flatMap f
  | [], [], _ => rfl
  | x :: xs, r :: rs, hr => by rw [List.flatten_cons, List.flatMap_cons, h x r hr.1, Kn.Rows.flat h xs rs hr.2]
  | [], _ :: _, hr => hr.elim
  | _ :: _, [], hr => hr.elim
/-- A readable value of type t is one of the kind d, and wf. -/
def Opens {α : Type} (P : Program) (t : TypeId) (d : Kn α) (wf : α → Prop) : Prop :=
  P.cellsOf t = d.sz ∧ ∀ (H : Type) (enc : TypeId × Value → H) (W : World) (fuel : Nat) (cs : List Value) (x : DataW H × List MemPlace), DataW.trod enc P W 0 (fun _ => true) true fuel t cs = some x → ∃ a, d.K W a cs ∧ wf a
section
variable {P : Program} {t e : TypeId}
theorem opens_bool (ht : P.underlying t = some .bool) (hc : P.cellsOf t = 1) : Opens P t Kn.bool (fun _ => True) :=
  ⟨hc, fun H enc W fuel cs x h => by
    obtain ⟨b, rfl, _⟩ := DataW.trod_bool ht h
    exact ⟨b, rfl, trivial⟩⟩
theorem opens_int {k : IntKind} (ht : P.underlying t = some (.int k)) (hc : P.cellsOf t = 1) : Opens P t (Kn.int k) (fun n => (Lit.int k n).wf = true) :=
  ⟨hc, fun H enc W fuel cs x h => by
    obtain ⟨b, rfl, _, hw⟩ := DataW.trod_int ht h
    exact ⟨b, rfl, hw⟩⟩
theorem opens_string (ht : P.underlying t = some .string) (hc : P.cellsOf t = 1) : Opens P t Kn.string (fun s => s.size ≤ maxLen) :=
  ⟨hc, fun H enc W fuel cs x h => by
    obtain ⟨b, rfl, _, hw⟩ := DataW.trod_string ht h
    exact ⟨b, rfl, hw⟩⟩
theorem Kn.Rows.mk {α : Type} {d : Kn α} {w : World} {ad : Addr} {wf : α → Prop} : ∀ (n o : Nat), (∀ i, i < n → ∃ z c, wf z ∧ d.K w z c ∧ ∀ j u, c[j]? = some u → w.cell? (ad.add ((o + i) * d.sz + j)) = some u) →
    ∃ xs rs, xs.length = n ∧ d.Rows w xs rs ∧ (∀ y ∈ xs, wf y) ∧ ∀ j u, rs.flatten[j]? = some u → w.cell? (ad.add (o * d.sz + j)) = some u
  | 0, o, _ => ⟨[], [], rfl, trivial, (fun _ h => by cases h), (fun j u h => by simp at h)⟩
  | n + 1, o, h => by
    obtain ⟨z, c, hw, hk, hc⟩ := h 0 (by omega)
    obtain ⟨xs, rs, hl, hr, hwf, hcs⟩ := Kn.Rows.mk n (o + 1) (fun i hi => by
      obtain ⟨z, c, h1, h2, h3⟩ := h (i + 1) (by omega)
      exact ⟨z, c, h1, h2, fun j u hj => by rw [show o + 1 + i = o + (i + 1) by omega]; exact h3 j u hj⟩)
    refine ⟨z :: xs, c :: rs, by simp [hl], ⟨hk, hr⟩, fun y hy => ?_, fun j u hj => ?_⟩
    · rcases List.mem_cons.1 hy with rfl | hy
      · exact hw
      · exact hwf y hy
    · rw [List.flatten_cons] at hj
      have hlen := d.len hk
      by_cases hjl : j < c.length
      · rw [List.getElem?_append_left hjl] at hj
        simpa using hc j u hj
      · rw [List.getElem?_append_right (by omega)] at hj
        have := hcs (j - c.length) u hj
        rwa [show (o + 1) * d.sz + (j - c.length) = o * d.sz + j by rw [Nat.add_mul]; omega] at this
theorem opens_row {α : Type} {d : Kn α} {wf : α → Prop} (ht : P.underlying t = some (.slice e)) (he : Opens P e d wf) {H : Type} {enc : TypeId × Value → H} {W : World} {fuel : Nat} {cs : List Value} {x : DataW H × List MemPlace}
    (h : DataW.trod enc P W 0 (fun _ => true) true fuel t cs = some x) : ∃ xs, d.slice.K W xs cs ∧ xs.length ≤ maxLen ∧ ∀ y ∈ xs, wf y := by
  rcases Go.Deep.open_slice ht h with ⟨rfl, _⟩ | ⟨a, len, cap, m, n, D, Pl, rfl, _, hl, hm, hmm, _, hel⟩
  · exact ⟨[], ⟨none, 0, [], rfl, Nat.le_refl _, trivial, fun j u h => by simp at h⟩, by simp, by simp⟩
  · have hmc : m = cap := by simpa using hmm
    subst hmc
    obtain ⟨xs, rs, hxl, hr, hwf, hcs⟩ := Kn.Rows.mk (d := d) (w := W) (ad := a) (wf := wf) len 0 (fun i hi => by
      obtain ⟨cs', h1, h2⟩ := hel i (by omega)
      obtain ⟨z, hz, hw⟩ := he.2 H enc W n cs' _ h2
      refine ⟨z, cs', hw, hz, fun j u hj => ?_⟩
      have hlen := d.len hz
      have hc := (World.cells?_some h1).2.2
      rw [he.1] at hc
      have hjlt : j < d.sz := by have := (List.getElem?_eq_some_iff.1 hj).1; omega
      have h3 := hc j hjlt
      rw [hj, Addr.add_add] at h3
      simpa using h3)
    refine ⟨xs, ⟨some a, m, rs, by rw [hxl], by omega, hr, fun j u hj => ⟨a, rfl, by simpa using hcs j u hj⟩⟩, by omega, hwf⟩
theorem opens_slice {α : Type} {d : Kn α} {wf : α → Prop} (ht : P.underlying t = some (.slice e)) (hc : P.cellsOf t = 1) (he : Opens P e d wf) : Opens P t d.slice (fun xs => xs.length ≤ maxLen ∧ ∀ y ∈ xs, wf y) :=
  ⟨hc, fun H enc W fuel cs x h => opens_row ht he h⟩
/-- Fields in line, from cell o on. -/
inductive FieldsOpen (P : Program) : (α : Type) → Nat → List Field → Kn α → (α → Prop) → Prop
  | one {α : Type} {d : Kn α} {wf : α → Prop} {o : Nat} (f : Field) (ho : f.offset = o) (h : Opens P f.type d wf) : FieldsOpen P α o [f] d wf
  | cons {α β : Type} {d : Kn α} {wf : α → Prop} {d' : Kn β} {wf' : β → Prop} {fs : List Field} {o : Nat} (f : Field) (ho : f.offset = o) (h : Opens P f.type d wf) (r : FieldsOpen P β (o + d.sz) fs d' wf') :
      FieldsOpen P (α × β) o (f :: fs) (Kn.pair d d') (fun x => wf x.1 ∧ wf' x.2)
theorem FieldsOpen.out {α : Type} {o : Nat} {fs : List Field} {d : Kn α} {wf : α → Prop} (hf : FieldsOpen P α o fs d wf) {H : Type} {enc : TypeId × Value → H} {W : World} {n : Nat} {cs : List Value} :
    (cs.drop o).length = d.sz → (∀ f ∈ fs, ∃ y, DataW.trod enc P W 0 (fun _ => true) true n f.type ((cs.drop f.offset).take (P.cellsOf f.type)) = some y) → ∃ a, d.K W a (cs.drop o) ∧ wf a := by
  induction hf with
  | one f ho h =>
    subst ho
    intro hl hm
    obtain ⟨x, hx⟩ := hm f (by simp)
    obtain ⟨a, ha, hw⟩ := h.2 _ _ _ _ _ _ hx
    rw [h.1, ← hl, List.take_length] at ha
    exact ⟨a, ha, hw⟩
  | @cons α β d wf d' wf' fs o f ho h r ih =>
    subst ho
    intro hl hm
    obtain ⟨x, hx⟩ := hm f (by simp)
    obtain ⟨a, ha, hw⟩ := h.2 _ _ _ _ _ _ hx
    have hl' : (cs.drop (f.offset + d.sz)).length = d'.sz := by
      have hq : (cs.drop f.offset).length = d.sz + d'.sz := hl
      simp only [List.length_drop] at hq ⊢
      omega
    obtain ⟨b, hb, hw'⟩ := ih hl' (fun g hg => hm g (by simp [hg]))
    refine ⟨(a, b), ⟨(cs.drop f.offset).take d.sz, cs.drop (f.offset + d.sz), ?_, ?_, hb⟩, hw, hw'⟩
    · rw [← List.drop_drop, List.take_append_drop]
    · rw [← h.1]; exact ha
theorem opens_struct {α : Type} {d : Kn α} {wf : α → Prop} {fs : Array Field} (ht : P.underlying t = some (.struct fs)) (hc : P.cellsOf t = d.sz) (hf : FieldsOpen P α 0 fs.toList d wf) : Opens P t d wf :=
  ⟨hc, fun H enc W fuel cs x h => by
    obtain ⟨xs, n, rfl, _, hl, hxl, hm⟩ := DataW.trod_struct ht h
    have := hf.out (enc := enc) (W := W) (n := n) (cs := cs) (by simpa [← hc] using hl) (fun f hfm => by
      obtain ⟨i, hi, rfl⟩ := List.mem_iff_getElem.1 hfm
      refine ⟨xs[i]'(by simpa [hxl] using hi), ?_⟩
      rw [hm i _ (by simp)]
      exact List.getElem?_eq_getElem _)
    simpa using this⟩
/-- A struct parameter's value. -/
theorem agg_of {r : Reach} {b0 : Nat} {w : World} {v : Value} {fs : Array Field} (ht : P.underlying t = some (.struct fs)) (hv : Value.okWide P w r b0 t v) : v = .agg v.cells.toList.toArray := by
  unfold Value.okWide at hv
  rw [ht] at hv
  obtain ⟨cs, rfl, _⟩ := hv
  simp [Value.cells]
end
end Go.Sx
/- DERIVED. Written by a program of this session (rown.py): what the readable values of the laws' parameters are. No condition. -/
namespace Go.Proofs.YtdgpjkddpbiieaaOp
open Go.Sx
set_option linter.unusedVariables false
set_option maxRecDepth 100000
abbrev T26 : Type := (List ((Bool) × (Int) × (List (Int)))) × ((Int) × (Int) × (Int) × (Int))
def kd26 : Kn T26 := (Kn.pair (Kn.slice (Kn.pair Kn.bool (Kn.pair (Kn.int .i64) (Kn.slice (Kn.int .i64))))) (Kn.pair (Kn.int .i64) (Kn.pair (Kn.int .i64) (Kn.pair (Kn.int .i64) (Kn.int .i64)))))
def wf26 : T26 → Prop := (fun x => (fun xs => xs.length ≤ maxLen ∧ ∀ y ∈ xs, (fun x => (fun _ => True) x.1 ∧ (fun n => (Lit.int .i64 n).wf = true) x.2.1 ∧ (fun xs => xs.length ≤ maxLen ∧ ∀ y ∈ xs, (fun n => (Lit.int .i64 n).wf = true) y) x.2.2) y) x.1 ∧ (fun x => (fun n => (Lit.int .i64 n).wf = true) x.1 ∧ (fun n => (Lit.int .i64 n).wf = true) x.2.1 ∧ (fun n => (Lit.int .i64 n).wf = true) x.2.2.1 ∧ (fun n => (Lit.int .i64 n).wf = true) x.2.2.2) x.2)
theorem opens26 : Opens Try.prog 26 kd26 wf26 := (opens_struct Try.underlying26 (by kernel_rfl) (FieldsOpen.cons (d := (Kn.slice (Kn.pair Kn.bool (Kn.pair (Kn.int .i64) (Kn.slice (Kn.int .i64)))))) (wf := (fun xs => xs.length ≤ maxLen ∧ ∀ y ∈ xs, (fun x => (fun _ => True) x.1 ∧ (fun n => (Lit.int .i64 n).wf = true) x.2.1 ∧ (fun xs => xs.length ≤ maxLen ∧ ∀ y ∈ xs, (fun n => (Lit.int .i64 n).wf = true) y) x.2.2) y)) (d' := (Kn.pair (Kn.int .i64) (Kn.pair (Kn.int .i64) (Kn.pair (Kn.int .i64) (Kn.int .i64))))) (wf' := (fun x => (fun n => (Lit.int .i64 n).wf = true) x.1 ∧ (fun n => (Lit.int .i64 n).wf = true) x.2.1 ∧ (fun n => (Lit.int .i64 n).wf = true) x.2.2.1 ∧ (fun n => (Lit.int .i64 n).wf = true) x.2.2.2)) _ (by rfl) (opens_slice Try.underlying22 (by kernel_rfl) (opens_struct Try.underlying55 (by kernel_rfl) (FieldsOpen.cons (d := Kn.bool) (wf := (fun _ => True)) (d' := (Kn.pair (Kn.int .i64) (Kn.slice (Kn.int .i64)))) (wf' := (fun x => (fun n => (Lit.int .i64 n).wf = true) x.1 ∧ (fun xs => xs.length ≤ maxLen ∧ ∀ y ∈ xs, (fun n => (Lit.int .i64 n).wf = true) y) x.2)) _ (by rfl) (opens_bool Try.underlying4 (by kernel_rfl)) (FieldsOpen.cons (d := (Kn.int .i64)) (wf := (fun n => (Lit.int .i64 n).wf = true)) (d' := (Kn.slice (Kn.int .i64))) (wf' := (fun xs => xs.length ≤ maxLen ∧ ∀ y ∈ xs, (fun n => (Lit.int .i64 n).wf = true) y)) _ (by rfl) (opens_int Try.underlying3 (by kernel_rfl)) (FieldsOpen.one (d := (Kn.slice (Kn.int .i64))) (wf := (fun xs => xs.length ≤ maxLen ∧ ∀ y ∈ xs, (fun n => (Lit.int .i64 n).wf = true) y)) _ (by rfl) (opens_slice Try.underlying34 (by kernel_rfl) (opens_int Try.underlying3 (by kernel_rfl)))))))) (FieldsOpen.one (d := (Kn.pair (Kn.int .i64) (Kn.pair (Kn.int .i64) (Kn.pair (Kn.int .i64) (Kn.int .i64))))) (wf := (fun x => (fun n => (Lit.int .i64 n).wf = true) x.1 ∧ (fun n => (Lit.int .i64 n).wf = true) x.2.1 ∧ (fun n => (Lit.int .i64 n).wf = true) x.2.2.1 ∧ (fun n => (Lit.int .i64 n).wf = true) x.2.2.2)) _ (by rfl) (opens_struct Try.underlying24 (by kernel_rfl) (FieldsOpen.cons (d := (Kn.int .i64)) (wf := (fun n => (Lit.int .i64 n).wf = true)) (d' := (Kn.pair (Kn.int .i64) (Kn.pair (Kn.int .i64) (Kn.int .i64)))) (wf' := (fun x => (fun n => (Lit.int .i64 n).wf = true) x.1 ∧ (fun n => (Lit.int .i64 n).wf = true) x.2.1 ∧ (fun n => (Lit.int .i64 n).wf = true) x.2.2)) _ (by rfl) (opens_int Try.underlying3 (by kernel_rfl)) (FieldsOpen.cons (d := (Kn.int .i64)) (wf := (fun n => (Lit.int .i64 n).wf = true)) (d' := (Kn.pair (Kn.int .i64) (Kn.int .i64))) (wf' := (fun x => (fun n => (Lit.int .i64 n).wf = true) x.1 ∧ (fun n => (Lit.int .i64 n).wf = true) x.2)) _ (by rfl) (opens_int Try.underlying3 (by kernel_rfl)) (FieldsOpen.cons (d := (Kn.int .i64)) (wf := (fun n => (Lit.int .i64 n).wf = true)) (d' := (Kn.int .i64)) (wf' := (fun n => (Lit.int .i64 n).wf = true)) _ (by rfl) (opens_int Try.underlying3 (by kernel_rfl)) (FieldsOpen.one (d := (Kn.int .i64)) (wf := (fun n => (Lit.int .i64 n).wf = true)) _ (by rfl) (opens_int Try.underlying3 (by kernel_rfl))))))))))
abbrev T27 : Type := List ((Int) × (Int) × (Int) × ((Int) × (Int) × ((Bool) × (Int) × (Bool) × (Int)) × (Int) × (ByteArray)) × (Int))
def kd27 : Kn T27 := (Kn.slice (Kn.pair (Kn.int .i64) (Kn.pair (Kn.int .i64) (Kn.pair (Kn.int .i64) (Kn.pair (Kn.pair (Kn.int .u64) (Kn.pair (Kn.int .u64) (Kn.pair (Kn.pair Kn.bool (Kn.pair (Kn.int .i64) (Kn.pair Kn.bool (Kn.int .i64)))) (Kn.pair (Kn.int .i64) Kn.string)))) (Kn.int .i64))))))
def wf27 : T27 → Prop := (fun xs => xs.length ≤ maxLen ∧ ∀ y ∈ xs, (fun x => (fun n => (Lit.int .i64 n).wf = true) x.1 ∧ (fun n => (Lit.int .i64 n).wf = true) x.2.1 ∧ (fun n => (Lit.int .i64 n).wf = true) x.2.2.1 ∧ (fun x => (fun n => (Lit.int .u64 n).wf = true) x.1 ∧ (fun n => (Lit.int .u64 n).wf = true) x.2.1 ∧ (fun x => (fun _ => True) x.1 ∧ (fun n => (Lit.int .i64 n).wf = true) x.2.1 ∧ (fun _ => True) x.2.2.1 ∧ (fun n => (Lit.int .i64 n).wf = true) x.2.2.2) x.2.2.1 ∧ (fun n => (Lit.int .i64 n).wf = true) x.2.2.2.1 ∧ (fun s => s.size ≤ maxLen) x.2.2.2.2) x.2.2.2.1 ∧ (fun n => (Lit.int .i64 n).wf = true) x.2.2.2.2) y)
theorem opens27 : Opens Try.prog 27 kd27 wf27 := (opens_slice Try.underlying27 (by kernel_rfl) (opens_struct Try.underlying41 (by kernel_rfl) (FieldsOpen.cons (d := (Kn.int .i64)) (wf := (fun n => (Lit.int .i64 n).wf = true)) (d' := (Kn.pair (Kn.int .i64) (Kn.pair (Kn.int .i64) (Kn.pair (Kn.pair (Kn.int .u64) (Kn.pair (Kn.int .u64) (Kn.pair (Kn.pair Kn.bool (Kn.pair (Kn.int .i64) (Kn.pair Kn.bool (Kn.int .i64)))) (Kn.pair (Kn.int .i64) Kn.string)))) (Kn.int .i64))))) (wf' := (fun x => (fun n => (Lit.int .i64 n).wf = true) x.1 ∧ (fun n => (Lit.int .i64 n).wf = true) x.2.1 ∧ (fun x => (fun n => (Lit.int .u64 n).wf = true) x.1 ∧ (fun n => (Lit.int .u64 n).wf = true) x.2.1 ∧ (fun x => (fun _ => True) x.1 ∧ (fun n => (Lit.int .i64 n).wf = true) x.2.1 ∧ (fun _ => True) x.2.2.1 ∧ (fun n => (Lit.int .i64 n).wf = true) x.2.2.2) x.2.2.1 ∧ (fun n => (Lit.int .i64 n).wf = true) x.2.2.2.1 ∧ (fun s => s.size ≤ maxLen) x.2.2.2.2) x.2.2.1 ∧ (fun n => (Lit.int .i64 n).wf = true) x.2.2.2)) _ (by rfl) (opens_int Try.underlying3 (by kernel_rfl)) (FieldsOpen.cons (d := (Kn.int .i64)) (wf := (fun n => (Lit.int .i64 n).wf = true)) (d' := (Kn.pair (Kn.int .i64) (Kn.pair (Kn.pair (Kn.int .u64) (Kn.pair (Kn.int .u64) (Kn.pair (Kn.pair Kn.bool (Kn.pair (Kn.int .i64) (Kn.pair Kn.bool (Kn.int .i64)))) (Kn.pair (Kn.int .i64) Kn.string)))) (Kn.int .i64)))) (wf' := (fun x => (fun n => (Lit.int .i64 n).wf = true) x.1 ∧ (fun x => (fun n => (Lit.int .u64 n).wf = true) x.1 ∧ (fun n => (Lit.int .u64 n).wf = true) x.2.1 ∧ (fun x => (fun _ => True) x.1 ∧ (fun n => (Lit.int .i64 n).wf = true) x.2.1 ∧ (fun _ => True) x.2.2.1 ∧ (fun n => (Lit.int .i64 n).wf = true) x.2.2.2) x.2.2.1 ∧ (fun n => (Lit.int .i64 n).wf = true) x.2.2.2.1 ∧ (fun s => s.size ≤ maxLen) x.2.2.2.2) x.2.1 ∧ (fun n => (Lit.int .i64 n).wf = true) x.2.2)) _ (by rfl) (opens_int Try.underlying3 (by kernel_rfl)) (FieldsOpen.cons (d := (Kn.int .i64)) (wf := (fun n => (Lit.int .i64 n).wf = true)) (d' := (Kn.pair (Kn.pair (Kn.int .u64) (Kn.pair (Kn.int .u64) (Kn.pair (Kn.pair Kn.bool (Kn.pair (Kn.int .i64) (Kn.pair Kn.bool (Kn.int .i64)))) (Kn.pair (Kn.int .i64) Kn.string)))) (Kn.int .i64))) (wf' := (fun x => (fun x => (fun n => (Lit.int .u64 n).wf = true) x.1 ∧ (fun n => (Lit.int .u64 n).wf = true) x.2.1 ∧ (fun x => (fun _ => True) x.1 ∧ (fun n => (Lit.int .i64 n).wf = true) x.2.1 ∧ (fun _ => True) x.2.2.1 ∧ (fun n => (Lit.int .i64 n).wf = true) x.2.2.2) x.2.2.1 ∧ (fun n => (Lit.int .i64 n).wf = true) x.2.2.2.1 ∧ (fun s => s.size ≤ maxLen) x.2.2.2.2) x.1 ∧ (fun n => (Lit.int .i64 n).wf = true) x.2)) _ (by rfl) (opens_int Try.underlying3 (by kernel_rfl)) (FieldsOpen.cons (d := (Kn.pair (Kn.int .u64) (Kn.pair (Kn.int .u64) (Kn.pair (Kn.pair Kn.bool (Kn.pair (Kn.int .i64) (Kn.pair Kn.bool (Kn.int .i64)))) (Kn.pair (Kn.int .i64) Kn.string))))) (wf := (fun x => (fun n => (Lit.int .u64 n).wf = true) x.1 ∧ (fun n => (Lit.int .u64 n).wf = true) x.2.1 ∧ (fun x => (fun _ => True) x.1 ∧ (fun n => (Lit.int .i64 n).wf = true) x.2.1 ∧ (fun _ => True) x.2.2.1 ∧ (fun n => (Lit.int .i64 n).wf = true) x.2.2.2) x.2.2.1 ∧ (fun n => (Lit.int .i64 n).wf = true) x.2.2.2.1 ∧ (fun s => s.size ≤ maxLen) x.2.2.2.2)) (d' := (Kn.int .i64)) (wf' := (fun n => (Lit.int .i64 n).wf = true)) _ (by rfl) (opens_struct Try.underlying39 (by kernel_rfl) (FieldsOpen.cons (d := (Kn.int .u64)) (wf := (fun n => (Lit.int .u64 n).wf = true)) (d' := (Kn.pair (Kn.int .u64) (Kn.pair (Kn.pair Kn.bool (Kn.pair (Kn.int .i64) (Kn.pair Kn.bool (Kn.int .i64)))) (Kn.pair (Kn.int .i64) Kn.string)))) (wf' := (fun x => (fun n => (Lit.int .u64 n).wf = true) x.1 ∧ (fun x => (fun _ => True) x.1 ∧ (fun n => (Lit.int .i64 n).wf = true) x.2.1 ∧ (fun _ => True) x.2.2.1 ∧ (fun n => (Lit.int .i64 n).wf = true) x.2.2.2) x.2.1 ∧ (fun n => (Lit.int .i64 n).wf = true) x.2.2.1 ∧ (fun s => s.size ≤ maxLen) x.2.2.2)) _ (by rfl) (opens_int Try.underlying35 (by kernel_rfl)) (FieldsOpen.cons (d := (Kn.int .u64)) (wf := (fun n => (Lit.int .u64 n).wf = true)) (d' := (Kn.pair (Kn.pair Kn.bool (Kn.pair (Kn.int .i64) (Kn.pair Kn.bool (Kn.int .i64)))) (Kn.pair (Kn.int .i64) Kn.string))) (wf' := (fun x => (fun x => (fun _ => True) x.1 ∧ (fun n => (Lit.int .i64 n).wf = true) x.2.1 ∧ (fun _ => True) x.2.2.1 ∧ (fun n => (Lit.int .i64 n).wf = true) x.2.2.2) x.1 ∧ (fun n => (Lit.int .i64 n).wf = true) x.2.1 ∧ (fun s => s.size ≤ maxLen) x.2.2)) _ (by rfl) (opens_int Try.underlying35 (by kernel_rfl)) (FieldsOpen.cons (d := (Kn.pair Kn.bool (Kn.pair (Kn.int .i64) (Kn.pair Kn.bool (Kn.int .i64))))) (wf := (fun x => (fun _ => True) x.1 ∧ (fun n => (Lit.int .i64 n).wf = true) x.2.1 ∧ (fun _ => True) x.2.2.1 ∧ (fun n => (Lit.int .i64 n).wf = true) x.2.2.2)) (d' := (Kn.pair (Kn.int .i64) Kn.string)) (wf' := (fun x => (fun n => (Lit.int .i64 n).wf = true) x.1 ∧ (fun s => s.size ≤ maxLen) x.2)) _ (by rfl) (opens_struct Try.underlying37 (by kernel_rfl) (FieldsOpen.cons (d := Kn.bool) (wf := (fun _ => True)) (d' := (Kn.pair (Kn.int .i64) (Kn.pair Kn.bool (Kn.int .i64)))) (wf' := (fun x => (fun n => (Lit.int .i64 n).wf = true) x.1 ∧ (fun _ => True) x.2.1 ∧ (fun n => (Lit.int .i64 n).wf = true) x.2.2)) _ (by rfl) (opens_bool Try.underlying4 (by kernel_rfl)) (FieldsOpen.cons (d := (Kn.int .i64)) (wf := (fun n => (Lit.int .i64 n).wf = true)) (d' := (Kn.pair Kn.bool (Kn.int .i64))) (wf' := (fun x => (fun _ => True) x.1 ∧ (fun n => (Lit.int .i64 n).wf = true) x.2)) _ (by rfl) (opens_int Try.underlying3 (by kernel_rfl)) (FieldsOpen.cons (d := Kn.bool) (wf := (fun _ => True)) (d' := (Kn.int .i64)) (wf' := (fun n => (Lit.int .i64 n).wf = true)) _ (by rfl) (opens_bool Try.underlying4 (by kernel_rfl)) (FieldsOpen.one (d := (Kn.int .i64)) (wf := (fun n => (Lit.int .i64 n).wf = true)) _ (by rfl) (opens_int Try.underlying3 (by kernel_rfl))))))) (FieldsOpen.cons (d := (Kn.int .i64)) (wf := (fun n => (Lit.int .i64 n).wf = true)) (d' := Kn.string) (wf' := (fun s => s.size ≤ maxLen)) _ (by rfl) (opens_int Try.underlying3 (by kernel_rfl)) (FieldsOpen.one (d := Kn.string) (wf := (fun s => s.size ≤ maxLen)) _ (by rfl) (opens_string Try.underlying9 (by kernel_rfl)))))))) (FieldsOpen.one (d := (Kn.int .i64)) (wf := (fun n => (Lit.int .i64 n).wf = true)) _ (by rfl) (opens_int Try.underlying3 (by kernel_rfl)))))))))
abbrev T39 : Type := (Int) × (Int) × ((Bool) × (Int) × (Bool) × (Int)) × (Int) × (ByteArray)
def kd39 : Kn T39 := (Kn.pair (Kn.int .u64) (Kn.pair (Kn.int .u64) (Kn.pair (Kn.pair Kn.bool (Kn.pair (Kn.int .i64) (Kn.pair Kn.bool (Kn.int .i64)))) (Kn.pair (Kn.int .i64) Kn.string))))
def wf39 : T39 → Prop := (fun x => (fun n => (Lit.int .u64 n).wf = true) x.1 ∧ (fun n => (Lit.int .u64 n).wf = true) x.2.1 ∧ (fun x => (fun _ => True) x.1 ∧ (fun n => (Lit.int .i64 n).wf = true) x.2.1 ∧ (fun _ => True) x.2.2.1 ∧ (fun n => (Lit.int .i64 n).wf = true) x.2.2.2) x.2.2.1 ∧ (fun n => (Lit.int .i64 n).wf = true) x.2.2.2.1 ∧ (fun s => s.size ≤ maxLen) x.2.2.2.2)
theorem opens39 : Opens Try.prog 39 kd39 wf39 := (opens_struct Try.underlying39 (by kernel_rfl) (FieldsOpen.cons (d := (Kn.int .u64)) (wf := (fun n => (Lit.int .u64 n).wf = true)) (d' := (Kn.pair (Kn.int .u64) (Kn.pair (Kn.pair Kn.bool (Kn.pair (Kn.int .i64) (Kn.pair Kn.bool (Kn.int .i64)))) (Kn.pair (Kn.int .i64) Kn.string)))) (wf' := (fun x => (fun n => (Lit.int .u64 n).wf = true) x.1 ∧ (fun x => (fun _ => True) x.1 ∧ (fun n => (Lit.int .i64 n).wf = true) x.2.1 ∧ (fun _ => True) x.2.2.1 ∧ (fun n => (Lit.int .i64 n).wf = true) x.2.2.2) x.2.1 ∧ (fun n => (Lit.int .i64 n).wf = true) x.2.2.1 ∧ (fun s => s.size ≤ maxLen) x.2.2.2)) _ (by rfl) (opens_int Try.underlying35 (by kernel_rfl)) (FieldsOpen.cons (d := (Kn.int .u64)) (wf := (fun n => (Lit.int .u64 n).wf = true)) (d' := (Kn.pair (Kn.pair Kn.bool (Kn.pair (Kn.int .i64) (Kn.pair Kn.bool (Kn.int .i64)))) (Kn.pair (Kn.int .i64) Kn.string))) (wf' := (fun x => (fun x => (fun _ => True) x.1 ∧ (fun n => (Lit.int .i64 n).wf = true) x.2.1 ∧ (fun _ => True) x.2.2.1 ∧ (fun n => (Lit.int .i64 n).wf = true) x.2.2.2) x.1 ∧ (fun n => (Lit.int .i64 n).wf = true) x.2.1 ∧ (fun s => s.size ≤ maxLen) x.2.2)) _ (by rfl) (opens_int Try.underlying35 (by kernel_rfl)) (FieldsOpen.cons (d := (Kn.pair Kn.bool (Kn.pair (Kn.int .i64) (Kn.pair Kn.bool (Kn.int .i64))))) (wf := (fun x => (fun _ => True) x.1 ∧ (fun n => (Lit.int .i64 n).wf = true) x.2.1 ∧ (fun _ => True) x.2.2.1 ∧ (fun n => (Lit.int .i64 n).wf = true) x.2.2.2)) (d' := (Kn.pair (Kn.int .i64) Kn.string)) (wf' := (fun x => (fun n => (Lit.int .i64 n).wf = true) x.1 ∧ (fun s => s.size ≤ maxLen) x.2)) _ (by rfl) (opens_struct Try.underlying37 (by kernel_rfl) (FieldsOpen.cons (d := Kn.bool) (wf := (fun _ => True)) (d' := (Kn.pair (Kn.int .i64) (Kn.pair Kn.bool (Kn.int .i64)))) (wf' := (fun x => (fun n => (Lit.int .i64 n).wf = true) x.1 ∧ (fun _ => True) x.2.1 ∧ (fun n => (Lit.int .i64 n).wf = true) x.2.2)) _ (by rfl) (opens_bool Try.underlying4 (by kernel_rfl)) (FieldsOpen.cons (d := (Kn.int .i64)) (wf := (fun n => (Lit.int .i64 n).wf = true)) (d' := (Kn.pair Kn.bool (Kn.int .i64))) (wf' := (fun x => (fun _ => True) x.1 ∧ (fun n => (Lit.int .i64 n).wf = true) x.2)) _ (by rfl) (opens_int Try.underlying3 (by kernel_rfl)) (FieldsOpen.cons (d := Kn.bool) (wf := (fun _ => True)) (d' := (Kn.int .i64)) (wf' := (fun n => (Lit.int .i64 n).wf = true)) _ (by rfl) (opens_bool Try.underlying4 (by kernel_rfl)) (FieldsOpen.one (d := (Kn.int .i64)) (wf := (fun n => (Lit.int .i64 n).wf = true)) _ (by rfl) (opens_int Try.underlying3 (by kernel_rfl))))))) (FieldsOpen.cons (d := (Kn.int .i64)) (wf := (fun n => (Lit.int .i64 n).wf = true)) (d' := Kn.string) (wf' := (fun s => s.size ≤ maxLen)) _ (by rfl) (opens_int Try.underlying3 (by kernel_rfl)) (FieldsOpen.one (d := Kn.string) (wf := (fun s => s.size ≤ maxLen)) _ (by rfl) (opens_string Try.underlying9 (by kernel_rfl))))))))
abbrev T55 : Type := (Bool) × (Int) × (List (Int))
def kd55 : Kn T55 := (Kn.pair Kn.bool (Kn.pair (Kn.int .i64) (Kn.slice (Kn.int .i64))))
def wf55 : T55 → Prop := (fun x => (fun _ => True) x.1 ∧ (fun n => (Lit.int .i64 n).wf = true) x.2.1 ∧ (fun xs => xs.length ≤ maxLen ∧ ∀ y ∈ xs, (fun n => (Lit.int .i64 n).wf = true) y) x.2.2)
theorem opens55 : Opens Try.prog 55 kd55 wf55 := (opens_struct Try.underlying55 (by kernel_rfl) (FieldsOpen.cons (d := Kn.bool) (wf := (fun _ => True)) (d' := (Kn.pair (Kn.int .i64) (Kn.slice (Kn.int .i64)))) (wf' := (fun x => (fun n => (Lit.int .i64 n).wf = true) x.1 ∧ (fun xs => xs.length ≤ maxLen ∧ ∀ y ∈ xs, (fun n => (Lit.int .i64 n).wf = true) y) x.2)) _ (by rfl) (opens_bool Try.underlying4 (by kernel_rfl)) (FieldsOpen.cons (d := (Kn.int .i64)) (wf := (fun n => (Lit.int .i64 n).wf = true)) (d' := (Kn.slice (Kn.int .i64))) (wf' := (fun xs => xs.length ≤ maxLen ∧ ∀ y ∈ xs, (fun n => (Lit.int .i64 n).wf = true) y)) _ (by rfl) (opens_int Try.underlying3 (by kernel_rfl)) (FieldsOpen.one (d := (Kn.slice (Kn.int .i64))) (wf := (fun xs => xs.length ≤ maxLen ∧ ∀ y ∈ xs, (fun n => (Lit.int .i64 n).wf = true) y)) _ (by rfl) (opens_slice Try.underlying34 (by kernel_rfl) (opens_int Try.underlying3 (by kernel_rfl)))))))
end Go.Proofs.YtdgpjkddpbiieaaOp
/- DERIVED. Equality of structs and arrays, indices of arrays, loops of few rounds, conversions of numbers. No condition. -/
namespace Go.Sx
open Go.RowKit
open Classical
set_option linter.unusedVariables false
set_option linter.unusedSimpArgs false
inductive Sh where
  | i (k : IntKind) | b | s
  deriving DecidableEq
def shOf : Value → Option Sh
  | .int k _ => some (.i k)
  | .bool _ => some .b
  | .string _ => some .s
  | _ => none
def valOf : Bool → List Value → Value
  | true, cs => .agg cs.toArray
  | false, cs => cs.headD undef
section
variable {P : Program}
/-- Values of this type, of these kinds of cells, are equal when their cells are. -/
def EqAt' (P : Program) (m : Nat) (t : TypeId) (agg : Bool) (sh : List (Option Sh)) : Prop := ∀ (d : Nat) (w : World) (cs ds : List Value), cs.map shOf = sh → ds.map shOf = sh → (Op.equalIn (d + m) t (valOf agg cs) (valOf agg ds)).run P w = .ok (decide (cs = ds)) w
theorem EqAt'.mono {m m' : Nat} {t : TypeId} {agg : Bool} {sh : List (Option Sh)} (h : EqAt' P m t agg sh) (hm : Nat.ble m m' = true) : EqAt' P m' t agg sh := fun d w cs ds h1 h2 => by
  have hm := Nat.le_of_ble_eq_true hm
  have := h (d + (m' - m)) w cs ds h1 h2
  rwa [show d + (m' - m) + m = d + m' by omega] at this
theorem sh_one {cs : List Value} {k : Option Sh} (h : cs.map shOf = [k]) : ∃ v, cs = [v] ∧ shOf v = k := by
  match cs, h with
  | [v], h => exact ⟨v, rfl, by simpa using h⟩
theorem eqat_int {t : TypeId} {k : IntKind} (hu : P.underlying t = some (.int k)) : EqAt' P 1 t false [some (.i k)] := fun d w cs ds h1 h2 => by
  obtain ⟨u, rfl, hu1⟩ := sh_one h1
  obtain ⟨v, rfl, hv1⟩ := sh_one h2
  cases u <;> simp [shOf] at hu1
  cases v <;> simp [shOf] at hv1
  subst hu1; subst hv1
  simp only [valOf, List.headD_cons]
  rw [run_equalIn_int w d t _ _ _ _ hu]
  congr 1
  rw [Bool.eq_iff_iff]
  simp
theorem eqat_bool {t : TypeId} (hu : P.underlying t = some .bool) : EqAt' P 1 t false [some .b] := fun d w cs ds h1 h2 => by
  obtain ⟨u, rfl, hu1⟩ := sh_one h1
  obtain ⟨v, rfl, hv1⟩ := sh_one h2
  cases u <;> simp [shOf] at hu1
  cases v <;> simp [shOf] at hv1
  rename_i a b
  simp only [valOf, List.headD_cons]
  rw [run_equalIn_bool w d t a b hu]
  by_cases h : a = b <;> simp [h]
theorem bytes_toList_inj {a b : ByteArray} (h : a.toList = b.toList) : a = b := by
  rw [ByteArray.toList_eq, ByteArray.toList_eq] at h
  obtain ⟨⟨x⟩⟩ := a
  obtain ⟨⟨y⟩⟩ := b
  simp at h
  rw [h]
theorem eqat_string {t : TypeId} (hu : P.underlying t = some .string) : EqAt' P 1 t false [some .s] := fun d w cs ds h1 h2 => by
  obtain ⟨u, rfl, hu1⟩ := sh_one h1
  obtain ⟨v, rfl, hv1⟩ := sh_one h2
  cases u <;> simp [shOf] at hu1
  cases v <;> simp [shOf] at hv1
  rename_i a b
  simp only [valOf, List.headD_cons]
  rw [run_equalIn_string w d t a b hu]
  by_cases h : a = b
  · simp [h]
  · have : a.toList ≠ b.toList := fun e => h (bytes_toList_inj e)
    simp [h, this]
theorem run_part {t : TypeId} {agg : Bool} {m : Nat} [T : TyInfo P t agg m] {xs : Array Value} {off : Nat} {c rest : List Value} (h : xs.toList.drop off = c ++ rest) (hc : c.length = m) (hone : agg = false → m = 1) (w : World) : (part t xs off).run P w = .ok (valOf agg c) w := by
  have h1 := T.h1
  obtain ⟨i, hi, hs⟩ := info_of T.h2
  cases hu : P.underlying t with
  | none => rw [hu] at h1; simp at h1
  | some d =>
    rw [hu] at h1
    simp only [Option.map_some, Option.some.injEq] at h1
    have ha : (isAgg t).run P w = .ok agg w := by
      subst h1
      cases d <;> simp [isAgg, run_underlying hu]
    have hsz : (sizeOf t).run P w = .ok i.size w := by simp [sizeOf, typeInfo, hi]
    unfold part
    simp only [Sem.run_bind, ha, Result.andThen_ok]
    cases agg with
    | true =>
      simp only [if_true, Sem.run_bind, hsz, Result.andThen_ok, Sem.run_pure, valOf]
      congr 2
      apply Array.toList_inj.1
      rw [Array.toList_extract]
      simp [List.extract, h, hs, ← hc]
    | false =>
      have hm := hone rfl
      subst hm
      match c, hc with
      | [v], _ =>
        have e : xs[off]? = some v := by
          have : (xs.toList.drop off)[0]? = some v := by rw [h]; rfl
          rw [List.getElem?_drop] at this
          simpa using this
        simp [e, valOf]
class EqTy (P : Program) (t : TypeId) (agg : outParam Bool) (sh : outParam (List (Option Sh))) (m : outParam Nat) : Prop where
  h : EqAt' P m t agg sh
/-- The fields, in their order. -/
inductive FieldsEq (P : Program) (m : Nat) : List Field → Nat → List (Option Sh) → Prop
  | nil {off : Nat} : FieldsEq P m [] off []
  | cons {f : Field} {fs : List Field} {off : Nat} {agg : Bool} {m' : Nat} {sh1 sh2 : List (Option Sh)} (hn : f.name ≠ "_") (ho : f.offset = off) (E : EqTy P f.type agg sh1 m') (hm : Nat.ble m' m = true) (T : TyInfo P f.type agg sh1.length) (h1 : (agg || Nat.beq sh1.length 1) = true) (r : FieldsEq P m fs (off + sh1.length) sh2) : FieldsEq P m (f :: fs) off (sh1 ++ sh2)
theorem sh_split {cs : List Value} {a b : List (Option Sh)} (h : cs.map shOf = a ++ b) : ∃ c r, cs = c ++ r ∧ c.map shOf = a ∧ r.map shOf = b ∧ c.length = a.length := by
  refine ⟨cs.take a.length, cs.drop a.length, (List.take_append_drop _ _).symm, ?_, ?_, ?_⟩
  · rw [List.map_take, h, List.take_left]
  · rw [List.map_drop, h, List.drop_left]
  · have : (cs.map shOf).length = a.length + b.length := by rw [h, List.length_append]
    rw [List.length_map] at this
    rw [List.length_take]; omega
theorem one_of {agg : Bool} {n : Nat} (h : (agg || Nat.beq n 1) = true) : agg = false → n = 1 := fun e => by subst e; simpa using h
theorem FieldsEq.run {m : Nat} {fs : List Field} {off : Nat} {sh : List (Option Sh)} (h : FieldsEq P m fs off sh) (d : Nat) (w : World) {xs ys : Array Value} (h1 : (xs.toList.drop off).map shOf = sh) (h2 : (ys.toList.drop off).map shOf = sh) :
    (Op.eqFields (d + m) xs ys fs).run P w = .ok (decide (xs.toList.drop off = ys.toList.drop off)) w := by
  induction h with
  | nil =>
    simp only [List.map_eq_nil_iff] at h1 h2
    rw [h1, h2]
    simp [Op.eqFields]
  | @cons f fs off agg m' sh1 sh2 hn ho E hm T hone r ih =>
    obtain ⟨c, r1, e1, hc, hr1, hl1⟩ := sh_split h1
    obtain ⟨c', r2, e2, hc', hr2, hl2⟩ := sh_split h2
    subst ho
    have p1 := run_part (P := P) (T := T) e1 hl1 (one_of hone) w
    have p2 := run_part (P := P) (T := T) e2 hl2 (one_of hone) w
    have q := (E.h.mono hm) d w c c' hc hc'
    have d1 : xs.toList.drop (f.offset + sh1.length) = r1 := by rw [← List.drop_drop, e1, ← hl1, List.drop_left]
    have d2 : ys.toList.drop (f.offset + sh1.length) = r2 := by rw [← List.drop_drop, e2, ← hl2, List.drop_left]
    have ih := ih (by rw [d1]; exact hr1) (by rw [d2]; exact hr2)
    rw [d1, d2] at ih
    have hsp : (c ++ r1 = c' ++ r2) ↔ (c = c' ∧ r1 = r2) := ⟨fun e => List.append_inj e (hl1.trans hl2.symm), fun ⟨a, b⟩ => by rw [a, b]⟩
    simp only [Op.eqFields, hn, ne_eq, not_false_eq_true, if_true, Sem.run_bind, p1, p2, q, Result.andThen_ok]
    by_cases hcc : c = c'
    · simp only [hcc, decide_true, Bool.not_true, Bool.false_eq_true, if_false, ih]
      congr 1
      rw [Bool.eq_iff_iff, decide_eq_true_eq, decide_eq_true_eq, e1, e2, hcc]
      exact ⟨fun e => by rw [e], fun e => List.append_cancel_left e⟩
    · have hne : ¬ (c ++ r1 = c' ++ r2) := fun e => hcc (hsp.1 e).1
      simp only [hcc, decide_false, Bool.not_false, if_true, Sem.run_pure]
      congr 1
      symm
      rw [decide_eq_false_iff_not, e1, e2]
      exact hne
theorem eqat_struct {t : TypeId} {fs : Array Field} {m : Nat} {sh : List (Option Sh)} (hu : P.underlying t = some (.struct fs)) (hp : P.stoodInHeld t = false) (h : FieldsEq P m fs.toList 0 sh) : EqAt' P (m + 1) t true sh := fun d w cs ds h1 h2 => by
  have hfs : P.fieldsOf t = fs := by simp [Program.fieldsOf, hu]
  simp only [valOf]
  rw [show d + (m + 1) = (d + m) + 1 from rfl, run_equalIn_struct w (d + m) t _ _ (by rw [hfs]; exact hu) hp, hfs, h.run d w (by simpa using h1) (by simpa using h2)]
  simp
class NoGuard (P : Program) (t : TypeId) : Prop where
  h : P.eqGuardType P.depth t = false
theorem run_equal_agg {t : TypeId} {m : Nat} {sh : List (Option Sh)} (E : EqTy P t true sh m) (hm : Nat.ble m 10000 = true) {cs ds : List Value} (h1 : cs.map shOf = sh) (h2 : ds.map shOf = sh) (w : World) : (Op.equalIn 10000 t (.agg cs.toArray) (.agg ds.toArray)).run P w = .ok (decide (cs = ds)) w := by
  have := (E.h.mono hm) 0 w cs ds h1 h2
  simpa [valOf] using this
theorem bin_neq_agg {t : TypeId} {x y : Operand} {m : Nat} {sh : List (Option Sh)} [E : EqTy P t true sh m] [G : NoGuard P t] {cs ds : List Value} (hm : Nat.ble m 10000 = true := by rfl) (h1 : cs.map shOf = sh := by rfl) (h2 : ds.map shOf = sh := by rfl) : Bin P .neq t x y (.agg cs.toArray) (.agg ds.toArray) (.bool (!(decide (cs = ds)))) := fun w => by
  simp only [Sem.run_bind, run_eqGuard_agg w .neq t x y _ _ G.h, Result.andThen_ok, run_neq_struct, run_equal_agg E hm h1 h2]
class ArrTy (P : Program) (t : TypeId) (n : outParam Nat) (e : outParam TypeId) (agg : outParam Bool) (sz : outParam Nat) : Prop where
  h1 : P.underlying t = some (.array n e)
  h2 : TyInfo P e agg sz
  h3 : agg = false → sz = 1
class IntTy (P : Program) (t : TypeId) (k : outParam IntKind) : Prop where
  h : P.underlying t = some (.int k)
end
section
variable {P : Program} {o : Oper} {a : Act} {w w0 : World} {Q : Exit → Act → World → Prop} {n : Nat} {env : List (Nat × Value)} {L L' : List Asn} {K : Act → World → Prop} {G : List (Nat × List Value × TypeId)}
/-- An array's element in a block. -/
theorem qia {t e : TypeId} {len sz : Nat} {agg : Bool} {x y : Operand} {g q : Nat} {i : Int} {kd : IntKind} {d : Tmp} (hE : Env a n env) (k : ∀ a', Env a' n ((d, .pointer (some ⟨g, q + i.toNat * sz, none⟩)) :: env) → K a' w) (ho : o.op = .indexAddr t x y := by exact rfl) (T : ArrTy P t len e agg sz := by infer_instance) (hx : opv env x = some (.pointer (some ⟨g, q, none⟩)) := by exact rfl) (hy : opv env y = some (.int kd i) := by exact rfl)
    (h0 : 0 ≤ i := by omega) (h1 : i < (len : Int) := by omega) (hd : o.dst = some d := by exact rfl) (hlt : Nat.blt d n = true := by exact rfl) : o.wp P a w K Q := by
  have T2 := T.h2
  obtain ⟨u, hq, hs⟩ := info_of T2.h2
  have e1 := T.h1
  have he : P.elem t = e := by simp [Program.elem, e1]
  have hn : P.arrayLen t = len := by simp [Program.arrayLen, e1]
  have hsz : (sizeOf e).run P w = .ok u.size w := by simp [sizeOf, typeInfo, hq]
  unfold Oper.wp execOp
  simp only [ho, hE.eval hx, hE.eval hy]
  rw [Sem.run_bind, run_indexAt_array w t _ kd i (by rw [he, hn]; exact e1), hn, if_pos ⟨h0, h1⟩, he, hsz]
  simp only [Result.andThen_ok, hs, Addr.add_lit]
  exact k _ (hE.putS _ hd hlt)
theorem qbN {t t' : TypeId} {x y : Operand} {cs ds : List Value} {m : Nat} {sh : List (Option Sh)} {d : Tmp} (hE : Env a n env) (k : ∀ a', Env a' n ((d, .bool (!(decide (cs = ds)))) :: env) → K a' w) (ho : o.op = .binOp .neq t x y t' := by exact rfl) (E : EqTy P t true sh m := by infer_instance) (G' : NoGuard P t := by infer_instance) (hx : opv env x = some (.agg cs.toArray) := by exact rfl) (hy : opv env y = some (.agg ds.toArray) := by exact rfl) (hm : Nat.ble m 10000 = true := by exact rfl) (h1 : cs.map shOf = sh := by exact rfl) (h2 : ds.map shOf = sh := by exact rfl) (hd : o.dst = some d := by exact rfl) (hlt : Nat.blt d n = true := by exact rfl) : o.wp P a w K Q :=
  o_bin hE ho hx hy (bin_neq_agg hm h1 h2) hd hlt k
theorem qcv {t t' : TypeId} {kd k2 : IntKind} {x : Operand} {v : Int} {d : Tmp} (hE : Env a n env) (k : ∀ a', Env a' n ((d, .int k2 (k2.wrap v)) :: env) → K a' w) (ho : o.op = .convert t t' x := by exact rfl) (T : IntTy P t' k2 := by infer_instance) (T1 : IntTy P t kd := by infer_instance) (hx : opv env x = some (.int kd v) := by exact rfl) (hd : o.dst = some d := by exact rfl) (hlt : Nat.blt d n = true := by exact rfl) : o.wp P a w K Q := by
  have hk : P.intKind t' = k2 := by simp [Program.intKind, T.h]
  have h1 : (P.underlying t).isSome = true := by rw [T1.h]; rfl
  unfold Oper.wp execOp
  simp only [ho, hE.eval hx]
  rw [Sem.run_bind, run_convert_int w t t' kd v h1 (by rw [hk]; exact T.h), hk]
  exact k _ (hE.putS _ hd hlt)
class FldTy (P : Program) (t : TypeId) (f : Nat) (off : outParam Nat) (agg : outParam Bool) (m : outParam Nat) : Prop where
  h : ∃ fs fd, P.underlying t = some (.struct fs) ∧ fs[f]? = some fd ∧ fd.offset = off ∧ TyInfo P fd.type agg m
  h1 : (agg || Nat.beq m 1) = true
theorem y_load0s {α : Type} {f : α → List Value} {l : List α} {df : α} {ty m : TypeId} {x : Operand} {ad : Addr} {i : Int} {us : List Value} (hf : ∀ x, (f x).length = m) (hA : At w0 ad (l.flatMap f)) (hus : f (l.getD i.toNat df) = us)
    (ho : o.op = .load ty x := by exact rfl) (T : TyInfo P ty true m := by infer_instance) (hx : opv env x = some (.pointer (some (ad.add (i.toNat * m)))) := by exact rfl) (h0 : 0 ≤ i := by omega) (h1 : i < (l.length : Int) := by omega) : Y P env (SS w0 G) o (.agg us.toArray) := by
  subst hus
  exact y_loadA0 (flat_at hf hA i h0 h1 df) ho T hx (by rw [List.take_of_length_le (by rw [hf]; exact Nat.le_refl _)]) (hf _)
/-- An element of an owned row. -/
theorem qlr {ty e : TypeId} {x : Operand} {A : Option Addr} {N c : Nat} {i : Int} {xs : List Value} {v : Value} {d : Tmp} (hE : Env a n env) (hS : Sep w0 w L) (k : ∀ a', Env a' n ((d, v) :: env) → K a' w) (ho : o.op = .load ty x := by exact rfl) (T : TyInfo P ty false 1 := by infer_instance) (hx : opv env x = some (.pointer (some ((adr A).add (i.toNat * 1)))) := by exact rfl)
    (hp : Pull (row e 1 (.slice A N c) N xs) L L' := by repeat (first | exact Pull.here | apply Pull.there)) (hv : xs[i.toNat * 1]? = some v := by exact rfl) (hd : o.dst = some d := by exact rfl) (hlt : Nat.blt d n = true := by exact rfl) : o.wp P a w K Q := by
  have hA := ((Rd.row hS hp).at_).drop (i.toNat * 1)
  have hlt' : i.toNat * 1 < xs.length := (List.getElem?_eq_some_iff.1 hv).1
  have e1 : xs.drop (i.toNat * 1) = v :: xs.drop (i.toNat * 1 + 1) := by rw [← (List.getElem?_eq_some_iff.1 hv).2]; exact List.drop_eq_getElem_cons hlt'
  rw [e1] at hA
  have h := run_loadAt (P := P) (ty := ty) (us := [v]) hA rfl rfl (fun _ => rfl)
  exact o_val hE (by simp only [execOp, ho, hE.eval hx]; rw [Sem.run_bind, h]; rfl) hd hlt k
/-- A cut behind a drawn region. -/
theorem c_midr {id : Nat} {ops : Array Oper} {c2 : Code} {I : Act → World → Prop} (h1 : (Code.region id ops true).wp P (Exit.then I Q) a w) (h2 : ∀ a w, I a w → c2.wp P Q a w) : ((Code.region id ops true).seq c2).wp P Q a w :=
  wp_seq (Code.wp_mono (fun e a w h => by cases e <;> first | exact h2 _ _ h | exact h) h1)
inductive Sub : List Asn → List Asn → Prop
  | nil {L : List Asn} : Sub L []
  | cons {x : Asn} {L L' M : List Asn} (h : Pull x L L') (r : Sub L' M) : Sub L (x :: M)
theorem SepL.sub {w : World} : ∀ {L M : List Asn} {F : Foot}, Sub L M → SepL w L F → ∃ F', SepL w M F' ∧ ∀ k, F' k → F k
  | _, [], F, _, _ => ⟨fun _ => False, fun _ h => h, fun _ h => h.elim⟩
  | L, x :: M, F, .cons h r, hL => by
    obtain ⟨F1, F2, hF, hd, hA, hR⟩ := SepL.pull h hL
    obtain ⟨F', hM, hs⟩ := SepL.sub r hR
    exact ⟨fun k => F1 k ∨ F' k, ⟨F1, F', fun k => Iff.rfl, fun k h1 h2 => hd k h1 (hs k h2), hA, hM⟩, fun k hk => (hF k).2 (hk.imp id (hs k))⟩
theorem Sep.sub {w0 w : World} {L M : List Asn} (h : Sep w0 w L) (s : Sub L M := by repeat (first | exact Sub.nil | (apply Sub.cons; (repeat (first | exact Pull.here | apply Pull.there))))) : Sep w0 w M := by
  obtain ⟨F, hL, hr⟩ := h.own
  obtain ⟨F', hM, hs⟩ := SepL.sub s hL
  exact ⟨h.below, F', hM, fun k hk => hr k (hs k hk)⟩
/-- A loop of at most k rounds, round by round. -/
theorem c_unroll {c : Code} (k : Nat) (h : Code.rounds P c Q k a w) : (Code.loop c).wp P Q a w := wp_loop_rounds k h
theorem c_rnd {c : Code} {k : Nat} (h : c.wp P (Exit.then (Code.rounds P c Q k) Q) a w) : Code.rounds P c Q (k + 1) a w := h
end
end Go.Sx
/- DERIVED. Other operators; elements of owned rows read and written as records. No condition. -/
namespace Go.Sx
open Go.RowKit
set_option linter.unusedVariables false
set_option linter.unusedSimpArgs false
section
variable {P : Program} {t : TypeId} {x y : Operand} {kd : IntKind} {i j : Int}
def bAnd (k : IntKind) (x y : Int) : Int := k.wrap ((BitVec.ofInt k.bits x &&& BitVec.ofInt k.bits y).toNat)
def bOr (k : IntKind) (x y : Int) : Int := k.wrap ((BitVec.ofInt k.bits x ||| BitVec.ofInt k.bits y).toNat)
theorem bin_and : Bin P .and t x y (.int kd i) (.int kd j) (.int kd (bAnd kd i j)) := fun w => by simp [eqGuard, binOp, Op.intBits, bAnd]
theorem bin_or : Bin P .or t x y (.int kd i) (.int kd j) (.int kd (bOr kd i j)) := fun w => by simp [eqGuard, binOp, Op.intBits, bOr]
theorem bin_quo (h : j ≠ 0) : Bin P .quo t x y (.int kd i) (.int kd j) (.int kd (kd.wrap (i.tdiv j))) := fun w => by simp [eqGuard, binOp, Op.intDiv, h]
theorem bin_rem (h : j ≠ 0) : Bin P .rem t x y (.int kd i) (.int kd j) (.int kd (i.tmod j)) := fun w => by simp [eqGuard, binOp, Op.intDiv, h]
theorem bin_shl {k2 : IntKind} (h : 0 ≤ j) : Bin P .shl t x y (.int kd i) (.int k2 j) (.int kd (kd.wrap (i * 2 ^ (min j.toNat kd.bits)))) := fun w => by simp [eqGuard, binOp, Op.shift, Int.not_lt.2 h]
theorem bin_shr {k2 : IntKind} (h : 0 ≤ j) : Bin P .shr t x y (.int kd i) (.int k2 j) (.int kd (i.fdiv (2 ^ (min j.toNat kd.bits)))) := fun w => by simp [eqGuard, binOp, Op.shift, Int.not_lt.2 h]
theorem bAnd_mask (x : Int) (n : Nat) (h : n ≤ 62) : bAnd .i64 x (2 ^ n - 1 : Nat) = x % 2 ^ n := by
  have e : (BitVec.ofInt 64 x &&& BitVec.ofInt 64 ((2 ^ n - 1 : Nat) : Int)).toNat = (x % 2 ^ 64).toNat % 2 ^ n := by
    rw [BitVec.toNat_and, BitVec.ofInt_natCast, BitVec.toNat_ofInt, BitVec.toNat_ofNat]
    have hlt : 2 ^ n - 1 < 2 ^ 64 := by have := Nat.pow_le_pow_right (n := 2) (by decide) (show n ≤ 64 by omega); have := Nat.two_pow_pos n; omega
    rw [Nat.mod_eq_of_lt hlt, Nat.and_two_pow_sub_one_eq_mod]
    rfl
  have hx : ((x % 2 ^ 64).toNat : Int) = x % 2 ^ 64 := Int.toNat_of_nonneg (Int.emod_nonneg _ (by decide))
  have e2 : (((x % 2 ^ 64).toNat % 2 ^ n : Nat) : Int) = x % 2 ^ n := by
    rw [Int.natCast_emod, hx]
    have : ((2 ^ n : Nat) : Int) ∣ 2 ^ 64 := by
      have : (2 : Nat) ^ n ∣ 2 ^ 64 := Nat.pow_dvd_pow 2 (by omega)
      exact_mod_cast this
    rw [Int.emod_emod_of_dvd _ this]
    simp
  have e3 : bAnd .i64 x (2 ^ n - 1 : Nat) = IntKind.i64.wrap (x % 2 ^ n) := by
    unfold bAnd
    rw [← e2, ← e]
    rfl
  rw [e3]
  have h1 : (0 : Int) ≤ x % 2 ^ n := Int.emod_nonneg _ (by have : (0 : Int) < 2 ^ n := Int.pow_pos (by decide); omega)
  have h2 : x % 2 ^ n < 2 ^ n := Int.emod_lt_of_pos _ (Int.pow_pos (by decide))
  have h3 : (2 : Int) ^ n ≤ 2 ^ 62 := by
    have : (2 : Nat) ^ n ≤ 2 ^ 62 := Nat.pow_le_pow_right (by decide) h
    exact_mod_cast this
  exact wrap_in (by omega) (by omega)
end
section
variable {P : Program} {o : Oper} {a : Act} {w w0 : World} {Q : Exit → Act → World → Prop} {n : Nat} {env : List (Nat × Value)} {L L' : List Asn} {K : Act → World → Prop}
theorem qb2 {op : BinOp} {t t' : TypeId} {x y : Operand} {u v r : Value} {d : Tmp} (hE : Env a n env) (k : ∀ a', Env a' n ((d, r) :: env) → K a' w) (ho : o.op = .binOp op t x y t' := by exact rfl) (hx : opv env x = some u := by exact rfl) (hy : opv env y = some v := by exact rfl) (hb : Bin P op t x y u v r := by first | exact bin_and | exact bin_or | exact bin_xor | exact bin_quo (by omega) | exact bin_rem (by omega) | exact bin_shl (by omega) | exact bin_shr (by omega)) (hd : o.dst = some d := by exact rfl) (hlt : Nat.blt d n = true := by exact rfl) : o.wp P a w K Q := o_bin hE ho hx hy hb hd hlt k
/-- A record in an owned row. -/
theorem qlR {α : Type} {f : α → List Value} {l : List α} {df : α} {ty e m : TypeId} {x : Operand} {A : Option Addr} {N c : Nat} {i : Int} {us : List Value} {d : Tmp} (hE : Env a n env) (hS : Sep w0 w L) (hf : ∀ x, (f x).length = m) (hus : f (l.getD i.toNat df) = us) (k : ∀ a', Env a' n ((d, .agg us.toArray) :: env) → K a' w)
    (ho : o.op = .load ty x := by exact rfl) (T : TyInfo P ty true m := by infer_instance) (hx : opv env x = some (.pointer (some ((adr A).add (i.toNat * m)))) := by exact rfl) (hp : Pull (row e m (.slice A N c) N (l.flatMap f)) L L' := by repeat (first | exact Pull.here | apply Pull.there))
    (h0 : 0 ≤ i := by omega) (h1 : i < (l.length : Int) := by omega) (hd : o.dst = some d := by exact rfl) (hlt : Nat.blt d n = true := by exact rfl) : o.wp P a w K Q := by
  subst hus
  have h := run_loadAt (P := P) (ty := ty) (flat_at hf ((Rd.row hS hp).at_) i h0 h1 df) (by rw [List.take_of_length_le (by rw [hf]; exact Nat.le_refl _)]) (hf _) (fun h => by cases h)
  exact o_val hE (by simp only [execOp, ho, hE.eval hx]; rw [Sem.run_bind, h]; rfl) hd hlt k
/-- A record's field in an owned row. -/
theorem qlF {α : Type} {f : α → List Value} {l : List α} {df : α} {ty e m off : TypeId} {x : Operand} {A : Option Addr} {N c : Nat} {i : Int} {v : Value} {d : Tmp} (hE : Env a n env) (hS : Sep w0 w L) (hf : ∀ x, (f x).length = m) (hus : (f (l.getD i.toNat df))[off]? = some v) (k : ∀ a', Env a' n ((d, v) :: env) → K a' w)
    (ho : o.op = .load ty x := by exact rfl) (T : TyInfo P ty false 1 := by infer_instance) (hx : opv env x = some (.pointer (some (((adr A).add (i.toNat * m)).add off))) := by exact rfl) (hp : Pull (row e m (.slice A N c) N (l.flatMap f)) L L' := by repeat (first | exact Pull.here | apply Pull.there))
    (h0 : 0 ≤ i := by omega) (h1 : i < (l.length : Int) := by omega) (hd : o.dst = some d := by exact rfl) (hlt : Nat.blt d n = true := by exact rfl) : o.wp P a w K Q := by
  have hA := (flat_at hf ((Rd.row hS hp).at_) i h0 h1 df).drop off
  have e1 : (f (l.getD i.toNat df)).drop off = v :: (f (l.getD i.toNat df)).drop (off + 1) := by rw [← (List.getElem?_eq_some_iff.1 hus).2]; exact List.drop_eq_getElem_cons _
  rw [e1] at hA
  have h := run_loadAt (P := P) (ty := ty) (us := [v]) hA rfl rfl (fun _ => rfl)
  exact o_val hE (by simp only [execOp, ho, hE.eval hx]; rw [Sem.run_bind, h]; rfl) hd hlt k
theorem flat_len {α : Type} {f : α → List Value} {m : Nat} (hf : ∀ x, (f x).length = m) : ∀ l : List α, (l.flatMap f).length = l.length * m
  | [] => by simp
  | x :: l => by simp only [List.flatMap_cons, List.length_append, List.length_cons, hf, flat_len hf l, Nat.add_mul]; omega
theorem flat_set {α : Type} {f : α → List Value} {m : Nat} (hf : ∀ x, (f x).length = m) {l : List α} {i off : Nat} {us : List Value} {df x' : α} (hi : i < l.length) (hu : off + us.length ≤ m) (h : putL (f (l.getD i df)) off us = f x') : putL (l.flatMap f) (i * m + off) us = (l.set i x').flatMap f := by
  have e : l = l.take i ++ (l[i] :: l.drop (i + 1)) := by rw [← List.drop_eq_getElem_cons hi, List.take_append_drop]
  have hg : l.getD i df = l[i] := by simp [hi]
  rw [hg] at h
  have hl : ((l.take i).flatMap f).length = i * m := by rw [flat_len hf, List.length_take, Nat.min_eq_left (Nat.le_of_lt hi)]
  have hset : l.set i x' = l.take i ++ (x' :: l.drop (i + 1)) := by rw [List.set_eq_take_append_cons_drop, if_pos hi]
  rw [hset, List.flatMap_append, List.flatMap_cons, ← h]
  conv => lhs; rw [e, List.flatMap_append, List.flatMap_cons]
  generalize (l.take i).flatMap f = p at *
  generalize (l.drop (i + 1)).flatMap f = q at *
  have hm := hf l[i]
  generalize f l[i] = z at *
  unfold putL
  have e1 : (p ++ (z ++ q)).take (i * m + off) = p ++ z.take off := by
    rw [← hl, List.take_length_add_append, List.take_append_of_le_length (by omega)]
  have e2 : (p ++ (z ++ q)).drop (i * m + off + us.length) = z.drop (off + us.length) ++ q := by
    rw [← hl, Nat.add_assoc, List.drop_length_add_append, List.drop_append_of_le_length (by omega)]
  rw [e1, e2]
  simp only [List.append_assoc]
/-- A store into an owned row. -/
theorem o_storeR {ty m e : TypeId} {b : Bool} {x y : Operand} {A : Option Addr} {sz N c k : Nat} {xs xs' : List Value} {v : Value} {p : Addr} [T : TyInfo P ty b m] (hE : Env a n env) (hS : Sep w0 w L) (ho : o.op = .store ty x y) (hx : opv env x = some (.pointer (some p))) (hy : opv env y = some v) (hpp : p = (adr A).add k)
    (hp : Pull (row e sz (.slice A N c) N xs) L L') (hm : (cellsL v).length = m) (h1' : (cellsL v).all Value.oneCell' = true) (hpos : 0 < (cellsL v).length) (hf : k + (cellsL v).length ≤ xs.length) (hc : putL xs k (cellsL v) = xs') (hd : o.dst = none)
    (kk : ∀ w', Sep w0 w' (row e sz (.slice A N c) N xs' :: L') → K a w') : o.wp P a w K Q := by
  have h1 : ∀ u ∈ v.cells.toList, u.oneCell' = true := fun u hu => List.all_eq_true.1 h1' u hu
  obtain ⟨i, hi, hs⟩ := info_of T.h2
  have hmm : v.cells.size = m := by rw [← hm]; simp [cellsL]
  have hz : (sizeOf ty).run P w = .ok v.cells.size w := by simp [sizeOf, typeInfo, hi, hs, hmm]
  have hrow := hS.row_at hp
  have hxl := hrow.1
  rcases hrow.2 with ⟨hv, rfl⟩ | ⟨g, cap, cur, hv, hbg, hg, hnc, hcm, hcs, htake⟩
  · exfalso
    have : xs.length = 0 := by simpa using hxl
    omega
  · cases hv
    have hcu : cur.toList.length = cur.size := Array.length_toList
    have hle : xs.length ≤ cur.size := by rw [hxl]; exact Nat.le_trans (Nat.mul_le_mul_right _ hnc) hcs
    have hst := run_storeCells_at P g k e v.cells.toList 0 cur w hg (by have : v.cells.toList.length = (cellsL v).length := rfl; rw [this]; omega) h1
    subst hpp
    subst hc
    have hxc : xs = cur.toList.take xs.length := by rw [hxl]; exact htake.symm
    have hcl : (putL cur.toList k (cellsL v)).length = cur.size := by rw [putL_length (by rw [hcu]; omega)]; exact hcu
    have hS' : Sep w0 (w.setRow g (putL cur.toList k (cellsL v)).toArray) ([row e sz (.slice (some ⟨g, 0, none⟩) N c) N (putL xs k (cellsL v))] ++ L') := by
      refine Sep.turn (M := [row e sz (.slice (some ⟨g, 0, none⟩) N c) N (putL xs k (cellsL v))]) (hS.pull hp) rfl rfl rfl (by simp) fun F hA hF => ⟨fun q _ hq => setRow_other w g q _ (fun e => hq ((hA.2 q).2 (by simp [Value.ownBlock, e]))), fun q => q = g, ⟨fun q => q = g, fun _ => False, fun q => by simp, fun _ _ h => h, ⟨⟨?_, .inr ⟨g, c, _, rfl, hbg, setRow_heap w g cur _ e _ hg, hnc, hcm, ?_, ?_⟩⟩, fun q => by simp [Value.ownBlock, eq_comm]⟩, fun _ h => h⟩, fun q hq => ?_⟩
      · rw [putL_length hf]; exact hxl
      · rw [List.size_toArray, hcl]; exact hcs
      · show (putL cur.toList k (cellsL v)).take (N * sz) = putL xs k (cellsL v)
        rw [← hxl]
        conv => rhs; rw [hxc]
        unfold putL
        rw [List.take_append, List.take_append, List.take_take, List.take_take, List.length_append, List.length_take, hcu]
        rw [Nat.min_eq_left (show k ≤ cur.size by omega), Nat.min_eq_right (show k ≤ xs.length by omega), List.take_of_length_le (show (cellsL v).length ≤ xs.length - k by omega), List.drop_take, Nat.min_eq_left (show k ≤ xs.length by omega)]
      · subst hq
        have h1 := (hA.2 q).2 (by simp [Value.ownBlock])
        exact ⟨.inl h1, by have := hF q h1; simpa using this⟩
    have had : (adr (some (⟨g, 0, none⟩ : Addr))).add k = ⟨g, k, none⟩ := by
      by_cases hk : k = 0 <;> simp [adr, Addr.add, hk]
    have hr : (execOp a.eval o).run P w = .ok .skip (w.setRow g (putL cur.toList k (cellsL v)).toArray) := by
      simp only [execOp, ho, hE.eval hx, hE.eval hy, Instr.storeAt, Instr.sureAddr, storeVar]
      simp only [Sem.run_bind, Sem.run_pure, Result.andThen_ok, hz, ne_eq, not_true_eq_false, if_false, had]
      rw [hst]
      simp [putL, cellsL]
    unfold Oper.wp
    rw [hr]
    show K (a.put o.dst undef) _
    rw [hd]
    exact kk _ hS'
/-- A record, or a part of one, is written anew in an owned row. -/
theorem qsR {α : Type} {f : α → List Value} {l : List α} {df : α} (x' : α) {ty m e mm off : TypeId} {b : Bool} {x y : Operand} {A : Option Addr} {N c : Nat} {i : Int} {v : Value} {p : Addr} (hE : Env a n env) (hS : Sep w0 w L) (hf : ∀ x, (f x).length = mm) (hset : putL (f (l.getD i.toNat df)) off (cellsL v) = f x')
    (kk : ∀ w', Sep w0 w' (row e mm (.slice A N c) N ((l.set i.toNat x').flatMap f) :: L') → K a w')
    (ho : o.op = .store ty x y := by exact rfl) (T : TyInfo P ty b m := by infer_instance) (hx : opv env x = some (.pointer (some p)) := by exact rfl) (hy : opv env y = some v := by exact rfl) (hpp : p = (adr A).add (i.toNat * mm + off) := by first | exact rfl | exact Addr.add_add _ _ _ | (simp only [Addr.add_add, Nat.add_assoc, Nat.add_zero]; done))
    (hp : Pull (row e mm (.slice A N c) N (l.flatMap f)) L L' := by repeat (first | exact Pull.here | apply Pull.there)) (hm : (cellsL v).length = m := by exact rfl) (h1' : (cellsL v).all Value.oneCell' = true := by exact rfl) (hpos : Nat.blt 0 (cellsL v).length = true := by exact rfl) (hfit : Nat.ble (off + (cellsL v).length) mm = true := by exact rfl)
    (h0 : 0 ≤ i := by omega) (h1 : i < (l.length : Int) := by omega) (hd : o.dst = none := by exact rfl) : o.wp P a w K Q := by
  have hi : i.toNat < l.length := by omega
  have hfit := Nat.le_of_ble_eq_true hfit
  have hpos : 0 < (cellsL v).length := by have := Nat.le_of_ble_eq_true hpos; omega
  have hmul : (i.toNat + 1) * mm ≤ l.length * mm := Nat.mul_le_mul_right _ hi
  exact o_storeR hE hS ho hx hy hpp hp hm h1' hpos (by rw [flat_len hf]; rw [Nat.add_mul] at hmul; omega) (flat_set hf hi hfit hset) hd kk
theorem Rd.flat_take {α : Type} {f : α → List Value} {A : Option Addr} {l : List α} (h : Rd w A (l.flatMap f)) (k : Nat) : Rd w A ((l.take k).flatMap f) := fun j u hj => by
  refine h j u ?_
  have e : l.flatMap f = (l.take k).flatMap f ++ (l.drop k).flatMap f := by rw [← List.flatMap_append, List.take_append_drop]
  rw [e, List.getElem?_append_left (List.getElem?_eq_some_iff.1 hj).1]
  exact hj
end
end Go.Sx
/- DERIVED. Fields of records that were there at the start. No condition. -/
namespace Go.Sx
open Go.RowKit
set_option linter.unusedVariables false
set_option linter.unusedSimpArgs false
section
variable {P : Program} {o : Oper} {a : Act} {w w0 : World} {Q : Exit → Act → World → Prop} {n : Nat} {env : List (Nat × Value)} {L L' : List Asn} {K : Act → World → Prop} {G : List (Nat × List Value × TypeId)}
theorem fld_at {α : Type} {f : α → List Value} {m off : Nat} {l : List α} {df : α} {ad p : Addr} {i : Int} {v : Value} (hf : ∀ x, (f x).length = m) (hA : At w ad (l.flatMap f)) (h0 : 0 ≤ i) (h1 : i < (l.length : Int)) (hus : (f (l.getD i.toNat df))[off]? = some v) (hpp : p = ad.add (i.toNat * m + off)) : At w p (v :: (f (l.getD i.toNat df)).drop (off + 1)) := by
  subst hpp
  have hA := (flat_at hf hA i h0 h1 df).drop off
  rw [Addr.add_add] at hA
  rwa [show (f (l.getD i.toNat df)).drop off = v :: (f (l.getD i.toNat df)).drop (off + 1) by rw [← (List.getElem?_eq_some_iff.1 hus).2]; exact List.drop_eq_getElem_cons _] at hA
theorem flds_at {α : Type} {f : α → List Value} {m off : Nat} {l : List α} {df : α} {ad p : Addr} {i : Int} (hf : ∀ x, (f x).length = m) (hA : At w ad (l.flatMap f)) (h0 : 0 ≤ i) (h1 : i < (l.length : Int)) (hpp : p = ad.add (i.toNat * m + off)) : At w p ((f (l.getD i.toNat df)).drop off) := by
  subst hpp
  have hA := (flat_at hf hA i h0 h1 df).drop off
  rwa [Addr.add_add] at hA
/-- Which function an operation calls. -/
def callOf (o : Oper) : Option Nat := match o.op with
  | .call c => match c.callee with
    | .value (.func f) => some f
    | _ => none
  | _ => none
theorem is_call (f : Nat) (h : callOf o = some f) (k : o.wp P a w K Q) : o.wp P a w K Q := k
/-- A cut behind a condition. -/
theorem c_midc {t : Tmp} {ca cb c2 : Code} {I : Act → World → Prop} (h1 : (Code.cond (.tmp t) ca cb).wp P (Exit.then I Q) a w) (h2 : ∀ a w, I a w → c2.wp P Q a w) : ((Code.cond (.tmp t) ca cb).seq c2).wp P Q a w :=
  wp_seq (Code.wp_mono (fun e a w h => by cases e <;> first | exact h2 _ _ h | exact h) h1)
/-- A field of what lies in a row. -/
theorem qFF {ty : TypeId} {f off : Nat} {x : Operand} {ad : Addr} {q : Nat} {d : Tmp} (hE : Env a n env) (k : ∀ a', Env a' n ((d, .pointer (some (ad.add (q + off)))) :: env) → K a' w) (ho : o.op = .fieldAddr ty x f := by exact rfl) (T : FieldTy P ty f off := by infer_instance) (hx : opv env x = some (.pointer (some (ad.add q))) := by exact rfl) (hd : o.dst = some d := by exact rfl) (hlt : Nat.blt d n = true := by exact rfl) : o.wp P a w K Q :=
  o_field hE ho hx hd hlt (by rw [Addr.add_add]; exact k)
theorem y_fieldFF {S : World → Prop} {ty : TypeId} {f off : Nat} {x : Operand} {ad : Addr} {q : Nat} (ho : o.op = .fieldAddr ty x f := by exact rfl) (T : FieldTy P ty f off := by infer_instance) (hx : opv env x = some (.pointer (some (ad.add q))) := by exact rfl) : Y P env S o (.pointer (some (ad.add (q + off)))) := by
  rw [← Addr.add_add]
  exact y_fieldF ho T hx
/-- A record's field in an owned row, its address in one. -/
theorem qlFF {α : Type} {f : α → List Value} {l : List α} {df : α} (off : Nat) {ty m e : TypeId} {x : Operand} {A : Option Addr} {N c : Nat} {i : Int} {v : Value} {p : Addr} {d : Tmp} (hE : Env a n env) (hS : Sep w0 w L) (hf : ∀ x, (f x).length = m) (hus : (f (l.getD i.toNat df))[off]? = some v) (k : ∀ a', Env a' n ((d, v) :: env) → K a' w)
    (ho : o.op = .load ty x := by exact rfl) (T : TyInfo P ty false 1 := by infer_instance) (hx : opv env x = some (.pointer (some p)) := by exact rfl) (hp : Pull (row e m (.slice A N c) N (l.flatMap f)) L L' := by repeat (first | exact Pull.here | apply Pull.there)) (hpp : p = (adr A).add (i.toNat * m + off) := by first | exact rfl | exact Addr.add_add _ _ _)
    (h0 : 0 ≤ i := by omega) (h1 : i < (l.length : Int) := by omega) (hd : o.dst = some d := by exact rfl) (hlt : Nat.blt d n = true := by exact rfl) : o.wp P a w K Q := by
  have hA := fld_at hf ((Rd.row hS hp).at_) h0 h1 hus hpp
  have h := run_loadAt (P := P) (ty := ty) (us := [v]) hA rfl rfl (fun _ => rfl)
  exact o_val hE (by simp only [execOp, ho, hE.eval hx]; rw [Sem.run_bind, h]; rfl) hd hlt k
/-- The whole of a block is written anew. -/
theorem qst0 {ty m : TypeId} {b : Bool} {x y : Operand} {g : Nat} {cs cs' : List Value} {t : TypeId} {L' : List Asn} {v : Value} (hE : Env a n env) (hS : Sep w0 w L) (k : ∀ w', Sep w0 w' (blk g cs' t :: L') → K a w') (ho : o.op = .store ty x y := by exact rfl) (T : TyInfo P ty b m := by infer_instance) (hx : opv env x = some (.pointer (some ⟨g, 0, none⟩)) := by exact rfl) (hy : opv env y = some v := by exact rfl)
    (hp : Pull (blk g cs t) L L' := by repeat (first | exact Pull.here | apply Pull.there)) (hm : (cellsL v).length = m := by exact rfl) (h1' : (cellsL v).all Value.oneCell' = true := by exact rfl) (hl : Nat.beq (cellsL v).length cs.length = true := by exact rfl) (hc : cellsL v = cs' := by (try simp only [cellsL_agg, cellsL_int, cellsL_bool, cellsL_string, cellsL_slice, cellsL_pointer, cellsL_map, cellsL_func, cellsL_nilFunc, cellsL_iface, cellsL_nilIface]); first | done | rfl) (hd : o.dst = none := by exact rfl) : o.wp P a w K Q := by
  have hl := Nat.eq_of_beq_eq_true hl
  refine qst hE hS k ho T hx hy hp hm h1' (Nat.ble_eq_true_of_le (by omega)) ?_ hd
  subst hc
  simp [putL, hl]
/-- A slice of one. -/
theorem qbs1 {ty e : TypeId} {sz : Nat} {zs cs' : List Value} {y : Operand} {v : Value} {d : Tmp} (hE : Env a n env) (hS : Sep w0 w L) (k : ∀ g a' w', Env a' n ((d, .slice (some ⟨g, 0, none⟩) 1 1) :: env) → Sep w0 w' (row e sz (.slice (some ⟨g, 0, none⟩) 1 1) 1 cs' :: L) → K a' w') (ho : o.op = .buildSlice ty 1 #[(0, y)] := by exact rfl) (T : SliceTy P ty e sz := by infer_instance) (Z : ZeroTy P e zs := by infer_instance) (hy : opv env y = some v := by exact rfl) (hz : Nat.beq zs.length sz = true := by exact rfl) (hsz : Nat.ble sz 4096 = true := by exact rfl) (hs1 : Nat.ble 1 sz = true := by exact rfl)
    (hm : Nat.beq (cellsL v).length sz = true := by exact rfl) (hc : cellsL v = cs' := by (try simp only [cellsL_agg, cellsL_int, cellsL_bool, cellsL_string, cellsL_slice, cellsL_pointer, cellsL_map, cellsL_func, cellsL_nilFunc, cellsL_iface, cellsL_nilIface]); first | done | rfl) (hd : o.dst = some d := by exact rfl) (hlt : Nat.blt d n = true := by exact rfl) : o.wp P a w K Q := by
  have hz' := Nat.eq_of_beq_eq_true hz
  have hm' := Nat.eq_of_beq_eq_true hm
  have hsz' := Nat.le_of_ble_eq_true hsz
  have hs1' := Nat.le_of_ble_eq_true hs1
  subst hc
  refine qbs (vs := [(0, v)]) (cs := cellsL v) hE hS k ho T Z ?_ (Nat.ble_eq_true_of_le (by omega)) (Nat.ble_eq_true_of_le (by omega)) hz ?_ rfl (by simp [hm']) (by decide) hd hlt
  · simp [partsOf, hy]
  · have e1 : sz.ble sz = true := Nat.ble_eq_true_of_le (Nat.le_refl _)
    simp [bld, putL, hm', e1]
/-- A number in an owned row of numbers. -/
theorem qlI {ty e : TypeId} {x : Operand} {A : Option Addr} {N c : Nat} {i : Int} {xs : List Int} {v : Int} {d : Tmp} (hE : Env a n env) (hS : Sep w0 w L) (k : ∀ a', Env a' n ((d, .int .i64 v) :: env) → K a' w) (hv : xs.getD i.toNat 0 = v := by exact rfl) (ho : o.op = .load ty x := by exact rfl) (T : TyInfo P ty false 1 := by infer_instance) (hx : opv env x = some (.pointer (some ((adr A).add (i.toNat * 1)))) := by exact rfl)
    (hp : Pull (row e 1 (.slice A N c) N (ints xs)) L L' := by repeat (first | exact Pull.here | apply Pull.there)) (h0 : 0 ≤ i := by omega) (h1 : i < (xs.length : Int) := by omega) (hd : o.dst = some d := by exact rfl) (hlt : Nat.blt d n = true := by exact rfl) : o.wp P a w K Q := by
  subst hv
  refine qlr hE hS k ho T hx hp ?_ hd hlt
  have : i.toNat < xs.length := by omega
  simp [ints, this]
/-- A field of one cell. -/
theorem q0F {α : Type} {f : α → List Value} {l : List α} {df : α} (off : Nat) {ty m : TypeId} {x : Operand} {ad p : Addr} {i : Int} {v : Value} {d : Tmp} (hE : Env a n env) (hS : Sep w0 w L) (hf : ∀ x, (f x).length = m) (hA : At w0 ad (l.flatMap f)) (hus : (f (l.getD i.toNat df))[off]? = some v) (k : ∀ a', Env a' n ((d, v) :: env) → K a' w)
    (ho : o.op = .load ty x := by exact rfl) (T : TyInfo P ty false 1 := by infer_instance) (hx : opv env x = some (.pointer (some p)) := by exact rfl) (hpp : p = ad.add (i.toNat * m + off) := by first | exact rfl | exact Addr.add_add _ _ _)
    (h0 : 0 ≤ i := by omega) (h1 : i < (l.length : Int) := by omega) (hd : o.dst = some d := by exact rfl) (hlt : Nat.blt d n = true := by exact rfl) : o.wp P a w K Q :=
  q0 hE hS (fld_at hf hA h0 h1 hus hpp) k ho T hx hd hlt
/-- Some cells of it. -/
theorem q0FA {α : Type} {f : α → List Value} {l : List α} {df : α} (off : Nat) {ty m mm : TypeId} {x : Operand} {ad p : Addr} {i : Int} {us : List Value} {d : Tmp} (hE : Env a n env) (hS : Sep w0 w L) (hf : ∀ x, (f x).length = m) (hA : At w0 ad (l.flatMap f)) (hus : ((f (l.getD i.toNat df)).drop off).take mm = us) (k : ∀ a', Env a' n ((d, .agg us.toArray) :: env) → K a' w)
    (ho : o.op = .load ty x := by exact rfl) (T : TyInfo P ty true mm := by infer_instance) (hx : opv env x = some (.pointer (some p)) := by exact rfl) (hpp : p = ad.add (i.toNat * m + off) := by first | exact rfl | exact Addr.add_add _ _ _) (hm : us.length = mm := by exact rfl)
    (h0 : 0 ≤ i := by omega) (h1 : i < (l.length : Int) := by omega) (hd : o.dst = some d := by exact rfl) (hlt : Nat.blt d n = true := by exact rfl) : o.wp P a w K Q :=
  q00 hE hS (flds_at hf hA h0 h1 hpp) k ho T hx hus hm hd hlt
end
end Go.Sx
/- DERIVED. Slices of slices, cut rows, copy, cap, a slice held against nil. No condition. -/
namespace Go.Sx
open Go.RowKit
set_option linter.unusedVariables false
set_option linter.unusedSimpArgs false
/-- Where a slice of a slice begins. -/
def subA (A : Option Addr) (q cap sz : Nat) : Option Addr := if cap = q then A else A.map (·.add (q * sz))
section
variable {P : Program} {w w0 : World} {L L' : List Asn}
theorem Rd.sub {A : Option Addr} {xs : List Value} {n cap sz : Nat} (h : Rd w A xs) (hl : xs.length = n * sz) (q : Nat) (hq : q ≤ n) (hn : n ≤ cap) : Rd w (subA A q cap sz) (xs.drop (q * sz)) := by
  unfold subA
  split
  · have : xs.drop (q * sz) = [] := List.drop_eq_nil_of_le (by rw [hl, show n = q by omega]; exact Nat.le_refl _)
    rw [this]; exact Rd.nil
  · intro j u hj
    rw [List.getElem?_drop] at hj
    obtain ⟨a, rfl, hc⟩ := h _ _ hj
    exact ⟨_, rfl, by rw [Addr.add_add]; exact hc⟩
theorem oRow.cut {base : Nat} {e : TypeId} {sz n c : Nat} {A : Option Addr} {xs : List Value} (h : oRow w base e sz (.slice A n c) n xs) {k k' : Nat} (hkn : k ≤ n) (hkk : k ≤ k') (hkc : k' ≤ c) : oRow w base e sz (.slice A k k') k (xs.take (k * sz)) := by
  have hle : k * sz ≤ n * sz := Nat.mul_le_mul_right _ hkn
  refine ⟨by rw [List.length_take, h.1, Nat.min_eq_left hle], ?_⟩
  rcases h.2 with ⟨hv, hn⟩ | ⟨g, cap, cur, hv, hb, hg, hnc, hcm, hcs, ht⟩
  · cases hv
    exact .inl ⟨by rw [show k = 0 by omega, show k' = 0 by omega], by omega⟩
  · cases hv
    exact .inr ⟨g, k', cur, rfl, hb, hg, hkk, by omega, Nat.le_trans (Nat.mul_le_mul_right _ hkc) hcs, by rw [← ht, List.take_take, Nat.min_eq_left hle]⟩
/-- An owned row, cut. -/
theorem Sep.row_cut {e : TypeId} {sz n c : Nat} {A : Option Addr} {xs : List Value} (hS : Sep w0 w L) (k k' : Nat) (hkn : k ≤ n) (hkk : k ≤ k') (hkc : k' ≤ c) (hp : Pull (row e sz (.slice A n c) n xs) L L' := by repeat (first | exact Pull.here | apply Pull.there)) : Sep w0 w (row e sz (.slice A k k') k (xs.take (k * sz)) :: L') := by
  have h := hS.pull hp
  obtain ⟨F, ⟨F1, F2, hF, hd, ⟨hA, hA2⟩, hL⟩, hr⟩ := h.own
  refine ⟨h.below, F, ⟨F1, F2, hF, hd, ⟨hA.cut hkn hkk hkc, fun q => ?_⟩, hL⟩, hr⟩
  rw [hA2 q]
  cases A <;> rfl
theorem Sep.row_cap {e : TypeId} {sz n c : Nat} {A : Option Addr} {xs : List Value} (hS : Sep w0 w L) (hp : Pull (row e sz (.slice A n c) n xs) L L' := by repeat (first | exact Pull.here | apply Pull.there)) : n ≤ c ∧ c ≤ maxLen ∧ xs.length = n * sz := by
  have h := hS.row_at hp
  rcases h.2 with ⟨hv, hn⟩ | ⟨g, cap, cur, hv, hb, hg, hnc, hcm, hcs, ht⟩
  · cases hv; exact ⟨Nat.le_refl _, Nat.zero_le _, h.1⟩
  · cases hv; exact ⟨hnc, hcm, h.1⟩
end
section
variable {P : Program} {o : Oper} {a : Act} {w w0 : World} {Q : Exit → Act → World → Prop} {n : Nat} {env : List (Nat × Value)} {L L' : List Asn} {K : Act → World → Prop}
/-- x[l:]. -/
theorem qsL {t e : TypeId} {sz : Nat} {x y : Operand} {A : Option Addr} {len cap : Nat} {kd : IntKind} {l : Int} (q : Nat) {d : Tmp} (hE : Env a n env) (k : ∀ a', Env a' n ((d, .slice (subA A q cap sz) (len - q) (cap - q)) :: env) → K a' w)
    (ho : o.op = .slice t x (some y) none none := by exact rfl) (T : SliceTy P t e sz := by infer_instance) (hx : opv env x = some (.slice A len cap) := by exact rfl) (hy : opv env y = some (.int kd l) := by exact rfl) (hq : l = (q : Int) := by omega) (hc : q ≤ len := by omega) (hd : o.dst = some d := by exact rfl) (hlt : Nat.blt d n = true := by exact rfl) : o.wp P a w K Q := by
  subst hq
  obtain ⟨i, hi, hs⟩ := info_of T.h2
  have e1 := T.h1
  have he : P.elem t = e := by simp [Program.elem, e1]
  have hsi : (sizeOf (P.elem t)).run P w = .ok i.size w := by rw [he]; simp [sizeOf, typeInfo, hi]
  have hr := run_slice_l (P := P) w t A len cap (elem_of T.h1) kd (q : Int) (by omega) (by omega)
  unfold Oper.wp execOp
  simp only [ho, Option.map_some, Option.map_none, hE.eval hx, hE.eval hy]
  simp only [Sem.run_bind, hr, hsi, hs, Result.andThen_ok, sliced, Int.toNat_natCast, Sem.run_pure, run_sliceAt_slice w t _ _ _ _ (elem_of T.h1)]
  exact k _ (hE.putS _ hd hlt)
/-- x[l:h]. -/
theorem qsLH {t e : TypeId} {sz : Nat} {x y z : Operand} {A : Option Addr} {len cap : Nat} {kd kd' : IntKind} {l h : Int} (q m : Nat) {d : Tmp} (hE : Env a n env) (k : ∀ a', Env a' n ((d, .slice (subA A q cap sz) (m - q) (cap - q)) :: env) → K a' w)
    (ho : o.op = .slice t x (some y) (some z) none := by exact rfl) (T : SliceTy P t e sz := by infer_instance) (hx : opv env x = some (.slice A len cap) := by exact rfl) (hy : opv env y = some (.int kd l) := by exact rfl) (hz : opv env z = some (.int kd' h) := by exact rfl) (hq : l = (q : Int) := by omega) (hm : h = (m : Int) := by omega) (hc : q ≤ m := by omega) (hc2 : m ≤ cap := by omega) (hd : o.dst = some d := by exact rfl) (hlt : Nat.blt d n = true := by exact rfl) : o.wp P a w K Q := by
  subst hq hm
  obtain ⟨i, hi, hs⟩ := info_of T.h2
  have e1 := T.h1
  have he : P.elem t = e := by simp [Program.elem, e1]
  have hsi : (sizeOf (P.elem t)).run P w = .ok i.size w := by rw [he]; simp [sizeOf, typeInfo, hi]
  have hr := run_slice_lh (P := P) w t A len cap (elem_of T.h1) kd kd' (q : Int) (m : Int) (by omega) (by omega) (by omega)
  unfold Oper.wp execOp
  simp only [ho, Option.map_some, Option.map_none, hE.eval hx, hE.eval hy, hE.eval hz]
  simp only [Sem.run_bind, hr, hsi, hs, Result.andThen_ok, sliced, Int.toNat_natCast, Sem.run_pure, run_sliceAt_slice w t _ _ _ _ (elem_of T.h1)]
  exact k _ (hE.putS _ hd hlt)
/-- x[l:h:m]. -/
theorem qsLHM {t e : TypeId} {sz : Nat} {x y z u : Operand} {A : Option Addr} {len cap : Nat} {kd kd' kd2 : IntKind} {l h m : Int} (q r s : Nat) {d : Tmp} (hE : Env a n env) (k : ∀ a', Env a' n ((d, .slice (subA A q s sz) (r - q) (s - q)) :: env) → K a' w)
    (ho : o.op = .slice t x (some y) (some z) (some u) := by exact rfl) (T : SliceTy P t e sz := by infer_instance) (hx : opv env x = some (.slice A len cap) := by exact rfl) (hy : opv env y = some (.int kd l) := by exact rfl) (hz : opv env z = some (.int kd' h) := by exact rfl) (hu : opv env u = some (.int kd2 m) := by exact rfl) (hq : l = (q : Int) := by omega) (hm : h = (r : Int) := by omega) (hs : m = (s : Int) := by omega) (hc : q ≤ r := by omega) (hc1 : r ≤ s := by omega) (hc2 : s ≤ cap := by omega) (hd : o.dst = some d := by exact rfl) (hlt : Nat.blt d n = true := by exact rfl) : o.wp P a w K Q := by
  subst hq hm hs
  obtain ⟨i, hi, hs⟩ := info_of T.h2
  have e1 := T.h1
  have he : P.elem t = e := by simp [Program.elem, e1]
  have hsi : (sizeOf (P.elem t)).run P w = .ok i.size w := by rw [he]; simp [sizeOf, typeInfo, hi]
  have hr := run_slice_lhm (P := P) w t A len cap (elem_of T.h1) kd kd' kd2 (q : Int) (r : Int) (s : Int) (by omega) (by omega) (by omega) (by omega)
  unfold Oper.wp execOp
  simp only [ho, Option.map_some, Option.map_none, hE.eval hx, hE.eval hy, hE.eval hz, hE.eval hu]
  simp only [Sem.run_bind, hr, hsi, hs, Result.andThen_ok, sliced, Int.toNat_natCast, Sem.run_pure, run_sliceAt_slice w t _ _ _ _ (elem_of T.h1)]
  exact k _ (hE.putS _ hd hlt)
/-- x[:h:m]. -/
theorem qsHM {t e : TypeId} {sz : Nat} {x y z : Operand} {A : Option Addr} {len cap : Nat} {kd kd' : IntKind} {h m : Int} (q r : Nat) {d : Tmp} (hE : Env a n env) (k : ∀ a', Env a' n ((d, .slice A q r) :: env) → K a' w)
    (ho : o.op = .slice t x none (some y) (some z) := by exact rfl) (T : SliceTy P t e sz := by infer_instance) (hx : opv env x = some (.slice A len cap) := by exact rfl) (hy : opv env y = some (.int kd h) := by exact rfl) (hz : opv env z = some (.int kd' m) := by exact rfl) (hq : h = (q : Int) := by omega) (hm : m = (r : Int) := by omega) (hc : q ≤ r := by omega) (hc2 : r ≤ cap := by omega) (hd : o.dst = some d := by exact rfl) (hlt : Nat.blt d n = true := by exact rfl) : o.wp P a w K Q := by
  subst hq hm
  obtain ⟨i, hi, hs⟩ := info_of T.h2
  have e1 := T.h1
  have he : P.elem t = e := by simp [Program.elem, e1]
  have hsi : (sizeOf (P.elem t)).run P w = .ok i.size w := by rw [he]; simp [sizeOf, typeInfo, hi]
  have hr := run_slice_hm (P := P) w t A len cap (elem_of T.h1) kd kd' (q : Int) (r : Int) (by omega) (by omega) (by omega)
  have e2 : (if r = 0 then A else A.map fun b => b.add (0 * i.size)) = A := by cases A <;> simp [Addr.add]
  unfold Oper.wp execOp
  simp only [ho, Option.map_some, Option.map_none, hE.eval hx, hE.eval hy, hE.eval hz]
  simp only [Sem.run_bind, hr, hsi, Result.andThen_ok, sliced, e2, Nat.sub_zero, Int.toNat_natCast, Sem.run_pure, run_sliceAt_slice w t _ _ _ _ (elem_of T.h1)]
  exact k _ (hE.putS _ hd hlt)
/-- cap. -/
theorem qcap {t : TypeId} {x : Operand} {ad : Option Addr} {len cap : Nat} {e sz : Nat} {d : Tmp} (hE : Env a n env) (k : ∀ a', Env a' n ((d, .int .i64 cap) :: env) → K a' w) (ho : o.op = .call { callee := .builtin .cap, args := #[x], argTypes := #[t] } := by exact rfl) (T : SliceTy P t e sz := by infer_instance) (hx : opv env x = some (.slice ad len cap) := by exact rfl) (hd : o.dst = some d := by exact rfl) (hlt : Nat.blt d n = true := by exact rfl) : o.wp P a w K Q := by
  have e1 := T.h1
  unfold Oper.wp execOp
  simp only [ho, resolve, invoke, builtin, Sem.run_bind, Sem.run_pure, Result.andThen_ok, List.map_toArray, List.map_cons, List.map_nil, hE.eval hx]
  have hr : (Builtin.cap_ #[t] o.type #[.slice ad len cap]).run P w = .ok (.int .i64 cap) w := by simp [Builtin.cap_, run_underlying e1, goInt]
  rw [hr]
  exact k _ (hE.putS _ hd hlt)
/-- A slice held against nil. -/
theorem qnil {t t' : TypeId} {x y : Operand} {A : Option Addr} {len cap c1 c2 : Nat} {e sz : Nat} {d : Tmp} (hE : Env a n env) (k : ∀ a', Env a' n ((d, .bool A.isNone) :: env) → K a' w) (ho : o.op = .binOp .eql t x y t' := by exact rfl) (T : SliceTy P t e sz := by infer_instance) (hx : opv env x = some (.slice A len cap) := by exact rfl) (hy : opv env y = some (.slice none c1 c2) := by exact rfl) (hd : o.dst = some d := by exact rfl) (hlt : Nat.blt d n = true := by exact rfl) : o.wp P a w K Q := by
  have e1 := T.h1
  refine o_val hE ?_ hd hlt k
  simp only [execOp, ho, hE.eval hx, hE.eval hy]
  have hd' : Op.maxDepth = 9999 + 1 := rfl
  have hq : (Op.equalIn Op.maxDepth t (.slice A len cap) (.slice none c1 c2)).run P w = .ok A.isNone w := by
    rw [hd']
    unfold Op.equalIn
    cases A <;> simp [run_underlying e1]
  cases A <;> simp [eqGuard, binOp, Op.equal, hq]
/-- append, to a part of an owned row. -/
theorem qapc {s x : Operand} {t e : TypeId} {sz k k' q c m c2 N : Nat} {A B : Option Addr} {xs news ys : List Value} {d : Tmp} (hE : Env a n env) (hS : Sep w0 w L) (hnews : Rd w B news) (h1 : ∀ u ∈ news, u.oneCell' = true)
    (kk : ∀ A' c' a' w', Env a' n ((d, .slice A' N c') :: env) → Sep w0 w' (row e sz (.slice A' N c') N ys :: L') → K a' w')
    (ho : o.op = .call { callee := .builtin .append, args := #[s, x], argTypes := #[t, t] } := by exact rfl) (T : AppTy P t e sz := by infer_instance) (hs : opv env s = some (.slice A k k') := by exact rfl) (hx : opv env x = some (.slice B m c2) := by exact rfl)
    (hp : Pull (row e sz (.slice A q c) q xs) L L' := by repeat (first | exact Pull.here | apply Pull.there)) (hkn : k ≤ q := by omega) (hkk : k ≤ k' := by omega) (hkc : k' ≤ c := by omega)
    (hl : news.length = m * sz := by first | rfl | (simp [ints]; done) | (simp [ints]; omega)) (hN : k + m = N := by omega) (hb : N ≤ 1073741824 := by omega)
    (hY : xs.take (k * sz) ++ news = ys := by exact rfl) (hd : o.dst = some d := by exact rfl) (hlt : Nat.blt d n = true := by exact rfl) : o.wp P a w K Q :=
  qap hE (hS.row_cut k k' hkn hkk hkc hp) hnews h1 kk ho T hs hx Pull.here hl hN hb hY hd hlt
end
end Go.Sx
/- DERIVED. copy into an owned row, append of zeros that grows, slices.overlaps of two rows. No condition. -/
namespace Go.Sx
open Go.RowKit
set_option linter.unusedVariables false
set_option linter.unusedSimpArgs false
/-- slices.overlaps at a slice type. -/
class OvTy (P : Program) (f : FuncId) (t : outParam TypeId) : Prop where
  h : ∃ fn tR, P.funcs[f]? = some fn ∧ (fn.name == "runtime.NumGoroutine") = false ∧ fn.body.isNone = true ∧ Extern.findNext fn = none ∧ Extern.find fn = some (Extern.SlicesOverlaps.overlaps #[t, t] #[tR])
section
variable {P : Program} {o : Oper} {a : Act} {w w0 : World} {Q : Exit → Act → World → Prop} {n : Nat} {env : List (Nat × Value)} {L L' : List Asn} {K : Act → World → Prop}
theorem setRow_row {e : TypeId} {sz N c g k : Nat} {xs us : List Value} (hS : Sep w0 w (row e sz (.slice (some ⟨g, 0, none⟩) N c) N xs :: L)) (hf : k + us.length ≤ xs.length) : ∃ cur, w.heap[g]? = some (.cells cur e (0, 0)) ∧ k + us.length ≤ cur.size ∧
    Sep w0 (w.setRow g (putL cur.toList k us).toArray) (row e sz (.slice (some ⟨g, 0, none⟩) N c) N (putL xs k us) :: L) := by
  have hrow := hS.row_at Pull.here
  have hxl := hrow.1
  rcases hrow.2 with ⟨hv, _⟩ | ⟨g', cap, cur, hv, hbg, hg, hnc, hcm, hcs, htake⟩
  · cases hv
  · cases hv
    have hcu : cur.toList.length = cur.size := Array.length_toList
    have hle : xs.length ≤ cur.size := by rw [hxl]; exact Nat.le_trans (Nat.mul_le_mul_right _ hnc) hcs
    have hcl : (putL cur.toList k us).length = cur.size := by rw [putL_length (by rw [hcu]; omega)]; exact hcu
    have hxc : xs = cur.toList.take xs.length := by rw [hxl]; exact htake.symm
    refine ⟨cur, hg, by omega, ?_⟩
    refine Sep.turn (M := [row e sz (.slice (some ⟨g, 0, none⟩) N c) N (putL xs k us)]) hS rfl rfl rfl (by simp) fun F hA hF => ⟨fun q _ hq => setRow_other w g q _ (fun e => hq ((hA.2 q).2 (by simp [Value.ownBlock, e]))), fun q => q = g, ⟨fun q => q = g, fun _ => False, fun q => by simp, fun _ _ h => h, ⟨⟨?_, .inr ⟨g, c, _, rfl, hbg, setRow_heap w g cur _ e _ hg, hnc, hcm, ?_, ?_⟩⟩, fun q => by simp [Value.ownBlock, eq_comm]⟩, fun _ h => h⟩, fun q hq => ?_⟩
    · rw [putL_length hf]; exact hxl
    · rw [List.size_toArray, hcl]; exact hcs
    · show (putL cur.toList k us).take (N * sz) = putL xs k us
      rw [← hxl]
      conv => rhs; rw [hxc]
      unfold putL
      rw [List.take_append, List.take_append, List.take_take, List.take_take, List.length_append, List.length_take, hcu]
      rw [Nat.min_eq_left (show k ≤ cur.size by omega), Nat.min_eq_right (show k ≤ xs.length by omega), List.take_of_length_le (show us.length ≤ xs.length - k by omega), List.drop_take, Nat.min_eq_left (show k ≤ xs.length by omega)]
    · subst hq
      have h1 := (hA.2 q).2 (by simp [Value.ownBlock])
      exact ⟨.inl h1, by have := hF q h1; simpa using this⟩
/-- copy, into an owned row from its q-th element on. -/
theorem qcp {s x : Operand} {t e : TypeId} {sz N c dl dc m c2 : Nat} (q cnt : Nat) {A B : Option Addr} {xs news ys : List Value} {d : Tmp} (hE : Env a n env) (hS : Sep w0 w L) (hnews : Rd w B news) (h1 : ∀ u ∈ news.take (cnt * sz), u.oneCell' = true)
    (kk : ∀ a' w', Env a' n ((d, .int .i64 cnt) :: env) → Sep w0 w' (row e sz (.slice A N c) N ys :: L') → K a' w')
    (hl : news.length = m * sz) (hsz : 1 ≤ sz) (hpos : 0 < cnt) (hqc : q < c) (hfit : q + cnt ≤ N) (hcnt : min m dl = cnt) (hY : putL xs (q * sz) (news.take (cnt * sz)) = ys)
    (ho : o.op = .call { callee := .builtin .copy, args := #[s, x], argTypes := #[t, t] } := by exact rfl) (T : SliceTy P t e sz := by infer_instance) (hs : opv env s = some (.slice (subA A q c sz) dl dc) := by exact rfl) (hx : opv env x = some (.slice B m c2) := by exact rfl)
    (hp : Pull (row e sz (.slice A N c) N xs) L L' := by repeat (first | exact Pull.here | apply Pull.there)) (hd : o.dst = some d := by exact rfl) (hlt : Nat.blt d n = true := by exact rfl) : o.wp P a w K Q := by
  have hS1 := hS.pull hp
  have hrow := hS1.row_at Pull.here
  rcases hrow.2 with ⟨hv, h0⟩ | ⟨g, cap, cur0, hv, _, _, _, _, _, _⟩
  · exfalso; omega
  · cases hv
    have hxl := hrow.1
    have hcm : cnt ≤ m := by omega
    have hcz : 0 < cnt * sz := Nat.mul_pos hpos hsz
    have hmz : cnt * sz ≤ m * sz := Nat.mul_le_mul_right _ hcm
    have hus : (news.take (cnt * sz)).length = cnt * sz := by rw [List.length_take, hl]; omega
    have hNz : (q + cnt) * sz ≤ N * sz := Nat.mul_le_mul_right _ hfit
    obtain ⟨cur, hg, hcs, hS2⟩ := setRow_row (k := q * sz) (us := news.take (cnt * sz)) hS1 (by rw [hus, hxl, ← Nat.add_mul]; exact hNz)
    have hD : subA (some (⟨g, 0, none⟩ : Addr)) q c sz = some ⟨g, q * sz, none⟩ := by
      unfold subA
      rw [if_neg (by omega)]
      by_cases hk : q * sz = 0 <;> simp [Addr.add, hk]
    have hB := (hnews.take (cnt * sz)).some (by omega)
    rw [hD] at hs
    rw [hB] at hx
    have hsrc : ∀ j v, (news.take (cnt * sz))[j]? = some v → w.cell? ((adr B).add j) = some v := (hnews.take (cnt * sz)).at_
    have e1 := T.h1
    obtain ⟨i, hi, hsi⟩ := info_of T.h2
    have hfc := run_firstCells_some (P := P) w i.size cnt (adr B) m c2 (news.take (cnt * sz)) (by rw [hus, hsi]) hsrc
    have hst := run_storeCells_at P g (q * sz) e (news.take (cnt * sz)) 0 cur w hg (by simpa using hcs) h1
    subst hY
    have hmin : Nat.min m dl = cnt := hcnt
    have hr : (Builtin.copy_ #[t, t] o.type #[.slice (some ⟨g, q * sz, none⟩) dl dc, .slice (some (adr B)) m c2]).run P w = .ok (.int .i64 cnt) (w.setRow g (putL cur.toList (q * sz) (news.take (cnt * sz))).toArray) := by
      simp only [Nat.add_zero] at hst
      simp [Builtin.copy_, run_underlying e1, Builtin.lenOf, sizeOf, typeInfo, hi, hmin, hfc, hst, goInt, putL]
    unfold Oper.wp execOp
    simp only [ho, resolve, invoke, builtin, Sem.run_bind, Sem.run_pure, Result.andThen_ok, List.map_toArray, List.map_cons, List.map_nil, hE.eval hs, hE.eval hx, hr]
    exact kk _ _ (hE.putS _ hd hlt) hS2
theorem zeroL (z : Array Value) : ∀ l : Nat, List.map (fun i => z[i % z.size]!) (List.range (l * z.size)) = (List.replicate l z.toList).flatten
  | 0 => by simp
  | l + 1 => by
    rw [show (l + 1) * z.size = z.size + l * z.size by rw [Nat.add_mul]; omega, List.range_add, List.map_append, List.map_map, List.replicate_succ, List.flatten_cons, ← zeroL z l]
    congr 1
    · apply List.ext_getElem
      · simp
      · intro j h1 h2
        simp only [List.length_map, List.length_range] at h1
        simp [Nat.mod_eq_of_lt h1, h1]
    · apply List.map_congr_left
      intro i _
      simp [Nat.add_mod_left]
theorem flat_rep {α : Type} (k : Nat) (zs : List α) : ((List.replicate k zs).flatten).length = k * zs.length := by simp
/-- clear, of an owned row from its q-th element on. -/
theorem qclr {s : Operand} {t e : TypeId} {sz N c dl dc : Nat} (q cnt : Nat) {A : Option Addr} {xs ys zs : List Value} (hE : Env a n env) (hS : Sep w0 w L)
    (kk : ∀ w', Sep w0 w' (row e sz (.slice A N c) N ys :: L') → K a w')
    (hsz : 1 ≤ sz) (hdl : dl = cnt) (hqc : cnt = 0 ∨ q < c) (hfit : q + cnt ≤ N) (hY : putL xs (q * sz) (List.replicate cnt zs).flatten = ys)
    (ho : o.op = .call { callee := .builtin .clear, args := #[s], argTypes := #[t] } := by exact rfl) (T : AppTy P t e sz := by infer_instance) (Z : ZeroTy P e zs := by infer_instance) (hs : opv env s = some (.slice (subA A q c sz) dl dc) := by exact rfl)
    (hp : Pull (row e sz (.slice A N c) N xs) L L' := by repeat (first | exact Pull.here | apply Pull.there)) (h1 : zs.all Value.oneCell' = true := by exact rfl) (hd : o.dst = none := by exact rfl) : o.wp P a w K Q := by
  subst hdl
  have hS1 := hS.pull hp
  have hrow := hS1.row_at Pull.here
  have hxl := hrow.1
  have ht := T.h1
  by_cases h0 : dl = 0
  · subst h0
    have hys : ys = xs := by
      rw [← hY]
      simp [putL]
    have hr : (Builtin.clear_ #[t] o.type #[.slice (subA A q c sz) 0 dc]).run P w = .ok (.tuple #[]) w := by
      cases h : subA A q c sz <;> simp [Builtin.clear_, run_underlying ht]
    unfold Oper.wp execOp
    simp only [ho, resolve, invoke, builtin, Sem.run_bind, Sem.run_pure, Result.andThen_ok, List.map_toArray, List.map_cons, List.map_nil, hE.eval hs, hr]
    show K (a.put o.dst (.tuple #[])) w
    rw [show a.put o.dst (.tuple #[]) = a by rw [hd]; rfl]
    refine kk _ ?_
    rw [hys]
    exact hS1
  · have h2 := T.h2
    have h3 := T.h3
    cases hi : P.info? e with
    | none => rw [hi] at h2; simp at h2
    | some i =>
    rw [hi] at h2
    simp only [Option.map_some, Option.some.injEq, Prod.mk.injEq] at h2
    obtain ⟨hz', hszz, hby⟩ := h2
    have hZ := Z.h
    rw [hi] at hZ
    simp only [Option.map_some, Option.some.injEq] at hZ
    cases hz : i.zero with
    | none => rw [hz] at hz'; simp at hz'
    | some z =>
    rw [hz] at hz' hZ
    simp only [Option.map_some, Option.some.injEq] at hz' hZ
    rcases hrow.2 with ⟨hv, h0⟩ | ⟨g, cap, cur0, hv, _, _, _, _, _, _⟩
    · exfalso; omega
    · cases hv
      have hzl : (Builtin.zeroCells z.cells dl).toList = (List.replicate dl zs).flatten := by
        rw [← hZ, ← zeroL]
        simp [Builtin.zeroCells]
      have hzs : zs.length = sz := by
        rw [← hZ, Array.length_toList]
        omega
      have hus : ((List.replicate dl zs).flatten).length = dl * sz := by rw [flat_rep, hzs]
      have hNz : (q + dl) * sz ≤ N * sz := Nat.mul_le_mul_right _ hfit
      obtain ⟨cur, hg, hcs, hS2⟩ := setRow_row (k := q * sz) (us := (List.replicate dl zs).flatten) hS1 (by rw [hus, hxl, ← Nat.add_mul]; exact hNz)
      have hD : subA (some (⟨g, 0, none⟩ : Addr)) q c sz = some ⟨g, q * sz, none⟩ := by
        unfold subA
        rw [if_neg (by omega)]
        by_cases hk : q * sz = 0 <;> simp [Addr.add, hk]
      rw [hD] at hs
      have hst := run_storeCells_at P g (q * sz) e ((List.replicate dl zs).flatten) 0 cur w hg (by simpa using hcs) (fun u hu => by
        obtain ⟨l, hl, hu⟩ := List.mem_flatten.1 hu
        rw [List.eq_of_mem_replicate hl] at hu
        exact List.all_eq_true.1 h1 u hu)
      subst hY
      obtain ⟨m, rfl⟩ : ∃ m, dl = m + 1 := ⟨dl - 1, by omega⟩
      have hr : (Builtin.clear_ #[t] o.type #[.slice (some ⟨g, q * sz, none⟩) (m + 1) dc]).run P w = .ok (.tuple #[]) (w.setRow g (putL cur.toList (q * sz) (List.replicate (m + 1) zs).flatten).toArray) := by
        simp only [Nat.add_zero] at hst
        simp [Builtin.clear_, run_underlying ht, zeroValue, typeInfo, hi, hz, hzl, hst, putL]
      unfold Oper.wp execOp
      simp only [ho, resolve, invoke, builtin, Sem.run_bind, Sem.run_pure, Result.andThen_ok, List.map_toArray, List.map_cons, List.map_nil, hE.eval hs, hr]
      show K (a.put o.dst (.tuple #[])) _
      rw [show a.put o.dst (.tuple #[]) = a by rw [hd]; rfl]
      exact kk _ hS2
/-- append(x[:k], make(S, l)...), where there is no room. -/
theorem qapm {s x : Operand} {t ti e : TypeId} {sz k cap l N : Nat} {kd : IntKind} {v : Int} {A : Option Addr} {olds zs : List Value} {d : Tmp} (hE : Env a n env) (hS : Sep w0 w L) (hold : Rd w A olds)
    (kk : ∀ g c' a' w', Env a' n ((d, .slice (some ⟨g, 0, none⟩) N c') :: env) → Sep w0 w' (row e sz (.slice (some ⟨g, 0, none⟩) N c') N (olds ++ (List.replicate l zs).flatten) :: L) → K a' w')
    (hl : olds.length = k * sz) (hv : v = (l : Int)) (hpos : 0 < l) (hg : cap < k + l) (hN : k + l = N) (hb : N ≤ 1073741824)
    (ho : o.op = .call { callee := .builtin .append, args := #[s, x], argTypes := #[t, ti] } := by exact rfl) (T : AppTy P t e sz := by infer_instance) (Z : ZeroTy P e zs := by infer_instance) (I : IntTy P ti .i64 := by infer_instance) (hs : opv env s = some (.slice A k cap) := by exact rfl) (hx : opv env x = some (.int kd v) := by exact rfl)
    (hd : o.dst = some d := by exact rfl) (hlt : Nat.blt d n = true := by exact rfl) : o.wp P a w K Q := by
  subst hv hN
  have ht := T.h1
  have h2 := T.h2
  have h3 := T.h3
  cases hi : P.info? e with
  | none => rw [hi] at h2; simp at h2
  | some i =>
  rw [hi] at h2
  simp only [Option.map_some, Option.some.injEq, Prod.mk.injEq] at h2
  obtain ⟨hz', hsz, hby⟩ := h2
  have hby : i.bytes ≤ 4096 := Nat.le_of_ble_eq_true hby
  have hZ := Z.h
  rw [hi] at hZ
  simp only [Option.map_some, Option.some.injEq] at hZ
  cases hz : i.zero with
  | none => rw [hz] at hz'; simp at hz'
  | some z =>
  rw [hz] at hz' hZ
  simp only [Option.map_some, Option.some.injEq] at hz' hZ
  subst hsz
  have hmax : k + l ≤ maxLen := by simp only [maxLen]; omega
  have hbytes : (k + l) * i.bytes ≤ 140737488355328 := Nat.le_trans (Nat.mul_le_mul hb hby) (by decide)
  have hlb : l * i.bytes ≤ (k + l) * i.bytes := Nat.mul_le_mul_right _ (by omega)
  have hof : (Builtin.firstCells i.size k (.slice A k cap)).run P w.drew = .ok olds.toArray w.drew := by
    by_cases ho0 : olds.length = 0
    · have : olds = [] := List.eq_nil_of_length_eq_zero ho0
      subst this
      have hk0 : k * i.size = 0 := by rw [← hl]; rfl
      cases A with
      | none => exact run_firstCells_none _ _ _ _ _
      | some b => exact run_firstCells_some (P := P) w.drew i.size k b k cap [] (by rw [hk0]; rfl) (fun j v hj => by simp at hj)
    · rw [hold.some (by omega)]
      exact run_firstCells_some (P := P) w.drew i.size k (adr A) k cap olds hl (fun j v hj => hold.at_ j v hj)
  have hr := Go.Lib.run_append_grow_zeros (P := P) w t ti o.type e i z kd .i64 ht I.h hi hz A k cap olds hof l hpos (Nat.pos_of_ne_zero h3) hg (by omega) (by omega) (growslice_fits hg hbytes)
  unfold Oper.wp execOp
  simp only [ho, resolve, invoke, builtin, Sem.run_bind, Sem.run_pure, Result.andThen_ok, List.map_toArray, List.map_cons, List.map_nil, hE.eval hs, hE.eval hx, hr]
  refine kk _ _ _ _ (hE.putS _ hd hlt) ?_
  have hge := grownCap_ge w (k + l) cap e
  have hcm : grownCap w (k + l) cap e ≤ maxLen := grownCap_le_maxLen w (k + l) cap e hmax
  have hzl : (Builtin.zeroCells z.cells l).toList = (List.replicate l zs).flatten := by
    rw [← hZ, ← zeroL]
    simp [Builtin.zeroCells]
  have hnew := Sep.new (A := row e i.size (.slice (some ⟨w.drew.heap.size, 0, none⟩) (k + l) (grownCap w (k + l) cap e)) (k + l) (olds ++ (List.replicate l zs).flatten)) (hS.drew) (.cells (olds.toArray ++ Builtin.zeroCells z.cells l ++ Builtin.zeroCells z.cells (grownCap w (k + l) cap e - (k + l))) e) fun w' hw' => ?_
  · exact hnew
  · have hlen : (olds ++ (List.replicate l zs).flatten).length = (k + l) * i.size := by
      rw [List.length_append, hl, ← hzl, Array.length_toList, size_zeroCells, hz', Nat.add_mul]
    refine ⟨⟨hlen, .inr ⟨w.drew.heap.size, _, _, rfl, Nat.zero_le _, hw', hge, hcm, ?_, ?_⟩⟩, fun q => by simp [Value.ownBlock, eq_comm]⟩
    · simp only [Array.size_append, List.size_toArray, size_zeroCells, hz', hl, ← Nat.add_mul]
      exact Nat.mul_le_mul_right _ (by omega)
    · simp only [Array.toList_append, hzl]
      rw [← hlen]
      exact List.take_left
/-- slices.overlaps of two rows that lie apart. -/
theorem qov {f : FuncId} {x y : Operand} {t e : TypeId} {sz la ca lb cb : Nat} {ts : Array TypeId} {p q : Addr} {d : Tmp} (hE : Env a n env) (hap : p.block ≠ q.block ∧ ∃ t1 c1 t2 c2, w.heap[p.block]? = some (.cells c1 t1 (0, 0)) ∧ w.heap[q.block]? = some (.cells c2 t2 (0, 0)) ∧ c2.size ≠ 0)
    (k : ∀ a', Env a' n ((d, .bool false) :: env) → K a' w) (ho : o.op = .call { callee := .value (.func f), args := #[x, y], argTypes := ts } := by exact rfl) (V : OvTy P f t := by infer_instance) (T : SliceTy P t e sz := by infer_instance) (hx : opv env x = some (.slice (some p) la ca) := by exact rfl) (hy : opv env y = some (.slice (some q) lb cb) := by exact rfl) (hd : o.dst = some d := by exact rfl) (hlt : Nat.blt d n = true := by exact rfl) : o.wp P a w K Q := by
  obtain ⟨fn, tR, hf, hname, hb, hn, he⟩ := V.h
  have e1 := T.h1
  obtain ⟨i, hi, hsi⟩ := info_of T.h2
  have hz : ∀ w, (sizeOf e).run P w = .ok sz w := fun w => by simp [sizeOf, typeInfo, hi, hsi]
  obtain ⟨hne, t1, c1, t2, c2, h1, h2, h3⟩ := hap
  have hr : (Extern.SlicesOverlaps.overlaps #[t, t] #[tR] #[.slice (some p) la ca, .slice (some q) lb cb]).run P w = .ok (.bool false) w :=
    Go.Lib.run_overlaps_apart w t tR e e1 sz hz p q la ca lb cb hne t1 t2 c1.size c2.size (by simp [World.shape?, h1]) (by simp [World.shape?, h2]) h3 (by simp [World.frozen?, h1]) (by simp [World.frozen?, h1])
  have hcf := run_callFunc_extern hf hname hb hn he #[.slice (some p) la ca, .slice (some q) lb cb] w
  rw [hr] at hcf
  have hev : a.eval (.func f) = .func (.func f) #[] #[] := rfl
  have hrr : (execOp a.eval o).run P w = .ok (.value (.bool false)) w := by
    simp [execOp, ho, resolve, hev, Deferred.ofValue, invoke, hE.eval hx, hE.eval hy, hcf]
  unfold Oper.wp
  rw [hrr]
  exact k _ (hE.putS _ hd hlt)
theorem subA_some {A : Option Addr} (q cap sz : Nat) (h : A ≠ none) : ∃ b, subA A q cap sz = some b := by
  unfold subA
  cases A with
  | none => exact absurd rfl h
  | some a => split <;> exact ⟨_, rfl⟩
theorem subA_block {A : Option Addr} {q cap sz : Nat} {b : Addr} (h : subA A q cap sz = some b) : ∃ a, A = some a ∧ a.block = b.block := by
  unfold subA at h
  split at h
  · exact ⟨b, h, rfl⟩
  · cases A with
    | none => cases h
    | some a => exact ⟨a, rfl, by simp at h; subst h; simp [Addr.add]; split <;> rfl⟩
theorem Sep.rows_apart {e e' : TypeId} {sz sz' m c m2 c2 : Nat} {A B : Option Addr} {xs ys : List Value} (hS : Sep w0 w (row e sz (.slice A m c) m xs :: row e' sz' (.slice B m2 c2) m2 ys :: L)) (hpos : 0 < c2 * sz') (q : Nat) :
    ∀ p r, A = some p → subA B q c2 sz' = some r → p.block ≠ r.block ∧ ∃ t1 c1 t2 c2, w.heap[p.block]? = some (.cells c1 t1 (0, 0)) ∧ w.heap[r.block]? = some (.cells c2 t2 (0, 0)) ∧ c2.size ≠ 0 := by
  intro p r hp hr
  obtain ⟨b, rfl, hb⟩ := subA_block hr
  subst hp
  rw [← hb]
  obtain ⟨F, ⟨F1, F2, hF, hd, ⟨hA, hA2⟩, F3, F4, hG, he, ⟨hB, hB2⟩, hL⟩, hrr⟩ := hS.own
  refine ⟨fun hbb => hd p.block ((hA2 _).2 rfl) ((hG _).2 (.inl ((hB2 _).2 (by simp [Value.ownBlock, hbb])))), ?_⟩
  rcases hA.2 with ⟨hv, _⟩ | ⟨g, cap, cur, hv, _, hg, _, _, _, _⟩
  · cases hv
  · rcases hB.2 with ⟨hv2, _⟩ | ⟨g2, cap2, cur2, hv2, _, hg2, _, _, hcs2, _⟩
    · cases hv2
    · cases hv; cases hv2
      exact ⟨_, _, _, _, hg, hg2, by omega⟩
end
end Go.Sx
/- DERIVED. Drawn regions in which one operation waits for all others: until it comes, what it writes may be read. No condition. -/
namespace Go.Sx
open Go.RowKit
set_option linter.unusedVariables false
set_option linter.unusedSimpArgs false
section
variable {P : Program} {ops : Array Oper} {Q : Exit → Act → World → Prop} {S : World → Prop} {z : Nat}
def wpAnyL (P : Program) (ops : Array Oper) (Q : Exit → Act → World → Prop) (S : World → Prop) (z : Nat) : Nat → Array Bool → Act → World → Prop
  | 0, listed, a, w => Region.ready .any ops listed = [] ∧ Q .normal a w
  | fuel + 1, listed, a, w => (Region.ready .any ops listed = [] → Q .normal a w) ∧
    ∀ i ∈ Region.ready .any ops listed, wpOp P ops Q i (fun a' w' => (i ≠ z → S w') ∧ wpAnyL P ops Q S z fuel (listed.setIfInBounds i true) a' w') a w
theorem wpAny_of_L : ∀ (fuel : Nat) (listed : Array Bool) (a : Act) (w : World), wpAnyL P ops Q S z fuel listed a w → wpAny P .any ops Q fuel listed a w
  | 0, _, _, _, h => h
  | fuel + 1, _, _, _, h => ⟨h.1, fun i hi => wpOp_mono (fun a' w' h' => wpAny_of_L fuel _ a' w' h'.2) (h.2 i hi)⟩
def waitsFor (ops : Array Oper) (z i : Nat) : Bool := match ops[z]? with
  | some o => o.after.any fun e => Region.binds .any e && e.on == i
  | none => false
/-- Of two that may come up neither waits for the other. -/
theorem no_edge {listed : Array Bool} {i j : Nat} {oj : Oper} (hi : i ∈ Region.ready .any ops listed) (hj : j ∈ Region.ready .any ops listed) (ho : ops[j]? = some oj) : ∀ e ∈ oj.after, Region.binds .any e = true → e.on ≠ i := by
  intro e he hb h
  obtain ⟨_, q, hq, hall⟩ := mem_ready.1 hj
  rw [ho] at hq
  cases hq
  have hl := hall e he hb
  have hu := (mem_ready.1 hi).1
  rw [h] at hl
  by_cases hs : i < listed.size
  · simp [hs] at hl hu
    rw [hl] at hu
    cases hu
  · simp [Array.getElem?_eq_none (Nat.le_of_not_lt hs)] at hl
theorem not_ready {listed : Array Bool} {i : Nat} (h : waitsFor ops z i = true) (hi : i ∈ Region.ready .any ops listed) : z ∉ Region.ready .any ops listed := fun hz => by
  obtain ⟨_, oz, hoz, _⟩ := mem_ready.1 hz
  unfold waitsFor at h
  rw [hoz] at h
  simp only [Array.any_eq_true] at h
  obtain ⟨q, hq, he⟩ := h
  rw [Bool.and_eq_true] at he
  exact no_edge hi hz hoz _ (Array.getElem_mem hq) he.1 (beq_iff_eq.1 he.2)
theorem wpAnyL_first {i : Nat} {oi : Oper} {v : Value} (hi : ops[i]? = some oi) (hsel : ∀ (j : Nat) (o : Oper) cs b, ops[j]? = some o → o.op ≠ .select cs b)
    (hQ : ∀ c a w, Q (.panic c) (a.put oi.dst v) w → Q (.panic c) a w) (hz : waitsFor ops z i = true) : ∀ (fuel : Nat) (listed : Array Bool) (a : Act) (w : World),
      (∀ j oj, ops[j]? = some oj → j ≠ i → listed.getD j true = false → (∀ e ∈ oj.after, Region.binds .any e = true → e.on ≠ i) → oi.apart ops oj = true) →
      i ∈ Region.ready .any ops listed → YieldsIf P ops S oi v a → S w →
      wpAnyL P ops Q S z fuel (listed.setIfInBounds i true) (a.put oi.dst v) w → wpAnyL P ops Q S z (fuel + 1) listed a w := by
  intro fuel
  induction fuel with
  | zero =>
    intro listed a w _ hr hy hS H
    refine ⟨fun h => (by rw [h] at hr; cases hr), fun j hj => ?_⟩
    by_cases hji : j = i
    · subst hji; exact hy.wpOp hi hS ⟨fun _ => hS, H⟩
    · have := ready_mono hj hji
      rw [H.1] at this
      cases this
  | succ fuel ih =>
    intro listed a w hfree hr hy hS H
    refine ⟨fun h => (by rw [h] at hr; cases hr), fun j hj => ?_⟩
    by_cases hji : j = i
    · subst hji; exact hy.wpOp hi hS ⟨fun _ => hS, H⟩
    · have hjz : j ≠ z := fun e => not_ready hz hr (e ▸ hj)
      have h1 := H.2 j (ready_mono hj hji)
      obtain ⟨hjun, oj, hoj, hall⟩ := mem_ready.1 hj
      have hnot := no_edge hr hj hoj
      have h2 := wpOp_putIf hoj (hfree j oj hoj hji hjun hnot) (fun cs b => hsel i oi cs b hi) (fun cs b => hsel j oj cs b hoj) hQ hy h1
      refine wpOp_mono (fun a' w' h3 => ⟨fun _ => h3.2.1 hjz, ih (listed.setIfInBounds j true) a' w' (fun k ok hk hki hun hno => hfree k ok hk hki ?_ hno) (ready_mono hr (Ne.symm hji)) h3.1 (h3.2.1 hjz) ?_⟩) h2
      · by_cases hjk : j = k
        · subst hjk; exact hjun
        · rw [getD_set_ne true hjk] at hun; exact hun
      · rw [Array.setIfInBounds_comm _ _ hji]
        exact h3.2.2
theorem wpAnyL_done {listed : Array Bool} {a : Act} {w : World} (hr : Region.ready .any ops listed = []) (h : Q .normal a w) : ∀ fuel, wpAnyL P ops Q S z fuel listed a w
  | 0 => ⟨hr, h⟩
  | _ + 1 => ⟨fun _ => h, by rw [hr]; simp⟩
end
section
variable {P : Program} {ops : Array Oper} {o : Oper} {a : Act} {w w0 : World} {Q : Exit → Act → World → Prop} {n : Nat} {env : List (Nat × Value)} {L L' : List Asn} {G : List (Nat × List Value × TypeId)} {fuel z : Nat} {listed : Array Bool}
theorem rl_start {id : Nat} (z : Nat) (ts : List Nat) (hE : Env a n env) (hS : Sep w0 w L) (h : ∀ w', Sep w0 w' L → SS w0 G w' → wpAnyL P ops Q (SS w0 G) z ops.size (Array.replicate ops.size false) a w')
    (hG : Gt env L ts G := by repeat (first | exact Gt.nil | (apply Gt.cons; exact rfl; (focus ((repeat (first | exact Pull.here | apply Pull.there)); done))) | apply Gt.skip)) (M : Mixed P := by infer_instance) : (Code.region id ops true).wp P Q a w :=
  wp_region_any M.h (wpAny_of_L _ _ _ _ (h _ hS.drew (SS.of hS.drew hG.gin)))
theorem rl_y (i : Nat) {v : Value} {d : Tmp} (hE : Env a n env) (hX : SS w0 G w) (hy : Y P env (SS w0 G) o v) (k : ∀ a', Env a' n ((d, v) :: env) → wpAnyL P ops Q (SS w0 G) z fuel (listed.setIfInBounds i true) a' w) (hi : ops[i]? = some o)
    (hg : guardIs ops env o = some true) (hd : o.dst = some d) (hlt : Nat.blt d n = true) (hs : Region.noSelect ops = true := by kernel_rfl) (hf : Region.free .any ops listed i = true := by kernel_rfl) (hr : (Region.ready .any ops listed).contains i = true := by kernel_rfl)
    (hQ : ∀ c a w, Q (.panic c) (a.put o.dst v) w → Q (.panic c) a w := by intro _ _ _ h; with_unfolding_all exact h) (hz : waitsFor ops z i = true := by kernel_rfl) : wpAnyL P ops Q (SS w0 G) z (fuel + 1) listed a w :=
  wpAnyL_first hi (Region.noSelect_spec hs) hQ hz fuel listed a w (Region.free_spec hi hf) (by simpa using hr) (.inl ⟨hE.guard hg, fun w' hw' => hy a n w' hE hw'⟩) hX (k _ (hE.putS v hd hlt))
theorem rl_e (i : Nat) (hE : Env a n env) (hi : ops[i]? = some o) (hg : guardIs ops env o = some true) (hr : Region.ready .any ops listed = [i])
    (h : ∀ K : Act → World → Prop, (∀ a' w', SS w0 G w' → wpAnyL P ops Q (SS w0 G) z fuel (listed.setIfInBounds i true) a' w' → K a' w') → o.wp P a w K Q) : wpAnyL P ops Q (SS w0 G) z (fuel + 1) listed a w :=
  ⟨fun h0 => (by rw [hr] at h0; cases h0), fun j hj => by
    rw [hr] at hj
    obtain rfl := List.mem_singleton.1 hj
    exact wpOp_step hi fun K hK => by rw [if_pos (hE.guard hg)]; exact h K (fun a' w' h1 h2 => hK a' w' ⟨fun _ => h1, h2⟩)⟩
theorem rl_z (hE : Env a n env) (hi : ops[z]? = some o) (hg : guardIs ops env o = some true) (hr : Region.ready .any ops listed = [z])
    (h : ∀ K : Act → World → Prop, (∀ a' w', wpAnyL P ops Q (SS w0 G) z fuel (listed.setIfInBounds z true) a' w' → K a' w') → o.wp P a w K Q) : wpAnyL P ops Q (SS w0 G) z (fuel + 1) listed a w :=
  ⟨fun h0 => (by rw [hr] at h0; cases h0), fun j hj => by
    rw [hr] at hj
    obtain rfl := List.mem_singleton.1 hj
    exact wpOp_step hi fun K hK => by rw [if_pos (hE.guard hg)]; exact h K (fun a' w' h2 => hK a' w' ⟨fun e => absurd rfl e, h2⟩)⟩
theorem rl_e2 (i j : Nat) (hr : Region.ready .any ops listed = [i, j])
    (h1 : ∀ K : Act → World → Prop, (∀ a' w', SS w0 G w' → wpAnyL P ops Q (SS w0 G) z fuel (listed.setIfInBounds i true) a' w' → K a' w') → wpOp P ops Q i K a w)
    (h2 : ∀ K : Act → World → Prop, (∀ a' w', SS w0 G w' → wpAnyL P ops Q (SS w0 G) z fuel (listed.setIfInBounds j true) a' w' → K a' w') → wpOp P ops Q j K a w) : wpAnyL P ops Q (SS w0 G) z (fuel + 1) listed a w :=
  ⟨fun h0 => (by rw [hr] at h0; cases h0), fun q hq => by
    rw [hr] at hq
    simp only [List.mem_cons, List.not_mem_nil, or_false] at hq
    rcases hq with rfl | rfl
    · exact h1 _ (fun a' w' h1 h2 => ⟨fun _ => h1, h2⟩)
    · exact h2 _ (fun a' w' h1 h2 => ⟨fun _ => h1, h2⟩)⟩
theorem rl_e3 (i j k : Nat) (hr : Region.ready .any ops listed = [i, j, k])
    (h1 : ∀ K : Act → World → Prop, (∀ a' w', SS w0 G w' → wpAnyL P ops Q (SS w0 G) z fuel (listed.setIfInBounds i true) a' w' → K a' w') → wpOp P ops Q i K a w)
    (h2 : ∀ K : Act → World → Prop, (∀ a' w', SS w0 G w' → wpAnyL P ops Q (SS w0 G) z fuel (listed.setIfInBounds j true) a' w' → K a' w') → wpOp P ops Q j K a w)
    (h3 : ∀ K : Act → World → Prop, (∀ a' w', SS w0 G w' → wpAnyL P ops Q (SS w0 G) z fuel (listed.setIfInBounds k true) a' w' → K a' w') → wpOp P ops Q k K a w) : wpAnyL P ops Q (SS w0 G) z (fuel + 1) listed a w :=
  ⟨fun h0 => (by rw [hr] at h0; cases h0), fun q hq => by
    rw [hr] at hq
    simp only [List.mem_cons, List.not_mem_nil, or_false] at hq
    rcases hq with rfl | rfl | rfl
    · exact h1 _ (fun a' w' h1 h2 => ⟨fun _ => h1, h2⟩)
    · exact h2 _ (fun a' w' h1 h2 => ⟨fun _ => h1, h2⟩)
    · exact h3 _ (fun a' w' h1 h2 => ⟨fun _ => h1, h2⟩)⟩
theorem rl_k {K : Act → World → Prop} (hK : ∀ a' w', SS w0 G w' → wpAnyL P ops Q (SS w0 G) z fuel listed a' w' → K a' w') (hS : Sep w0 w L) (h : SS w0 G w → wpAnyL P ops Q (SS w0 G) z fuel listed a w)
    (hG : GIn G L := by repeat (first | exact GIn.nil | (apply GIn.cons; (repeat (first | exact Pull.here | apply Pull.there))))) : K a w :=
  hK a w (SS.of hS hG) (h (SS.of hS hG))
theorem rl_done {S : World → Prop} (h : Q .normal a w) (hr : Region.ready .any ops listed = []) : wpAnyL P ops Q S z fuel listed a w := wpAnyL_done hr h fuel
end
theorem Sub.refl : ∀ (L : List Asn), Sub L L
  | [] => .nil
  | _ :: L => .cons .here (Sub.refl L)
theorem Sub.skip {x : Asn} {L M : List Asn} (h : Sub L M) : Sub (x :: L) M := by
  induction h with
  | nil => exact .nil
  | cons hp _ ih => exact .cons (.there hp) ih
/-- What is owned, in another order, and less of it; a frame stays. -/
theorem Sep.fit {w0 w : World} {L M : List Asn} (h : Sep w0 w L) (s : Sub L M := by repeat (first | exact Sub.refl _ | (apply Sub.cons; (repeat (first | exact Pull.here | apply Pull.there))) | apply Sub.skip)) : Sep w0 w M := h.sub s
theorem flat_cut {α : Type} {f : α → List Value} {m : Nat} (hf : ∀ x, (f x).length = m) (a b : List α) (k : Nat) (hk : a.length = k) : ((a ++ b).flatMap f).take (k * m) = a.flatMap f ∧ ((a ++ b).flatMap f).drop (k * m) = b.flatMap f := by
  have hl : (a.flatMap f).length = k * m := by rw [flat_len hf, hk]
  rw [List.flatMap_append, ← hl]
  exact ⟨List.take_left, List.drop_left⟩
theorem flat_take {α : Type} {f : α → List Value} {m : Nat} (hf : ∀ x, (f x).length = m) (l : List α) (k : Nat) (hk : k ≤ l.length) : (l.flatMap f).take (k * m) = (l.take k).flatMap f := by
  have := (flat_cut hf (l.take k) (l.drop k) k (by rw [List.length_take, Nat.min_eq_left hk])).1
  rwa [List.take_append_drop] at this
theorem flat_drop {α : Type} {f : α → List Value} {m : Nat} (hf : ∀ x, (f x).length = m) (l : List α) (k : Nat) (hk : k ≤ l.length) : (l.flatMap f).drop (k * m) = (l.drop k).flatMap f := by
  have := (flat_cut hf (l.take k) (l.drop k) k (by rw [List.length_take, Nat.min_eq_left hk])).2
  rwa [List.take_append_drop] at this
/-- Records written over records. -/
theorem flat_put {α : Type} {f : α → List Value} {m : Nat} (hf : ∀ x, (f x).length = m) (a b d c : List α) (q : Nat) (hq : a.length = q) (hd : d.length = b.length) : putL ((a ++ b ++ c).flatMap f) (q * m) (d.flatMap f) = (a ++ d ++ c).flatMap f := by
  have e1 := flat_cut hf a (b ++ c) q hq
  have e2 := flat_cut hf (a ++ b) c (q + d.length) (by rw [List.length_append, hq, hd])
  unfold putL
  rw [flat_len hf, ← Nat.add_mul, e2.2, List.append_assoc a b c, e1.1]
  simp only [List.flatMap_append, List.append_assoc]
theorem oRow.ext {w : World} {base : Nat} {e : TypeId} {sz n c : Nat} {A : Option Addr} {xs : List Value} (h : oRow w base e sz (.slice A n c) n xs) (k : Nat) (hk : n + k ≤ c) (hA : A ≠ none) : ∃ ys, ys.length = k * sz ∧ oRow w base e sz (.slice A (n + k) c) (n + k) (xs ++ ys) := by
  rcases h.2 with ⟨hv, hn⟩ | ⟨g, cap, cur, hv, hb, hg, hnc, hcm, hcs, ht⟩
  · cases hv; exact absurd rfl hA
  · cases hv
    have hle : (n + k) * sz ≤ cur.size := Nat.le_trans (Nat.mul_le_mul_right _ hk) hcs
    have hcu : cur.toList.length = cur.size := Array.length_toList
    refine ⟨(cur.toList.drop (n * sz)).take (k * sz), ?_, ?_, .inr ⟨g, c, cur, rfl, hb, hg, hk, hcm, hcs, ?_⟩⟩
    · rw [Nat.add_mul] at hle
      rw [List.length_take, List.length_drop, hcu]
      omega
    · rw [Nat.add_mul] at hle
      rw [List.length_append, h.1, List.length_take, List.length_drop, hcu, Nat.add_mul]
      omega
    · rw [← ht, Nat.add_mul, List.take_add]
theorem Sep.row_ext {w0 w : World} {L L' : List Asn} {e : TypeId} {sz n c : Nat} {A : Option Addr} {xs : List Value} (hS : Sep w0 w L) (k : Nat) (hk : n + k ≤ c) (hA : A ≠ none) (hp : Pull (row e sz (.slice A n c) n xs) L L' := by repeat (first | exact Pull.here | apply Pull.there)) : ∃ ys, ys.length = k * sz ∧ Sep w0 w (row e sz (.slice A (n + k) c) (n + k) (xs ++ ys) :: L') := by
  have h := hS.pull hp
  obtain ⟨F, ⟨F1, F2, hF, hd, ⟨hr, hr2⟩, hL⟩, hrr⟩ := h.own
  obtain ⟨ys, hy, hr'⟩ := hr.ext k hk hA
  refine ⟨ys, hy, h.below, F, ⟨F1, F2, hF, hd, ⟨hr', fun q => ?_⟩, hL⟩, hrr⟩
  rw [hr2 q]
  cases A <;> rfl
class PtrTy (P : Program) (t : TypeId) : Prop where
  h : ∃ e, P.underlying t = some (.pointer e)
section
variable {P : Program} {o : Oper} {a : Act} {w w0 : World} {Q : Exit → Act → World → Prop} {n : Nat} {env : List (Nat × Value)} {K : Act → World → Prop} {S : World → Prop}
/-- A pointer held against nil. -/
theorem bin_eql_nil {t : TypeId} {x y : Operand} {A : Option Addr} (T : PtrTy P t) : Bin P .eql t x y (.pointer A) (.pointer none) (.bool A.isNone) := fun w => by
  obtain ⟨e, e1⟩ := T.h
  have hd' : Op.maxDepth = 9999 + 1 := rfl
  have hq : (Op.equalIn Op.maxDepth t (.pointer A) (.pointer none)).run P w = .ok A.isNone w := by
    rw [hd']
    unfold Op.equalIn
    cases A <;> simp [run_underlying e1]
  cases A <;> simp [eqGuard, binOp, Op.equal, hq]
theorem qpn {t t' : TypeId} {x y : Operand} {A : Option Addr} {d : Tmp} (hE : Env a n env) (k : ∀ a', Env a' n ((d, .bool A.isNone) :: env) → K a' w) (ho : o.op = .binOp .eql t x y t' := by exact rfl) (T : PtrTy P t := by infer_instance) (hx : opv env x = some (.pointer A) := by exact rfl) (hy : opv env y = some (.pointer none) := by exact rfl) (hd : o.dst = some d := by exact rfl) (hlt : Nat.blt d n = true := by exact rfl) : o.wp P a w K Q := o_bin hE ho hx hy (bin_eql_nil T) hd hlt k
end
/-- A cut behind a block. -/
theorem c_midb {P : Program} {a : Act} {w : World} {Q : Exit → Act → World → Prop} {id : Nat} {c c2 : Code} {I : Act → World → Prop} (h1 : (Code.block id c).wp P (Exit.then I Q) a w) (h2 : ∀ a w, I a w → c2.wp P Q a w) : ((Code.block id c).seq c2).wp P Q a w :=
  wp_seq (Code.wp_mono (fun e a w h => by cases e <;> first | exact h2 _ _ h | exact h) h1)
theorem c_midb2 {P : Program} {a : Act} {w : World} {Q : Exit → Act → World → Prop} {id : Nat} {r c c2 : Code} {I : Act → World → Prop} (h1 : (r.seq (Code.block id c)).wp P (Exit.then I Q) a w) (h2 : ∀ a w, I a w → c2.wp P Q a w) : ((r.seq (Code.block id c)).seq c2).wp P Q a w :=
  wp_seq (Code.wp_mono (fun e a w h => by cases e <;> first | exact h2 _ _ h | exact h) h1)
theorem ints_flat (xs : List Int) : ints xs = xs.flatMap fun x => [Value.int .i64 x] := by simp [ints, List.map_eq_flatMap]
section
variable {P : Program} {o : Oper} {a : Act} {w w0 : World} {Q : Exit → Act → World → Prop} {n : Nat} {env : List (Nat × Value)} {L L' : List Asn} {K : Act → World → Prop}
/-- A record's field in an owned row, whatever way its address was reckoned. -/
theorem qlP {α : Type} {f : α → List Value} {l : List α} {df : α} (off : Nat) {ty e m : TypeId} {x : Operand} {A : Option Addr} {N c : Nat} {i : Int} {v : Value} {d : Tmp} {p : Addr} (hE : Env a n env) (hS : Sep w0 w L) (hf : ∀ x, (f x).length = m) (hus : (f (l.getD i.toNat df))[off]? = some v) (k : ∀ a', Env a' n ((d, v) :: env) → K a' w)
    (ho : o.op = .load ty x := by exact rfl) (T : TyInfo P ty false 1 := by infer_instance) (hx : opv env x = some (.pointer (some p)) := by exact rfl) (hpp : p = (adr A).add (i.toNat * m + off) := by first | exact rfl | exact Addr.add_add _ _ _) (hp : Pull (row e m (.slice A N c) N (l.flatMap f)) L L' := by repeat (first | exact Pull.here | apply Pull.there))
    (h0 : 0 ≤ i := by omega) (h1 : i < (l.length : Int) := by omega) (hd : o.dst = some d := by exact rfl) (hlt : Nat.blt d n = true := by exact rfl) : o.wp P a w K Q := by
  subst hpp
  have hA := (flat_at hf ((Rd.row hS hp).at_) i h0 h1 df).drop off
  have e1 : (f (l.getD i.toNat df)).drop off = v :: (f (l.getD i.toNat df)).drop (off + 1) := by rw [← (List.getElem?_eq_some_iff.1 hus).2]; exact List.drop_eq_getElem_cons _
  rw [e1, Addr.add_add] at hA
  have h := run_loadAt (P := P) (ty := ty) (us := [v]) hA rfl rfl (fun _ => rfl)
  exact o_val hE (by simp only [execOp, ho, hE.eval hx]; rw [Sem.run_bind, h]; rfl) hd hlt k
/-- A number stored in an owned row of numbers. -/
theorem qsI {ty e : TypeId} {x y : Operand} {A : Option Addr} {N c : Nat} {i : Int} {xs : List Int} {v : Int} (hE : Env a n env) (hS : Sep w0 w L) (kk : ∀ w', Sep w0 w' (row e 1 (.slice A N c) N (ints (xs.set i.toNat v)) :: L') → K a w') (ho : o.op = .store ty x y := by exact rfl) (T : TyInfo P ty false 1 := by infer_instance)
    (hx : opv env x = some (.pointer (some ((adr A).add (i.toNat * 1)))) := by exact rfl) (hy : opv env y = some (.int .i64 v) := by exact rfl) (hp : Pull (row e 1 (.slice A N c) N (ints xs)) L L' := by repeat (first | exact Pull.here | apply Pull.there)) (h0 : 0 ≤ i := by omega) (h1 : i < (xs.length : Int) := by omega) (hd : o.dst = none := by exact rfl) : o.wp P a w K Q := by
  rw [ints_flat] at hp
  refine qsR (f := fun x => [Value.int .i64 x]) (df := 0) (off := 0) (v := .int .i64 v) v hE hS (fun _ => rfl) rfl (fun w' h => kk w' ?_) ho T hx hy rfl hp rfl rfl rfl rfl h0 h1 hd
  rw [ints_flat]
  exact h
end
theorem Pull.of_mem {x : Asn} : ∀ {L : List Asn}, x ∈ L → ∃ L', Pull x L L'
  | y :: L, h => by
    by_cases e : x = y
    · subst e; exact ⟨L, .here⟩
    · obtain ⟨L', hL⟩ := Pull.of_mem ((List.mem_cons.1 h).resolve_left e)
      exact ⟨y :: L', .there hL⟩
/-- One more of many. -/
theorem Sep.stars_snoc {w0 w : World} {A : Asn} {M R : List Asn} (h : Sep w0 w (A :: stars M :: R)) : Sep w0 w (stars (M ++ [A]) :: R) := by
  have h1 := h.out_stars (M := M) (.there .here)
  refine Sep.in_stars ?_
  rwa [List.append_assoc, List.singleton_append]
/-- What one of many reads. -/
theorem Sep.star_at {w0 w : World} {A : Asn} {M L L' : List Asn} (h : Sep w0 w L) (hA : A ∈ M) (hp : Pull (stars M) L L' := by repeat (first | exact Pull.here | apply Pull.there)) : ∃ R, Sep w0 w (A :: R) := by
  have h1 := h.out_stars hp
  obtain ⟨R, hR⟩ := Pull.of_mem (List.mem_append_left L' hA)
  exact ⟨R, h1.pull hR⟩
end Go.Sx
/- DERIVED. Maps with keys of an integer kind, as functions; calls of function values. No condition. -/
namespace Go.Sx
open Go.RowKit
set_option linter.unusedVariables false
set_option linter.unusedSimpArgs false
/-- How a map's value reads: as itself. -/
def asIs (v : Value) : Option (DataW (Option Value) × List MemPlace) := some (.held (some v), [])
/-- The block b is a map of at most n entries, that has these. -/
def mapOwn (P : Program) (k : TypeId) (q : IntKind) (w : World) (b n : Nat) (f : Int → Option Value) : Prop :=
  ∃ D, w.ownsMap P k asIs b n D ∧ ∀ x, D.atKey (.int q x) (.held none) = .held (f x)
def mpA (P : Program) (k : TypeId) (q : IntKind) (b n : Nat) (f : Int → Option Value) : Asn where
  P w F := mapOwn P k q w b n f ∧ ∀ i, F i ↔ i = b
  move := by
    rintro w w' F ⟨⟨D, ⟨es, clock, hb, h1, h2, h3⟩, h⟩, hF⟩ hm
    exact ⟨⟨D, ⟨es, clock, (hm b ((hF b).2 rfl)).trans hb, h1, h2, h3⟩, h⟩, hF⟩
class MapTy (P : Program) (t : TypeId) (k e : outParam TypeId) (q : outParam IntKind) (z : outParam Value) : Prop where
  h1 : P.underlying t = some (.map k e)
  h2 : P.underlying k = some (.int q)
  h3 : (P.info? e).map (·.zero) = some (some z)
theorem mp_zero {P : Program} {t k e : TypeId} {q : IntKind} {z : Value} (T : MapTy P t k e q z) (w : World) : (zeroValue e).run P w = .ok z w := by
  have h := T.h3
  cases hi : P.info? e with
  | none => rw [hi] at h; simp at h
  | some i =>
    rw [hi] at h
    have hz : i.zero = some z := by simpa using h
    simp [zeroValue, typeInfo, hi, hz]
section
variable {P : Program} {o : Oper} {a : Act} {w w0 : World} {Q : Exit → Act → World → Prop} {n : Nat} {env : List (Nat × Value)} {L L' : List Asn} {K : Act → World → Prop}
theorem Sep.map_at {k : TypeId} {q : IntKind} {b m : Nat} {f : Int → Option Value} (h : Sep w0 w L) (hp : Pull (mpA P k q b m f) L L' := by repeat (first | exact Pull.here | apply Pull.there)) : mapOwn P k q w b m f := by
  obtain ⟨F, ⟨F1, F2, _, _, hA, _⟩, _⟩ := (h.pull hp).own
  exact hA.1
/-- A new map. -/
theorem qmk {t k e : TypeId} {q : IntKind} {z : Value} {d : Tmp} (hE : Env a n env) (hS : Sep w0 w L) (kk : ∀ b a' w', Env a' n ((d, .map (some b)) :: env) → Sep w0 w' (mpA P k q b 0 (fun _ => none) :: L) → K a' w') (ho : o.op = .makeMap t none := by exact rfl) (T : MapTy P t k e q z := by infer_instance) (hd : o.dst = some d := by exact rfl) (hlt : Nat.blt d n = true := by exact rfl) : o.wp P a w K Q := by
  have hr : (execOp a.eval o).run P w = .ok (.value (.map (some w.heap.size))) (w.alloc (.map #[] 0)) := by
    simp [execOp, ho, run_makeMap]
  unfold Oper.wp
  rw [hr]
  refine kk _ _ _ (hE.putS _ hd hlt) (hS.new _ fun w' hw => ⟨⟨.map [], ⟨#[], 0, hw, ⟨by simp, MapKept.stamped_empty 0, by simp⟩, Nat.le_refl _, rfl⟩, fun x => rfl⟩, fun _ => Iff.rfl⟩)
theorem look_at {t k e : TypeId} {q : IntKind} {z : Value} (T : MapTy P t k e q z) {b m : Nat} {f : Int → Option Value} (h : mapOwn P k q w b m f) {x : Int} (hx : (Lit.int q x).wf = true) (c : Bool) :
    (Instr.lookup t (.map (some b)) (.int q x) c).run P w = .ok (if c then .tuple #[(f x).getD z, .bool (f x).isSome] else (f x).getD z) w := by
  obtain ⟨D, ⟨es, clock, hb, F, _, rfl⟩, hD⟩ := h
  have hkey := Maps.keyOf_int_mk T.h2 hx
  rcases Maps.fit_look c (Maps.int_keyed T.h2) T.h1 (mp_zero T w) hb F hkey with ⟨hrun, _, hat⟩ | ⟨e0, y, _, _, hrun, hRv, hat, _⟩
  · have h1 := (hat (.held none)).symm.trans (hD x)
    have h2 : f x = none := by injection h1 with h1; exact h1.symm
    rw [hrun, h2]
    rfl
  · have h1 := (hat (.held none)).symm.trans (hD x)
    have h3 : y = (.held (some e0.val), []) := by
      have : asIs e0.val = some y := hRv
      exact (Option.some.inj this).symm
    subst h3
    have h2 : f x = some e0.val := by injection h1 with h1; exact h1.symm
    rw [hrun, h2]
    rfl
/-- m[k]. -/
theorem qlk {t k e : TypeId} {q : IntKind} {z v : Value} {m x : Operand} {b N : Nat} {f : Int → Option Value} {i : Int} {d : Tmp} (hE : Env a n env) (hS : Sep w0 w L) (hx : (Lit.int q i).wf = true) (hv : (f i).getD z = v) (kk : ∀ a', Env a' n ((d, v) :: env) → K a' w) (ho : o.op = .lookup t m x false := by exact rfl) (T : MapTy P t k e q z := by infer_instance)
    (hm : opv env m = some (.map (some b)) := by exact rfl) (hi : opv env x = some (.int q i) := by exact rfl) (hp : Pull (mpA P k q b N f) L L' := by repeat (first | exact Pull.here | apply Pull.there)) (hd : o.dst = some d := by exact rfl) (hlt : Nat.blt d n = true := by exact rfl) : o.wp P a w K Q := by
  subst hv
  exact o_val hE (by simp [execOp, ho, hE.eval hm, hE.eval hi, look_at T (hS.map_at hp) hx]) hd hlt kk
/-- m[k], and whether it is there. -/
theorem qlk2 {t k e : TypeId} {q : IntKind} {z v : Value} {c : Bool} {m x : Operand} {b N : Nat} {f : Int → Option Value} {i : Int} {d : Tmp} (hE : Env a n env) (hS : Sep w0 w L) (hx : (Lit.int q i).wf = true) (hv : (f i).getD z = v) (hc : (f i).isSome = c) (kk : ∀ a', Env a' n ((d, .tuple #[v, .bool c]) :: env) → K a' w) (ho : o.op = .lookup t m x true := by exact rfl) (T : MapTy P t k e q z := by infer_instance)
    (hm : opv env m = some (.map (some b)) := by exact rfl) (hi : opv env x = some (.int q i) := by exact rfl) (hp : Pull (mpA P k q b N f) L L' := by repeat (first | exact Pull.here | apply Pull.there)) (hd : o.dst = some d := by exact rfl) (hlt : Nat.blt d n = true := by exact rfl) : o.wp P a w K Q := by
  subst hv hc
  exact o_val hE (by simp [execOp, ho, hE.eval hm, hE.eval hi, look_at T (hS.map_at hp) hx]) hd hlt kk
def fput (f : Int → Option Value) (i : Int) (v : Value) : Int → Option Value := fun x => if x = i then some v else f x
/-- m[k] = v. -/
theorem qup {t k e : TypeId} {q : IntKind} {z v : Value} {m x y : Operand} {b N : Nat} {f : Int → Option Value} {i : Int} (hE : Env a n env) (hS : Sep w0 w L) (hx : (Lit.int q i).wf = true) (kk : ∀ w', Sep w0 w' (mpA P k q b (N + 1) (fput f i v) :: L') → K a w') (ho : o.op = .mapUpdate t m x y := by exact rfl) (T : MapTy P t k e q z := by infer_instance)
    (hm : opv env m = some (.map (some b)) := by exact rfl) (hi : opv env x = some (.int q i) := by exact rfl) (hy : opv env y = some v := by exact rfl) (hp : Pull (mpA P k q b N f) L L' := by repeat (first | exact Pull.here | apply Pull.there)) (hN : N < maxLen := by first | omega | (unfold maxLen; omega)) (hd : o.dst = none := by exact rfl) : o.wp P a w K Q := by
  obtain ⟨D, hown, hD⟩ := hS.map_at hp
  have hkey := Maps.keyOf_int_mk T.h2 hx
  obtain ⟨w', hrun, hown', hg⟩ := hown.update (Maps.int_keyed T.h2) T.h1 hN hkey (rfl : asIs v = some _)
  have hr : (execOp a.eval o).run P w = .ok .skip w' ∨ (execOp a.eval o).run P w = .ok (.value undef) w' := by
    first
    | exact .inl (by simp [execOp, ho, hE.eval hm, hE.eval hi, hE.eval hy, hrun])
    | exact .inr (by simp [execOp, ho, hE.eval hm, hE.eval hi, hE.eval hy, hrun])
  have hf : ∀ x, (D.put (.int q i) (.held (some v))).atKey (.int q x) (.held none) = .held (fput f i v x) := fun x => by
    have hmD : Maps.IsMap D := by
      obtain ⟨es, clock, _, _, _, rfl⟩ := hown
      exact ⟨_, rfl⟩
    unfold fput
    by_cases e : x = i
    · subst e
      rw [if_pos rfl, Maps.atKey_put_same hmD ((Maps.int_keyed T.h2).key hkey)]
    · rw [if_neg e, Maps.atKey_put_other (fun h => e (by injection h)), hD]
  have hlt : b < w.heap.size := hown.lt
  have hS' : Sep w0 w' (mpA P k q b (N + 1) (fput f i v) :: L') := by
    refine Sep.turn (M := [mpA P k q b (N + 1) (fput f i v)]) (hS.pull hp) hg.os hg.tape hg.output hg.size fun F hA hF => ⟨fun j hj hn => hg.block j hj (fun e => hn ((hA.2 j).2 (by injection e))), fun j => j = b, ⟨fun j => j = b, fun _ => False, fun j => by simp, fun _ _ h => h, ⟨⟨_, hown', hf⟩, fun j => Iff.rfl⟩, fun _ h => h⟩, fun j hj => ?_⟩
    subst hj
    exact ⟨.inl ((hA.2 _).2 rfl), hown'.lt⟩
  have e : ∀ u, a.put o.dst u = a := fun u => by rw [hd]; rfl
  unfold Oper.wp
  rcases hr with hr | hr
  · rw [hr]
    show K (a.put o.dst undef) w'
    rw [e]
    exact kk w' hS'
  · rw [hr]
    show K (a.put o.dst undef) w'
    rw [e]
    exact kk w' hS'
/-- A function value. -/
theorem qmf2 {f : FuncId} {A B : Array Operand} {va vb : List Value} {d : Tmp} (hE : Env a n env) (k : ∀ a', Env a' n ((d, .func (.func f) va.toArray vb.toArray) :: env) → K a' w) (ho : o.op = .makeFunc (.func f) A B := by exact rfl) (ha : argsOf env A.toList = some va := by exact rfl) (hb : argsOf env B.toList = some vb := by exact rfl) (hd : o.dst = some d := by exact rfl) (hlt : Nat.blt d n = true := by exact rfl) : o.wp P a w K Q := by
  have e1 : A.map a.eval = va.toArray := Array.toList_inj.1 (by simpa using hE.args ha)
  have e2 : B.map a.eval = vb.toArray := Array.toList_inj.1 (by simpa using hE.args hb)
  refine o_makeFunc hE ho e1 e2 ?_ hd hlt k
  rfl
/-- A call of a function value. -/
theorem qcF {f : FuncId} {x : Operand} {cs : List Value} {ars : Array Operand} {ts : Array TypeId} {vs : List Value} {R : Value → World → Prop} {d : Tmp} (hE : Env a n env) (hc : Calls P f (vs ++ cs).toArray w fun e w' => ∃ v, e = .returned v ∧ R v w') (kk : ∀ v a' w', R v w' → Env a' n ((d, v) :: env) → K a' w') (ho : o.op = .call { callee := .value x, args := ars, argTypes := ts } := by exact rfl)
    (hx : opv env x = some (.func (.func f) #[] cs.toArray) := by exact rfl) (F : FnTy P f := by infer_instance) (ha : argsOf env ars.toList = some vs := by exact rfl) (hd : o.dst = some d := by exact rfl) (hlt : Nat.blt d n = true := by exact rfl) : o.wp P a w K Q := by
  obtain ⟨fn, hf, hn, hb⟩ := F.h
  have hm : ars.map a.eval = vs.toArray := Array.toList_inj.1 (by simpa using hE.args ha)
  have hr : (execOp a.eval o).run P w = .ok (.enter f (vs ++ cs).toArray) w := by
    have hb' : fn.body ≠ none := by intro h; rw [h] at hb; simp at hb
    have hn' : fn.name ≠ "runtime.NumGoroutine" := by simpa using hn
    simp [execOp, ho, resolve, hm, hE.eval hx, Deferred.ofValue, invoke, callFunc, program, Sem.run, hf, hn', hb']
  unfold Oper.wp
  rw [hr]
  refine Calls.mono hc ?_
  rintro e w' ⟨v, rfl, hR⟩
  exact kk v _ w' hR (hE.putS v hd hlt)
end
end Go.Sx
/- DERIVED. Written by a program of this session (ty.py): what the walk asks of this seat's types and functions. -/
namespace Go.Proofs.YtdgpjkddpbiieaaTy
open Go.Sx
set_option maxRecDepth 100000
instance : TyInfo Try.prog 3 false 1 := ⟨by kernel_rfl, by kernel_rfl⟩
instance : ZeroTy Try.prog 3 [.int .i64 0] := ⟨by kernel_rfl⟩
instance : IntTy Try.prog 3 .i64 := ⟨Try.underlying3⟩
instance : TyInfo Try.prog 4 false 1 := ⟨by kernel_rfl, by kernel_rfl⟩
instance : TyInfo Try.prog 9 false 1 := ⟨by kernel_rfl, by kernel_rfl⟩
instance : StrTy Try.prog 9 := ⟨Try.underlying9⟩
instance : TyInfo Try.prog 22 false 1 := ⟨by kernel_rfl, by kernel_rfl⟩
instance : SliceTy Try.prog 22 55 3 := ⟨Try.underlying22, by kernel_rfl, by decide⟩
instance : AppTy Try.prog 22 55 3 := ⟨Try.underlying22, by kernel_rfl, by decide⟩
instance : TyInfo Try.prog 24 true 4 := ⟨by kernel_rfl, by kernel_rfl⟩
instance : ZeroTy Try.prog 24 [.int .i64 0, .int .i64 0, .int .i64 0, .int .i64 0] := ⟨by kernel_rfl⟩
instance : StructTy Try.prog 24 [(0, 1), (1, 1), (2, 1), (3, 1)] := ⟨_, Try.underlying24, by kernel_rfl⟩
instance : FieldTy Try.prog 24 0 0 := ⟨_, Try.underlying24, _, rfl, rfl, _, rfl, by decide⟩
instance : FieldTy Try.prog 24 1 1 := ⟨_, Try.underlying24, _, rfl, rfl, _, rfl, by decide⟩
instance : FieldTy Try.prog 24 2 2 := ⟨_, Try.underlying24, _, rfl, rfl, _, rfl, by decide⟩
instance : FieldTy Try.prog 24 3 3 := ⟨_, Try.underlying24, _, rfl, rfl, _, rfl, by decide⟩
instance : TyInfo Try.prog 26 true 5 := ⟨by kernel_rfl, by kernel_rfl⟩
instance : FieldTy Try.prog 26 0 0 := ⟨_, Try.underlying26, _, rfl, rfl, _, rfl, by decide⟩
instance : FieldTy Try.prog 26 1 1 := ⟨_, Try.underlying26, _, rfl, rfl, _, rfl, by decide⟩
instance : SliceTy Try.prog 27 41 12 := ⟨Try.underlying27, by kernel_rfl, by decide⟩
instance : PtrTy Try.prog 29 := ⟨_, Try.underlying29⟩
instance : TyInfo Try.prog 34 false 1 := ⟨by kernel_rfl, by kernel_rfl⟩
instance : SliceTy Try.prog 34 3 1 := ⟨Try.underlying34, by kernel_rfl, by decide⟩
instance : AppTy Try.prog 34 3 1 := ⟨Try.underlying34, by kernel_rfl, by decide⟩
instance : TyInfo Try.prog 35 false 1 := ⟨by kernel_rfl, by kernel_rfl⟩
instance : IntTy Try.prog 35 .u64 := ⟨Try.underlying35⟩
instance : TyInfo Try.prog 37 true 4 := ⟨by kernel_rfl, by kernel_rfl⟩
instance : ZeroTy Try.prog 37 [.bool false, .int .i64 0, .bool false, .int .i64 0] := ⟨by kernel_rfl⟩
instance : StructTy Try.prog 37 [(0, 1), (1, 1), (2, 1), (3, 1)] := ⟨_, Try.underlying37, by kernel_rfl⟩
instance : FieldTy Try.prog 37 0 0 := ⟨_, Try.underlying37, _, rfl, rfl, _, rfl, by decide⟩
instance : FieldTy Try.prog 37 3 3 := ⟨_, Try.underlying37, _, rfl, rfl, _, rfl, by decide⟩
instance : TyInfo Try.prog 39 true 8 := ⟨by kernel_rfl, by kernel_rfl⟩
instance : ZeroTy Try.prog 39 [.int .u64 0, .int .u64 0, .bool false, .int .i64 0, .bool false, .int .i64 0, .int .i64 0, .string ⟨#[]⟩] := ⟨by kernel_rfl⟩
instance : StructTy Try.prog 39 [(0, 1), (1, 1), (2, 4), (6, 1), (7, 1)] := ⟨_, Try.underlying39, by kernel_rfl⟩
instance : FieldTy Try.prog 39 0 0 := ⟨_, Try.underlying39, _, rfl, rfl, _, rfl, by decide⟩
instance : FieldTy Try.prog 39 1 1 := ⟨_, Try.underlying39, _, rfl, rfl, _, rfl, by decide⟩
instance : FieldTy Try.prog 39 2 2 := ⟨_, Try.underlying39, _, rfl, rfl, _, rfl, by decide⟩
instance : FieldTy Try.prog 39 4 7 := ⟨_, Try.underlying39, _, rfl, rfl, _, rfl, by decide⟩
instance : TyInfo Try.prog 41 true 12 := ⟨by kernel_rfl, by kernel_rfl⟩
instance : ZeroTy Try.prog 41 [.int .i64 0, .int .i64 0, .int .i64 0, .int .u64 0, .int .u64 0, .bool false, .int .i64 0, .bool false, .int .i64 0, .int .i64 0, .string ⟨#[]⟩, .int .i64 0] := ⟨by kernel_rfl⟩
instance : FieldTy Try.prog 41 0 0 := ⟨_, Try.underlying41, _, rfl, rfl, _, rfl, by decide⟩
instance : FieldTy Try.prog 41 1 1 := ⟨_, Try.underlying41, _, rfl, rfl, _, rfl, by decide⟩
instance : FieldTy Try.prog 41 2 2 := ⟨_, Try.underlying41, _, rfl, rfl, _, rfl, by decide⟩
instance : FieldTy Try.prog 41 3 3 := ⟨_, Try.underlying41, _, rfl, rfl, _, rfl, by decide⟩
instance : FieldTy Try.prog 41 4 11 := ⟨_, Try.underlying41, _, rfl, rfl, _, rfl, by decide⟩
instance : TyInfo Try.prog 43 false 1 := ⟨by kernel_rfl, by kernel_rfl⟩
instance : SliceTy Try.prog 43 57 9 := ⟨Try.underlying43, by kernel_rfl, by decide⟩
instance : AppTy Try.prog 43 57 9 := ⟨Try.underlying43, by kernel_rfl, by decide⟩
instance : TyInfo Try.prog 44 false 1 := ⟨by kernel_rfl, by kernel_rfl⟩
instance : IntTy Try.prog 44 .u32 := ⟨Try.underlying44⟩
instance : TyInfo Try.prog 46 true 13 := ⟨by kernel_rfl, by kernel_rfl⟩
instance : ZeroTy Try.prog 46 [.int .i64 0, .int .i64 0, .int .u64 0, .int .u64 0, .bool false, .int .i64 0, .bool false, .int .i64 0, .int .i64 0, .string ⟨#[]⟩, .slice none 0 0, .int .u32 0, .bool false] := ⟨by kernel_rfl⟩
instance : StructTy Try.prog 46 [(0, 1), (1, 1), (2, 8), (10, 1), (11, 1), (12, 1)] := ⟨_, Try.underlying46, by kernel_rfl⟩
instance : FieldTy Try.prog 46 0 0 := ⟨_, Try.underlying46, _, rfl, rfl, _, rfl, by decide⟩
instance : FieldTy Try.prog 46 1 1 := ⟨_, Try.underlying46, _, rfl, rfl, _, rfl, by decide⟩
instance : FieldTy Try.prog 46 2 2 := ⟨_, Try.underlying46, _, rfl, rfl, _, rfl, by decide⟩
instance : FieldTy Try.prog 46 3 10 := ⟨_, Try.underlying46, _, rfl, rfl, _, rfl, by decide⟩
instance : FieldTy Try.prog 46 4 11 := ⟨_, Try.underlying46, _, rfl, rfl, _, rfl, by decide⟩
instance : FieldTy Try.prog 46 5 12 := ⟨_, Try.underlying46, _, rfl, rfl, _, rfl, by decide⟩
instance : TyInfo Try.prog 55 true 3 := ⟨by kernel_rfl, by kernel_rfl⟩
instance : ZeroTy Try.prog 55 [.bool false, .int .i64 0, .slice none 0 0] := ⟨by kernel_rfl⟩
instance : StructTy Try.prog 55 [(0, 1), (1, 1), (2, 1)] := ⟨_, Try.underlying55, by kernel_rfl⟩
instance : FieldTy Try.prog 55 0 0 := ⟨_, Try.underlying55, _, rfl, rfl, _, rfl, by decide⟩
instance : FieldTy Try.prog 55 1 1 := ⟨_, Try.underlying55, _, rfl, rfl, _, rfl, by decide⟩
instance : FieldTy Try.prog 55 2 2 := ⟨_, Try.underlying55, _, rfl, rfl, _, rfl, by decide⟩
instance : ZeroTy Try.prog 57 [.int .i64 0, .int .u64 0, .int .u64 0, .bool false, .int .i64 0, .bool false, .int .i64 0, .int .i64 0, .string ⟨#[]⟩] := ⟨by kernel_rfl⟩
instance : StructTy Try.prog 57 [(0, 1), (1, 8)] := ⟨_, Try.underlying57, by kernel_rfl⟩
instance : FieldTy Try.prog 57 0 0 := ⟨_, Try.underlying57, _, rfl, rfl, _, rfl, by decide⟩
instance : FieldTy Try.prog 57 1 1 := ⟨_, Try.underlying57, _, rfl, rfl, _, rfl, by decide⟩
instance : TyInfo Try.prog 70 false 1 := ⟨by kernel_rfl, by kernel_rfl⟩
instance : ArrTy Try.prog 73 65 3 false 1 := ⟨Try.underlying73, ⟨by kernel_rfl, by kernel_rfl⟩, fun _ => rfl⟩
instance : ZeroTy Try.prog 75 [.slice none 0 0, .int .i64 0, .int .i64 0, .int .i64 0, .int .i64 0, .int .i64 0, .int .i64 0, .int .i64 0, .int .i64 0, .int .i64 0, .int .i64 0, .int .i64 0, .int .i64 0, .int .i64 0, .int .i64 0, .int .i64 0, .int .i64 0, .int .i64 0, .int .i64 0, .int .i64 0, .int .i64 0, .int .i64 0, .int .i64 0, .int .i64 0, .int .i64 0, .int .i64 0, .int .i64 0, .int .i64 0, .int .i64 0, .int .i64 0, .int .i64 0, .int .i64 0, .int .i64 0, .int .i64 0, .int .i64 0, .int .i64 0, .int .i64 0, .int .i64 0, .int .i64 0, .int .i64 0, .int .i64 0, .int .i64 0, .int .i64 0, .int .i64 0, .int .i64 0, .int .i64 0, .int .i64 0, .int .i64 0, .int .i64 0, .int .i64 0, .int .i64 0, .int .i64 0, .int .i64 0, .int .i64 0, .int .i64 0, .int .i64 0, .int .i64 0, .int .i64 0, .int .i64 0, .int .i64 0, .int .i64 0, .int .i64 0, .int .i64 0, .int .i64 0, .int .i64 0, .int .i64 0, .pointer none] := ⟨by kernel_rfl⟩
instance : StructTy Try.prog 75 [(0, 1), (1, 65), (66, 1)] := ⟨_, Try.underlying75, by kernel_rfl⟩
instance : FieldTy Try.prog 75 0 0 := ⟨_, Try.underlying75, _, rfl, rfl, _, rfl, by decide⟩
instance : FieldTy Try.prog 75 1 1 := ⟨_, Try.underlying75, _, rfl, rfl, _, rfl, by decide⟩
instance : FieldTy Try.prog 75 2 66 := ⟨_, Try.underlying75, _, rfl, rfl, _, rfl, by decide⟩
instance : TyInfo Try.prog 83 true 2 := ⟨by kernel_rfl, by kernel_rfl⟩
instance : ZeroTy Try.prog 83 [.int .i64 0, .int .u32 0] := ⟨by kernel_rfl⟩
instance : StructTy Try.prog 83 [(0, 1), (1, 1)] := ⟨_, Try.underlying83, by kernel_rfl⟩
instance : FieldTy Try.prog 83 0 0 := ⟨_, Try.underlying83, _, rfl, rfl, _, rfl, by decide⟩
instance : FieldTy Try.prog 83 1 1 := ⟨_, Try.underlying83, _, rfl, rfl, _, rfl, by decide⟩
instance : TyInfo Try.prog 97 false 1 := ⟨by kernel_rfl, by kernel_rfl⟩
instance : TyInfo Try.prog 100 false 1 := ⟨by kernel_rfl, by kernel_rfl⟩
instance : MapTy Try.prog 100 35 34 .u64 (.slice none 0 0) := ⟨Try.underlying100, Try.underlying35, by kernel_rfl⟩
instance : ZeroTy Try.prog 102 [.pointer none, .int .i64 0, .int .i64 0, .int .i64 0, .int .i64 0, .map none] := ⟨by kernel_rfl⟩
instance : StructTy Try.prog 102 [(0, 1), (1, 4), (5, 1)] := ⟨_, Try.underlying102, by kernel_rfl⟩
instance : FieldTy Try.prog 102 0 0 := ⟨_, Try.underlying102, _, rfl, rfl, _, rfl, by decide⟩
instance : FieldTy Try.prog 102 1 1 := ⟨_, Try.underlying102, _, rfl, rfl, _, rfl, by decide⟩
instance : FieldTy Try.prog 102 2 5 := ⟨_, Try.underlying102, _, rfl, rfl, _, rfl, by decide⟩
instance : TyInfo Try.prog 107 true 4 := ⟨by kernel_rfl, by kernel_rfl⟩
instance : ZeroTy Try.prog 107 [.int .u64 0, .int .u64 0, .int .i64 0, .bool false] := ⟨by kernel_rfl⟩
instance : StructTy Try.prog 107 [(0, 1), (1, 1), (2, 1), (3, 1)] := ⟨_, Try.underlying107, by kernel_rfl⟩
instance : FieldTy Try.prog 107 0 0 := ⟨_, Try.underlying107, _, rfl, rfl, _, rfl, by decide⟩
instance : FieldTy Try.prog 107 1 1 := ⟨_, Try.underlying107, _, rfl, rfl, _, rfl, by decide⟩
instance : FieldTy Try.prog 107 2 2 := ⟨_, Try.underlying107, _, rfl, rfl, _, rfl, by decide⟩
instance : FieldTy Try.prog 107 3 3 := ⟨_, Try.underlying107, _, rfl, rfl, _, rfl, by decide⟩
instance : TyInfo Try.prog 125 false 1 := ⟨by kernel_rfl, by kernel_rfl⟩
instance : SliceTy Try.prog 125 107 4 := ⟨Try.underlying125, by kernel_rfl, by decide⟩
instance : AppTy Try.prog 125 107 4 := ⟨Try.underlying125, by kernel_rfl, by decide⟩
instance : IntTy Try.prog 127 .u64 := ⟨Try.underlying127⟩
instance : TyInfo Try.prog 132 false 1 := ⟨by kernel_rfl, by kernel_rfl⟩
instance : ZeroTy Try.prog 134 [.slice none 0 0, .nilFunc] := ⟨by kernel_rfl⟩
instance : StructTy Try.prog 134 [(0, 1), (1, 1)] := ⟨_, Try.underlying134, by kernel_rfl⟩
instance : FieldTy Try.prog 134 0 0 := ⟨_, Try.underlying134, _, rfl, rfl, _, rfl, by decide⟩
instance : FieldTy Try.prog 134 1 1 := ⟨_, Try.underlying134, _, rfl, rfl, _, rfl, by decide⟩
instance : ZeroTy Try.prog 136 [.slice none 0 0, .nilFunc, .int .i64 0, .int .i64 0] := ⟨by kernel_rfl⟩
instance : StructTy Try.prog 136 [(0, 2), (2, 1), (3, 1)] := ⟨_, Try.underlying136, by kernel_rfl⟩
instance : FieldTy Try.prog 136 0 0 := ⟨_, Try.underlying136, _, rfl, rfl, _, rfl, by decide⟩
instance : FieldTy Try.prog 136 1 2 := ⟨_, Try.underlying136, _, rfl, rfl, _, rfl, by decide⟩
instance : FieldTy Try.prog 136 2 3 := ⟨_, Try.underlying136, _, rfl, rfl, _, rfl, by decide⟩
instance : TyInfo Try.prog 152 false 1 := ⟨by kernel_rfl, by kernel_rfl⟩
instance : EqTy Try.prog 3 false [some (.i .i64)] 1 := ⟨eqat_int Try.underlying3⟩
instance : EqTy Try.prog 4 false [some .b] 1 := ⟨eqat_bool Try.underlying4⟩
instance : EqTy Try.prog 9 false [some .s] 1 := ⟨eqat_string Try.underlying9⟩
instance : EqTy Try.prog 35 false [some (.i .u64)] 1 := ⟨eqat_int Try.underlying35⟩
instance : EqTy Try.prog 37 true [some .b, some (.i .i64), some .b, some (.i .i64)] 2 := ⟨eqat_struct Try.underlying37 (by kernel_rfl) (FieldsEq.cons (agg := false) (m' := 1) (sh1 := [some .b]) (by decide) rfl (show EqTy Try.prog 4 false [some .b] 1 from inferInstance) rfl (show TyInfo Try.prog 4 false 1 from inferInstance) rfl (FieldsEq.cons (agg := false) (m' := 1) (sh1 := [some (.i .i64)]) (by decide) rfl (show EqTy Try.prog 3 false [some (.i .i64)] 1 from inferInstance) rfl (show TyInfo Try.prog 3 false 1 from inferInstance) rfl (FieldsEq.cons (agg := false) (m' := 1) (sh1 := [some .b]) (by decide) rfl (show EqTy Try.prog 4 false [some .b] 1 from inferInstance) rfl (show TyInfo Try.prog 4 false 1 from inferInstance) rfl (FieldsEq.cons (agg := false) (m' := 1) (sh1 := [some (.i .i64)]) (by decide) rfl (show EqTy Try.prog 3 false [some (.i .i64)] 1 from inferInstance) rfl (show TyInfo Try.prog 3 false 1 from inferInstance) rfl FieldsEq.nil))))⟩
instance : EqTy Try.prog 39 true [some (.i .u64), some (.i .u64), some .b, some (.i .i64), some .b, some (.i .i64), some (.i .i64), some .s] 3 := ⟨eqat_struct Try.underlying39 (by kernel_rfl) (FieldsEq.cons (agg := false) (m' := 1) (sh1 := [some (.i .u64)]) (by decide) rfl (show EqTy Try.prog 35 false [some (.i .u64)] 1 from inferInstance) rfl (show TyInfo Try.prog 35 false 1 from inferInstance) rfl (FieldsEq.cons (agg := false) (m' := 1) (sh1 := [some (.i .u64)]) (by decide) rfl (show EqTy Try.prog 35 false [some (.i .u64)] 1 from inferInstance) rfl (show TyInfo Try.prog 35 false 1 from inferInstance) rfl (FieldsEq.cons (agg := true) (m' := 2) (sh1 := [some .b, some (.i .i64), some .b, some (.i .i64)]) (by decide) rfl (show EqTy Try.prog 37 true [some .b, some (.i .i64), some .b, some (.i .i64)] 2 from inferInstance) rfl (show TyInfo Try.prog 37 true 4 from inferInstance) rfl (FieldsEq.cons (agg := false) (m' := 1) (sh1 := [some (.i .i64)]) (by decide) rfl (show EqTy Try.prog 3 false [some (.i .i64)] 1 from inferInstance) rfl (show TyInfo Try.prog 3 false 1 from inferInstance) rfl (FieldsEq.cons (agg := false) (m' := 1) (sh1 := [some .s]) (by decide) rfl (show EqTy Try.prog 9 false [some .s] 1 from inferInstance) rfl (show TyInfo Try.prog 9 false 1 from inferInstance) rfl FieldsEq.nil)))))⟩
instance : NoGuard Try.prog 39 := ⟨by kernel_rfl⟩
instance : FnTy Try.prog 8 := ⟨_, Try.func8, by kernel_rfl, rfl⟩
instance : FnTy Try.prog 9 := ⟨_, Try.func9, by kernel_rfl, rfl⟩
instance : FnTy Try.prog 10 := ⟨_, Try.func10, by kernel_rfl, rfl⟩
instance : FnTy Try.prog 11 := ⟨_, Try.func11, by kernel_rfl, rfl⟩
instance : FnTy Try.prog 12 := ⟨_, Try.func12, by kernel_rfl, rfl⟩
instance : FnTy Try.prog 13 := ⟨_, Try.func13, by kernel_rfl, rfl⟩
instance : FnTy Try.prog 14 := ⟨_, Try.func14, by kernel_rfl, rfl⟩
instance : FnTy Try.prog 15 := ⟨_, Try.func15, by kernel_rfl, rfl⟩
instance : FnTy Try.prog 16 := ⟨_, Try.func16, by kernel_rfl, rfl⟩
instance : FnTy Try.prog 17 := ⟨_, Try.func17, by kernel_rfl, rfl⟩
instance : FnTy Try.prog 18 := ⟨_, Try.func18, by kernel_rfl, rfl⟩
instance : FnTy Try.prog 19 := ⟨_, Try.func19, by kernel_rfl, rfl⟩
instance : FnTy Try.prog 22 := ⟨_, Try.func22, by kernel_rfl, rfl⟩
instance : FnTy Try.prog 23 := ⟨_, Try.func23, by kernel_rfl, rfl⟩
instance : FnTy Try.prog 24 := ⟨_, Try.func24, by kernel_rfl, rfl⟩
instance : FnTy Try.prog 25 := ⟨_, Try.func25, by kernel_rfl, rfl⟩
instance : FnTy Try.prog 26 := ⟨_, Try.func26, by kernel_rfl, rfl⟩
instance : FnTy Try.prog 27 := ⟨_, Try.func27, by kernel_rfl, rfl⟩
instance : FnTy Try.prog 28 := ⟨_, Try.func28, by kernel_rfl, rfl⟩
instance : FnTy Try.prog 29 := ⟨_, Try.func29, by kernel_rfl, rfl⟩
instance : FnTy Try.prog 30 := ⟨_, Try.func30, by kernel_rfl, rfl⟩
instance : FnTy Try.prog 31 := ⟨_, Try.func31, by kernel_rfl, rfl⟩
instance : FnTy Try.prog 32 := ⟨_, Try.func32, by kernel_rfl, rfl⟩
instance : FnTy Try.prog 33 := ⟨_, Try.func33, by kernel_rfl, rfl⟩
instance : FnTy Try.prog 34 := ⟨_, Try.func34, by kernel_rfl, rfl⟩
instance : FnTy Try.prog 35 := ⟨_, Try.func35, by kernel_rfl, rfl⟩
instance : FnTy Try.prog 36 := ⟨_, Try.func36, by kernel_rfl, rfl⟩
instance : FnTy Try.prog 37 := ⟨_, Try.func37, by kernel_rfl, rfl⟩
instance : FnTy Try.prog 38 := ⟨_, Try.func38, by kernel_rfl, rfl⟩
instance : FnTy Try.prog 39 := ⟨_, Try.func39, by kernel_rfl, rfl⟩
instance : FnTy Try.prog 42 := ⟨_, Try.func42, by kernel_rfl, rfl⟩
instance : FnTy Try.prog 43 := ⟨_, Try.func43, by kernel_rfl, rfl⟩
instance : FnTy Try.prog 44 := ⟨_, Try.func44, by kernel_rfl, rfl⟩
instance : FnTy Try.prog 45 := ⟨_, Try.func45, by kernel_rfl, rfl⟩
instance : FnTy Try.prog 46 := ⟨_, Try.func46, by kernel_rfl, rfl⟩
instance : FnTy Try.prog 47 := ⟨_, Try.func47, by kernel_rfl, rfl⟩
instance : FnTy Try.prog 48 := ⟨_, Try.func48, by kernel_rfl, rfl⟩
instance : FnTy Try.prog 49 := ⟨_, Try.func49, by kernel_rfl, rfl⟩
instance : FnTy Try.prog 50 := ⟨_, Try.func50, by kernel_rfl, rfl⟩
instance : FnTy Try.prog 51 := ⟨_, Try.func51, by kernel_rfl, rfl⟩
instance : FnTy Try.prog 52 := ⟨_, Try.func52, by kernel_rfl, rfl⟩
instance : FnTy Try.prog 53 := ⟨_, Try.func53, by kernel_rfl, rfl⟩
instance : FnTy Try.prog 54 := ⟨_, Try.func54, by kernel_rfl, rfl⟩
instance : FnTy Try.prog 55 := ⟨_, Try.func55, by kernel_rfl, rfl⟩
instance : FnTy Try.prog 56 := ⟨_, Try.func56, by kernel_rfl, rfl⟩
instance : FnTy Try.prog 57 := ⟨_, Try.func57, by kernel_rfl, rfl⟩
instance : FnTy Try.prog 58 := ⟨_, Try.func58, by kernel_rfl, rfl⟩
instance : FnTy Try.prog 59 := ⟨_, Try.func59, by kernel_rfl, rfl⟩
instance : FnTy Try.prog 60 := ⟨_, Try.func60, by kernel_rfl, rfl⟩
instance : FnTy Try.prog 61 := ⟨_, Try.func61, by kernel_rfl, rfl⟩
instance : FnTy Try.prog 64 := ⟨_, Try.func64, by kernel_rfl, rfl⟩
instance : FnTy Try.prog 65 := ⟨_, Try.func65, by kernel_rfl, rfl⟩
instance : FnTy Try.prog 66 := ⟨_, Try.func66, by kernel_rfl, rfl⟩
instance : FnTy Try.prog 67 := ⟨_, Try.func67, by kernel_rfl, rfl⟩
instance : FnTy Try.prog 68 := ⟨_, Try.func68, by kernel_rfl, rfl⟩
instance : FnTy Try.prog 69 := ⟨_, Try.func69, by kernel_rfl, rfl⟩
instance : FnTy Try.prog 70 := ⟨_, Try.func70, by kernel_rfl, rfl⟩
instance : FnTy Try.prog 71 := ⟨_, Try.func71, by kernel_rfl, rfl⟩
instance : FnTy Try.prog 72 := ⟨_, Try.func72, by kernel_rfl, rfl⟩
instance : FnTy Try.prog 73 := ⟨_, Try.func73, by kernel_rfl, rfl⟩
instance : FnTy Try.prog 74 := ⟨_, Try.func74, by kernel_rfl, rfl⟩
instance : FnTy Try.prog 76 := ⟨_, Try.func76, by kernel_rfl, rfl⟩
instance : FnTy Try.prog 77 := ⟨_, Try.func77, by kernel_rfl, rfl⟩
instance : FnTy Try.prog 78 := ⟨_, Try.func78, by kernel_rfl, rfl⟩
instance : FnTy Try.prog 80 := ⟨_, Try.func80, by kernel_rfl, rfl⟩
instance : FnTy Try.prog 81 := ⟨_, Try.func81, by kernel_rfl, rfl⟩
instance : FnTy Try.prog 82 := ⟨_, Try.func82, by kernel_rfl, rfl⟩
instance : FnTy Try.prog 83 := ⟨_, Try.func83, by kernel_rfl, rfl⟩
instance : FnTy Try.prog 84 := ⟨_, Try.func84, by kernel_rfl, rfl⟩
instance : FnTy Try.prog 85 := ⟨_, Try.func85, by kernel_rfl, rfl⟩
instance : FnTy Try.prog 86 := ⟨_, Try.func86, by kernel_rfl, rfl⟩
instance : FnTy Try.prog 88 := ⟨_, Try.func88, by kernel_rfl, rfl⟩
instance : FnTy Try.prog 89 := ⟨_, Try.func89, by kernel_rfl, rfl⟩
instance : FnTy Try.prog 90 := ⟨_, Try.func90, by kernel_rfl, rfl⟩
instance : OvTy Try.prog 91 125 := ⟨_, 4, Try.func91, by kernel_rfl, by kernel_rfl, by kernel_rfl, by kernel_rfl⟩
instance : FnTy Try.prog 93 := ⟨_, Try.func93, by kernel_rfl, rfl⟩
instance : Mixed Try.prog := ⟨by kernel_rfl⟩
end Go.Proofs.YtdgpjkddpbiieaaTy

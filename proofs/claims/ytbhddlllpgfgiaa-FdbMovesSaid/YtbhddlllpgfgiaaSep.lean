/- DERIVED. What a call owns, as a list of resources that lie apart: the heap part of the walks of this seat. No condition. -/
import Derived.WalkKit
import Derived.Below
import Derived.Deep.Draws
import Derived.Carry
namespace Go.Sx
open Go.RowKit
set_option linter.unusedVariables false
set_option linter.unusedSimpArgs false

abbrev Foot := Nat → Prop

/-- A resource: what it says of the world, and of which blocks. -/
structure Asn where
  P : World → Foot → Prop
  move : ∀ {w w' : World} {F : Foot}, P w F → (∀ k, F k → w'.heap[k]? = w.heap[k]?) → P w' F

def SepL (w : World) : List Asn → Foot → Prop
  | [], F => ∀ k, ¬ F k
  | A :: L, F => ∃ F1 F2 : Foot, (∀ k, F k ↔ F1 k ∨ F2 k) ∧ (∀ k, F1 k → ¬ F2 k) ∧ A.P w F1 ∧ SepL w L F2

theorem SepL.move {w w' : World} : ∀ {L : List Asn} {F : Foot}, SepL w L F → (∀ k, F k → w'.heap[k]? = w.heap[k]?) → SepL w' L F
  | [], _, h, _ => h
  | A :: L, F, ⟨F1, F2, hF, hd, hA, hL⟩, hm => ⟨F1, F2, hF, hd, A.move hA (fun k hk => hm k ((hF k).2 (.inl hk))), SepL.move hL (fun k hk => hm k ((hF k).2 (.inr hk)))⟩

/-- What has become of the world since w0: what was there is as it was, and of what is new L is owned. -/
structure Sep (w0 w : World) (L : List Asn) : Prop where
  below : Below w0.heap.size w0 w
  own : ∃ F, SepL w L F ∧ ∀ k, F k → w0.heap.size ≤ k ∧ k < w.heap.size

theorem Sep.nil (w : World) : Sep w w [] := ⟨Below.refl _ _, fun _ => False, fun _ h => h, fun _ h => h.elim⟩
theorem Sep.size {w0 w : World} {L : List Asn} (h : Sep w0 w L) : w0.heap.size ≤ w.heap.size := h.below.size

/-- L0 is L with x put in somewhere. -/
inductive Pull (x : Asn) : List Asn → List Asn → Prop
  | here {L : List Asn} : Pull x (x :: L) L
  | there {y : Asn} {L L' : List Asn} : Pull x L L' → Pull x (y :: L) (y :: L')

theorem SepL.swap {w : World} {A B : Asn} {L : List Asn} {F : Foot} (h : SepL w (A :: B :: L) F) : SepL w (B :: A :: L) F := by
  obtain ⟨F1, F2, hF, hd, hA, F3, F4, hG, he, hB, hL⟩ := h
  refine ⟨F3, fun k => F1 k ∨ F4 k, fun k => ?_, fun k h3 => ?_, hB, F1, F4, fun k => Iff.rfl, fun k h1 h4 => ?_, hA, hL⟩
  · rw [hF, hG]
    constructor
    · rintro (h | h | h)
      · exact .inr (.inl h)
      · exact .inl h
      · exact .inr (.inr h)
    · rintro (h | h | h)
      · exact .inr (.inl h)
      · exact .inl h
      · exact .inr (.inr h)
  · rintro (h | h)
    · exact hd k h ((hG k).2 (.inl h3))
    · exact he k h3 h
  · exact hd k h1 ((hG k).2 (.inr h4))

theorem SepL.pull {w : World} {x : Asn} {L L' : List Asn} (hp : Pull x L L') : ∀ {F : Foot}, SepL w L F → SepL w (x :: L') F := by
  induction hp with
  | here => exact fun h => h
  | there _ ih =>
    intro F h
    obtain ⟨F1, F2, hF, hd, hA, hL⟩ := h
    exact SepL.swap ⟨F1, F2, hF, hd, hA, ih hL⟩
theorem SepL.push {w : World} {x : Asn} {L L' : List Asn} (hp : Pull x L L') : ∀ {F : Foot}, SepL w (x :: L') F → SepL w L F := by
  induction hp with
  | here => exact fun h => h
  | there _ ih =>
    intro F h
    obtain ⟨F1, F2, hF, hd, hA, hL⟩ := SepL.swap h
    exact ⟨F1, F2, hF, hd, hA, ih hL⟩
theorem Sep.pull {w0 w : World} {x : Asn} {L L' : List Asn} (h : Sep w0 w L) (hp : Pull x L L') : Sep w0 w (x :: L') :=
  ⟨h.below, let ⟨F, hL, hr⟩ := h.own; ⟨F, hL.pull hp, hr⟩⟩
theorem Sep.push {w0 w : World} {x : Asn} {L L' : List Asn} (h : Sep w0 w (x :: L')) (hp : Pull x L L') : Sep w0 w L :=
  ⟨h.below, let ⟨F, hL, hr⟩ := h.own; ⟨F, hL.push hp, hr⟩⟩

theorem SepL.append {w : World} : ∀ {L M : List Asn} {F G : Foot}, SepL w L F → SepL w M G → (∀ k, F k → ¬ G k) → SepL w (L ++ M) (fun k => F k ∨ G k)
  | [], M, F, G, hL, hM, _ => by
    have : (fun k => F k ∨ G k) = G := funext fun k => propext ⟨fun h => h.elim (fun h => (hL k h).elim) id, .inr⟩
    rw [this]; exact hM
  | A :: L, M, F, G, ⟨F1, F2, hF, hd, hA, hL⟩, hM, hx => by
    refine ⟨F1, fun k => F2 k ∨ G k, fun k => ?_, fun k h1 h2 => ?_, hA, SepL.append hL hM (fun k h2 => hx k ((hF k).2 (.inr h2)))⟩
    · show F k ∨ G k ↔ F1 k ∨ (F2 k ∨ G k)
      rw [hF, or_assoc]
    · rcases h2 with h2 | h2
      · exact hd k h1 h2
      · exact hx k ((hF k).2 (.inl h1)) h2

/-- A call that owns nothing of the caller's: what it made is owned beside. -/
theorem Sep.then {w0 w w' : World} {L R : List Asn} (h : Sep w0 w L) (k : Sep w w' R) : Sep w0 w' (R ++ L) := by
  obtain ⟨F, hL, hr⟩ := h.own
  obtain ⟨G, hR, hs⟩ := k.own
  refine ⟨h.below.trans (k.below.mono h.below.size), fun k => G k ∨ F k, SepL.append hR (hL.move fun i hi => k.below.block i (hr i hi).2) (fun i hg hf => by have := hs i hg; have := hr i hf; omega), fun i hi => ?_⟩
  rcases hi with hi | hi
  · have := hs i hi; have := h.below.size; omega
  · have := hr i hi; have := k.below.size; omega

/-- The world turned, but not what is owned, nor what was there. -/
theorem Sep.same {w0 w w' : World} {L : List Asn} (h : Sep w0 w L) (hb : Below w.heap.size w w') : Sep w0 w' L :=
  Sep.then (R := []) h ⟨hb, fun _ => False, fun _ h => h, fun _ h => h.elim⟩
theorem Sep.drew {w0 w : World} {L : List Asn} (h : Sep w0 w L) : Sep w0 w.drew L := h.same (Below.refl _ _).drew
theorem Sep.drop {w0 w : World} {A : Asn} {L : List Asn} (h : Sep w0 w (A :: L)) : Sep w0 w L := by
  obtain ⟨F, ⟨F1, F2, hF, hd, hA, hL⟩, hr⟩ := h.own
  exact ⟨h.below, F2, hL, fun k hk => hr k ((hF k).2 (.inr hk))⟩
theorem Sep.dropN {w0 w : World} : ∀ (n : Nat) {L : List Asn}, Sep w0 w L → Sep w0 w (L.drop n)
  | 0, _, h => h
  | _ + 1, [], h => h
  | n + 1, _ :: _, h => Sep.dropN n h.drop

theorem Sep.clean {w0 w : World} {L : List Asn} (h : Sep w0 w L) : Sep w0 w [] := ⟨h.below, fun _ => False, fun _ h => h, fun _ h => h.elim⟩

/-! ### the resources -/
/-- A block of cells. -/
def blk (g : Nat) (cs : List Value) (t : TypeId) : Asn where
  P w F := w.heap[g]? = some (.cells cs.toArray t (0, 0)) ∧ ∀ k, F k ↔ k = g
  move := fun ⟨h, hF⟩ hm => ⟨(hm g ((hF g).2 rfl)).trans h, hF⟩
/-- A row of a slice value: like the kit's ownsRow, but the block may be longer than the slice's capacity. -/
def oRow (w : World) (base : Nat) (e : TypeId) (size : Nat) (v : Value) (n : Nat) (xs : List Value) : Prop :=
  xs.length = n * size ∧
  ((v = .slice none 0 0 ∧ n = 0) ∨
   ∃ g cap cur, v = .slice (some ⟨g, 0, none⟩) n cap ∧ base ≤ g ∧ w.heap[g]? = some (.cells cur e (0, 0)) ∧ n ≤ cap ∧ cap ≤ maxLen ∧ cap * size ≤ cur.size ∧ cur.toList.take (n * size) = xs)
theorem oRow_nil (w : World) (base : Nat) (e : TypeId) (size : Nat) : oRow w base e size (.slice none 0 0) 0 [] := ⟨by simp, .inl ⟨rfl, rfl⟩⟩
theorem oRow.lt {w : World} {base : Nat} {e : TypeId} {size : Nat} {v : Value} {n : Nat} {xs : List Value} (h : oRow w base e size v n xs) : ∀ k, v.ownBlock = some k → base ≤ k ∧ k < w.heap.size := by
  intro k hk
  rcases h.2 with ⟨rfl, _⟩ | ⟨g, cap, cur, rfl, hb, hg, _⟩
  · simp [Value.ownBlock] at hk
  · simp [Value.ownBlock] at hk
    subst hk
    exact ⟨hb, (Array.getElem?_eq_some_iff.1 hg).1⟩
theorem oRow.cells {w : World} {base : Nat} {e : TypeId} {size : Nat} {v : Value} {n : Nat} {xs : List Value} (h : oRow w base e size v n xs) {g : Nat} (hg : v.ownBlock = some g) : ∀ j u, xs[j]? = some u → w.cell? ((⟨g, 0, none⟩ : Addr).add j) = some u := by
  intro j u hu
  rcases h.2 with ⟨rfl, _⟩ | ⟨g', cap, cur, rfl, _, hgg, _, _, _, htake⟩
  · simp [Value.ownBlock] at hg
  · simp [Value.ownBlock] at hg
    subst hg
    have hadd : (⟨g', 0, none⟩ : Addr).add j = ⟨g', j, none⟩ := by unfold Addr.add; split <;> simp_all
    rw [hadd, cell_of_row w g' j cur e (0, 0) hgg]
    rw [← htake, List.getElem?_take] at hu
    split at hu
    · simpa using hu
    · cases hu
def row (e : TypeId) (sz : Nat) (v : Value) (n : Nat) (xs : List Value) : Asn where
  P w F := oRow w 0 e sz v n xs ∧ ∀ k, F k ↔ v.ownBlock = some k
  move := by
    rintro w w' F ⟨h, hF⟩ hm
    refine ⟨⟨h.1, ?_⟩, hF⟩
    rcases h.2 with h2 | ⟨g, cap, cur, rfl, hb, hg, r⟩
    · exact .inl h2
    · exact .inr ⟨g, cap, cur, rfl, hb, (hm g ((hF g).2 rfl)).trans hg, r⟩
def pur (p : Prop) : Asn where
  P _ F := p ∧ ∀ k, ¬ F k
  move := fun h _ => h
def ex {α : Type} (f : α → Asn) : Asn where
  P w F := ∃ a, (f a).P w F
  move := fun ⟨a, h⟩ hm => ⟨a, (f a).move h hm⟩
def stars (L : List Asn) : Asn where
  P w F := SepL w L F
  move := fun h hm => h.move hm

section
variable {w0 w : World} {L : List Asn}
theorem Sep.blk_at {g : Nat} {cs : List Value} {t : TypeId} {L' : List Asn} (h : Sep w0 w L) (hp : Pull (blk g cs t) L L') : w.heap[g]? = some (.cells cs.toArray t (0, 0)) := by
  obtain ⟨F, ⟨F1, F2, _, _, hA, _⟩, _⟩ := (h.pull hp).own
  exact hA.1
theorem Sep.row_at {e : TypeId} {sz n : Nat} {v : Value} {xs : List Value} {L' : List Asn} (h : Sep w0 w L) (hp : Pull (row e sz v n xs) L L') : oRow w 0 e sz v n xs := by
  obtain ⟨F, ⟨F1, F2, _, _, hA, _⟩, _⟩ := (h.pull hp).own
  exact hA.1
theorem Sep.out_pur {p : Prop} {L' : List Asn} (h : Sep w0 w L) (hp : Pull (pur p) L L') : p ∧ Sep w0 w L' := by
  obtain ⟨F, ⟨F1, F2, hF, _, hA, hL⟩, hr⟩ := (h.pull hp).own
  exact ⟨hA.1, h.below, F2, hL, fun k hk => hr k ((hF k).2 (.inr hk))⟩
theorem Sep.in_pur {p : Prop} (h : Sep w0 w L) (hp : p) : Sep w0 w (pur p :: L) := by
  obtain ⟨F, hL, hr⟩ := h.own
  exact ⟨h.below, F, ⟨fun _ => False, F, fun k => by simp, fun _ h => h.elim, ⟨hp, fun _ h => h⟩, hL⟩, hr⟩
theorem Sep.out_ex {α : Type} {f : α → Asn} {L' : List Asn} (h : Sep w0 w L) (hp : Pull (ex f) L L') : ∃ a, Sep w0 w (f a :: L') := by
  obtain ⟨F, ⟨F1, F2, hF, hd, ⟨a, hA⟩, hL⟩, hr⟩ := (h.pull hp).own
  exact ⟨a, h.below, F, ⟨F1, F2, hF, hd, hA, hL⟩, hr⟩
theorem Sep.in_ex {α : Type} {f : α → Asn} (a : α) (h : Sep w0 w (f a :: L)) : Sep w0 w (ex f :: L) := by
  obtain ⟨F, ⟨F1, F2, hF, hd, hA, hL⟩, hr⟩ := h.own
  exact ⟨h.below, F, ⟨F1, F2, hF, hd, ⟨a, hA⟩, hL⟩, hr⟩
theorem SepL.split {w : World} : ∀ {L M : List Asn} {F : Foot}, SepL w (L ++ M) F → ∃ F1 F2 : Foot, (∀ k, F k ↔ F1 k ∨ F2 k) ∧ (∀ k, F1 k → ¬ F2 k) ∧ SepL w L F1 ∧ SepL w M F2
  | [], M, F, h => ⟨fun _ => False, F, fun k => by simp, fun _ h => h.elim, fun _ h => h, h⟩
  | A :: L, M, F, ⟨F1, F2, hF, hd, hA, h⟩ => by
    obtain ⟨G1, G2, hG, he, hL, hM⟩ := SepL.split h
    refine ⟨fun k => F1 k ∨ G1 k, G2, fun k => ?_, fun k h1 h2 => ?_, ⟨F1, G1, fun k => Iff.rfl, fun k h1 h2 => hd k h1 ((hG k).2 (.inl h2)), hA, hL⟩, hM⟩
    · rw [hF, hG, or_assoc]
    · rcases h1 with h1 | h1
      · exact hd k h1 ((hG k).2 (.inr h2))
      · exact he k h1 h2
theorem Sep.out_stars {M L' : List Asn} (h : Sep w0 w L) (hp : Pull (stars M) L L') : Sep w0 w (M ++ L') := by
  obtain ⟨F, ⟨F1, F2, hF, hd, hA, hL⟩, hr⟩ := (h.pull hp).own
  refine ⟨h.below, F, ?_, hr⟩
  have := SepL.append hA hL hd
  rwa [show (fun k => F1 k ∨ F2 k) = F from funext fun k => propext (hF k).symm] at this
theorem Sep.in_stars {M : List Asn} (h : Sep w0 w (M ++ L)) : Sep w0 w (stars M :: L) := by
  obtain ⟨F, hL, hr⟩ := h.own
  obtain ⟨F1, F2, hF, hd, h1, h2⟩ := hL.split
  exact ⟨h.below, F, ⟨F1, F2, hF, hd, h1, h2⟩, hr⟩

/-! ### what turns them -/
/-- A new object. -/
theorem Sep.new {A : Asn} (h : Sep w0 w L) (o : Obj) (hA : ∀ w', w'.heap[w.heap.size]? = some o → A.P w' (fun k => k = w.heap.size)) : Sep w0 (w.alloc o) (A :: L) := by
  have hb : Below w.heap.size w (w.alloc o) := (Below.refl _ _).alloc (Nat.le_refl _) o
  obtain ⟨F, hL, hr⟩ := h.own
  refine ⟨h.below.trans (hb.mono h.below.size), fun k => k = w.heap.size ∨ F k, ⟨_, F, fun k => Iff.rfl, fun k h1 h2 => by have := hr k h2; omega, hA _ (heap_alloc_new w o), hL.move fun k hk => hb.block k (hr k hk).2⟩, fun k hk => ?_⟩
  have hs : (w.alloc o).heap.size = w.heap.size + 1 := by simp
  rcases hk with rfl | hk
  · exact ⟨h.below.size, by omega⟩
  · have := hr k hk; exact ⟨this.1, by omega⟩
theorem Sep.alloc {cs : List Value} {t : TypeId} (h : Sep w0 w L) : Sep w0 (w.alloc (.cells cs.toArray t)) (blk w.heap.size cs t :: L) :=
  h.new _ fun w' hw => ⟨hw, fun k => Iff.rfl⟩
/-- One resource is turned into others, in its own blocks or new ones. -/
theorem Sep.turn {w' : World} {A : Asn} {M : List Asn} (h : Sep w0 w (A :: L)) (hos : w'.os = w.os) (htape : w'.tape = w.tape) (hout : w'.output = w.output) (hsz : w.heap.size ≤ w'.heap.size)
    (ht : ∀ F, A.P w F → (∀ k, F k → k < w.heap.size) → (∀ k, k < w.heap.size → ¬ F k → w'.heap[k]? = w.heap[k]?) ∧ ∃ G, SepL w' M G ∧ ∀ k, G k → (F k ∨ w.heap.size ≤ k) ∧ k < w'.heap.size) : Sep w0 w' (M ++ L) := by
  obtain ⟨F, ⟨F1, F2, hF, hd, hA, hL⟩, hr⟩ := h.own
  obtain ⟨hk, G, hM, hG⟩ := ht F1 hA (fun k hk => (hr k ((hF k).2 (.inl hk))).2)
  refine ⟨⟨hos.trans h.below.os, htape.trans h.below.tape, hout.trans h.below.output, Nat.le_trans h.below.size hsz, fun k hlt => ?_⟩, fun k => G k ∨ F2 k, SepL.append hM (hL.move fun k h2 => hk k (hr k ((hF k).2 (.inr h2))).2 (fun h1 => hd k h1 h2)) (fun k hg h2 => ?_), fun k hkk => ?_⟩
  · have hlt' : k < w.heap.size := Nat.lt_of_lt_of_le hlt h.below.size
    rw [hk k hlt' (fun h1 => by have := hr k ((hF k).2 (.inl h1)); omega)]
    exact h.below.block k hlt
  · rcases (hG k hg).1 with h1 | h1
    · exact hd k h1 h2
    · have := hr k ((hF k).2 (.inr h2)); omega
  · rcases hkk with hg | h2
    · refine ⟨?_, (hG k hg).2⟩
      rcases (hG k hg).1 with h1 | h1
      · exact (hr k ((hF k).2 (.inl h1))).1
      · exact Nat.le_trans h.below.size h1
    · have := hr k ((hF k).2 (.inr h2)); omega
theorem Sep.setRow {g : Nat} {cs : List Value} {t : TypeId} (h : Sep w0 w (blk g cs t :: L)) (cs' : List Value) : Sep w0 (w.setRow g cs'.toArray) (blk g cs' t :: L) := by
  refine Sep.turn (M := [blk g cs' t]) h rfl rfl rfl (by simp) fun F hA hF => ⟨fun k _ hk => setRow_other w g k _ (fun e => hk ((hA.2 k).2 e)), fun k => k = g, ⟨fun k => k = g, fun _ => False, fun k => by simp, fun _ _ h => h, ⟨setRow_heap w g _ _ t _ hA.1, fun k => Iff.rfl⟩, fun _ h => h⟩, fun k hk => ?_⟩
  subst hk
  have h1 := (hA.2 k).2 rfl
  exact ⟨.inl h1, by have := hF k h1; simpa using this⟩
/-- A row is grown (the kit's append). -/
theorem Sep.grow {w' : World} {e : TypeId} {sz n n' : Nat} {v v' : Value} {xs xs' : List Value} (h : Sep w0 w (row e sz v n xs :: L)) (hown : oRow w' 0 e sz v' n' xs') (hg : w.grownBy w' v.ownBlock)
    (hat : v'.ownBlock = none ∨ v'.ownBlock = v.ownBlock ∨ ∃ b, v'.ownBlock = some b ∧ w.heap.size ≤ b) : Sep w0 w' (row e sz v' n' xs' :: L) := by
  refine Sep.turn (M := [row e sz v' n' xs']) h hg.os hg.tape hg.output hg.size fun F hA hF => ⟨fun k hk hn => hg.block k hk (fun e => hn ((hA.2 k).2 e.symm)), fun k => v'.ownBlock = some k, ⟨_, fun _ => False, fun k => by simp, fun _ _ h => h, ⟨hown, fun k => Iff.rfl⟩, fun _ h => h⟩, fun k hk => ⟨?_, (hown.lt k hk).2⟩⟩
  rcases hat with ha | ha | ⟨b, hb, hle⟩
  · rw [ha] at hk; cases hk
  · exact .inl ((hA.2 k).2 (ha.symm.trans hk))
  · rw [hb] at hk; cases hk; exact .inr hle
/-- A literal's block, as a row. -/
theorem Sep.to_row {g n sz : Nat} {cs : List Value} {e : TypeId} (h : Sep w0 w (blk g cs e :: L)) (hn : n ≤ maxLen) (hs : cs.length = n * sz) : Sep w0 w (row e sz (.slice (some ⟨g, 0, none⟩) n n) n cs :: L) := by
  obtain ⟨F, ⟨F1, F2, hF, hd, hA, hL⟩, hr⟩ := h.own
  refine ⟨h.below, F, ⟨F1, F2, hF, hd, ⟨⟨hs, .inr ⟨g, n, cs.toArray, rfl, Nat.zero_le _, hA.1, Nat.le_refl _, hn, by simp [hs], by simp [← hs]⟩⟩, fun k => ?_⟩, hL⟩, hr⟩
  rw [hA.2]; simp [Value.ownBlock, eq_comm]
theorem Sep.nil_row {e : TypeId} {sz : Nat} (h : Sep w0 w L) : Sep w0 w (row e sz (.slice none 0 0) 0 [] :: L) := by
  obtain ⟨F, hL, hr⟩ := h.own
  exact ⟨h.below, F, ⟨fun _ => False, F, fun k => by simp, fun _ h => h.elim, ⟨oRow_nil _ _ _ _, fun k => by simp [Value.ownBlock]⟩, hL⟩, hr⟩
/-- What was there at the start reads as it did. -/
theorem Sep.cell {a : Addr} {v : Value} (h : Sep w0 w L) (hc : w0.cell? a = some v) : w.cell? a = some v := (h.below.cell (World.block_lt_of_cell? w0 a hc)).trans hc
end
end Go.Sx

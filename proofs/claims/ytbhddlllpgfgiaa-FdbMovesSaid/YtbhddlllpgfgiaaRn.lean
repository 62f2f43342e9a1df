/- DERIVED. What a value that can be read as data is, kind by kind: for the rows of laws whose parameters are structs and slices. No condition. -/
import Derived.Test.YtbhddlllpgfgiaaSt
import Derived.WalkKit
import Derived.ProofKit
import Derived.OpenShut
import Derived.ShutString
import Derived.ChangeOld
import Derived.Below
import Derived.Carry
import Derived.SizedLaws
import Derived.Deep.Slices
namespace Go.Sx
open Go.RowKit
set_option linter.unusedVariables false
set_option linter.unusedSimpArgs false
/-- A kind: which cells a value has, in this world. -/
structure Kn (α : Type) where
  sz : Nat
  K : World → α → List Value → Prop
  len : ∀ {w : World} {a : α} {cs : List Value}, K w a cs → cs.length = sz
def Kn.int (k : IntKind) : Kn Int := ⟨1, fun _ n cs => cs = [.int k n], fun h => by rw [h]; rfl⟩
def Kn.bool : Kn Bool := ⟨1, fun _ b cs => cs = [.bool b], fun h => by rw [h]; rfl⟩
def Kn.string : Kn ByteArray := ⟨1, fun _ s cs => cs = [.string s], fun h => by rw [h]; rfl⟩
def Kn.pair {α β : Type} (d : Kn α) (e : Kn β) : Kn (α × β) := ⟨d.sz + e.sz, fun w x cs => ∃ a b, cs = a ++ b ∧ d.K w x.1 a ∧ e.K w x.2 b, fun ⟨a, b, h, ha, hb⟩ => by rw [h, List.length_append, d.len ha, e.len hb]⟩
def Kn.iso {α β : Type} (d : Kn α) (f : β → α) : Kn β := ⟨d.sz, fun w x cs => d.K w (f x) cs, fun h => d.len h⟩
/-- The elements' cells, in line. -/
def Kn.Rows {α : Type} (d : Kn α) (w : World) : List α → List (List Value) → Prop
  | [], [] => True
  | x :: xs, r :: rs => d.K w x r ∧ d.Rows w xs rs
  | _, _ => False
def Kn.slice {α : Type} (d : Kn α) : Kn (List α) := ⟨1, fun w xs cs => ∃ A c rs, cs = [.slice A xs.length c] ∧ xs.length ≤ c ∧ d.Rows w xs rs ∧ Rd w A rs.flatten, fun ⟨A, c, rs, h, _⟩ => by rw [h]; rfl⟩
theorem Kn.Rows.flat {α : Type} {d : Kn α} {w : World} {f : α → List Value} (h : ∀ x r, d.K w x r → r = f x) : ∀ (xs : List α) (rs : List (List Value)), d.Rows w xs rs → rs.flatten = xs.flatMap f
  | [], [], _ => rfl
  | x :: xs, r :: rs, hr => by rw [List.flatten_cons, List.flatMap_cons, h x r hr.1, Kn.Rows.flat h xs rs hr.2]
  | [], _ :: _, hr => hr.elim
  | _ :: _, [], hr => hr.elim
/-- A readable value of type t is one of the kind d, and wf. -/
def Opens {α : Type} (P : Program) (t : TypeId) (d : Kn α) (wf : α → Prop) : Prop :=
  P.cellsOf t = d.sz ∧ ∀ (H : Type) (enc : TypeId × Value → H) (W : World) (fuel : Nat) (cs : List Value) (x : DataW H × List MemPlace), DataW.trod enc P W 0 (fun _ => true) true fuel t cs = some x → ∃ a, d.K W a cs ∧ wf a
section
variable {P : Program} {t e : TypeId}
theorem opens_bool (ht : P.underlying t = some .bool) (hc : P.cellsOf t = 1) : Opens P t Kn.bool (fun _ => True) :=
  ⟨hc, fun H enc W fuel cs x h => by
    obtain ⟨b, rfl, _⟩ := DataW.trod_bool ht h
    exact ⟨b, rfl, trivial⟩⟩
theorem opens_int {k : IntKind} (ht : P.underlying t = some (.int k)) (hc : P.cellsOf t = 1) : Opens P t (Kn.int k) (fun n => (Lit.int k n).wf = true) :=
  ⟨hc, fun H enc W fuel cs x h => by
    obtain ⟨b, rfl, _, hw⟩ := DataW.trod_int ht h
    exact ⟨b, rfl, hw⟩⟩
theorem opens_string (ht : P.underlying t = some .string) (hc : P.cellsOf t = 1) : Opens P t Kn.string (fun s => s.size ≤ maxLen) :=
  ⟨hc, fun H enc W fuel cs x h => by
    obtain ⟨b, rfl, _, hw⟩ := DataW.trod_string ht h
    exact ⟨b, rfl, hw⟩⟩
theorem Kn.Rows.mk {α : Type} {d : Kn α} {w : World} {ad : Addr} {wf : α → Prop} : ∀ (n o : Nat), (∀ i, i < n → ∃ z c, wf z ∧ d.K w z c ∧ ∀ j u, c[j]? = some u → w.cell? (ad.add ((o + i) * d.sz + j)) = some u) →
    ∃ xs rs, xs.length = n ∧ d.Rows w xs rs ∧ (∀ y ∈ xs, wf y) ∧ ∀ j u, rs.flatten[j]? = some u → w.cell? (ad.add (o * d.sz + j)) = some u
  | 0, o, _ => ⟨[], [], rfl, trivial, (fun _ h => by cases h), (fun j u h => by simp at h)⟩
  | n + 1, o, h => by
    obtain ⟨z, c, hw, hk, hc⟩ := h 0 (by omega)
    obtain ⟨xs, rs, hl, hr, hwf, hcs⟩ := Kn.Rows.mk n (o + 1) (fun i hi => by
      obtain ⟨z, c, h1, h2, h3⟩ := h (i + 1) (by omega)
      exact ⟨z, c, h1, h2, fun j u hj => by rw [show o + 1 + i = o + (i + 1) by omega]; exact h3 j u hj⟩)
    refine ⟨z :: xs, c :: rs, by simp [hl], ⟨hk, hr⟩, fun y hy => ?_, fun j u hj => ?_⟩
    · rcases List.mem_cons.1 hy with rfl | hy
      · exact hw
      · exact hwf y hy
    · rw [List.flatten_cons] at hj
      have hlen := d.len hk
      by_cases hjl : j < c.length
      · rw [List.getElem?_append_left hjl] at hj
        simpa using hc j u hj
      · rw [List.getElem?_append_right (by omega)] at hj
        have := hcs (j - c.length) u hj
        rwa [show (o + 1) * d.sz + (j - c.length) = o * d.sz + j by rw [Nat.add_mul]; omega] at this
theorem opens_row {α : Type} {d : Kn α} {wf : α → Prop} (ht : P.underlying t = some (.slice e)) (he : Opens P e d wf) {H : Type} {enc : TypeId × Value → H} {W : World} {fuel : Nat} {cs : List Value} {x : DataW H × List MemPlace}
    (h : DataW.trod enc P W 0 (fun _ => true) true fuel t cs = some x) : ∃ xs, d.slice.K W xs cs ∧ xs.length ≤ maxLen ∧ ∀ y ∈ xs, wf y := by
  rcases Go.Deep.open_slice ht h with ⟨rfl, _⟩ | ⟨a, len, cap, m, n, D, Pl, rfl, _, hl, hm, hmm, _, hel⟩
  · exact ⟨[], ⟨none, 0, [], rfl, Nat.le_refl _, trivial, fun j u h => by simp at h⟩, by simp, by simp⟩
  · have hmc : m = cap := by simpa using hmm
    subst hmc
    obtain ⟨xs, rs, hxl, hr, hwf, hcs⟩ := Kn.Rows.mk (d := d) (w := W) (ad := a) (wf := wf) len 0 (fun i hi => by
      obtain ⟨cs', h1, h2⟩ := hel i (by omega)
      obtain ⟨z, hz, hw⟩ := he.2 H enc W n cs' _ h2
      refine ⟨z, cs', hw, hz, fun j u hj => ?_⟩
      have hlen := d.len hz
      have hc := (World.cells?_some h1).2.2
      rw [he.1] at hc
      have hjlt : j < d.sz := by have := (List.getElem?_eq_some_iff.1 hj).1; omega
      have h3 := hc j hjlt
      rw [hj, Addr.add_add] at h3
      simpa using h3)
    refine ⟨xs, ⟨some a, m, rs, by rw [hxl], by omega, hr, fun j u hj => ⟨a, rfl, by simpa using hcs j u hj⟩⟩, by omega, hwf⟩
theorem opens_slice {α : Type} {d : Kn α} {wf : α → Prop} (ht : P.underlying t = some (.slice e)) (hc : P.cellsOf t = 1) (he : Opens P e d wf) : Opens P t d.slice (fun xs => xs.length ≤ maxLen ∧ ∀ y ∈ xs, wf y) :=
  ⟨hc, fun H enc W fuel cs x h => opens_row ht he h⟩
/-- Fields in line, from cell o on. -/
inductive FieldsOpen (P : Program) : (α : Type) → Nat → List Field → Kn α → (α → Prop) → Prop
  | one {α : Type} {d : Kn α} {wf : α → Prop} {o : Nat} (f : Field) (ho : f.offset = o) (h : Opens P f.type d wf) : FieldsOpen P α o [f] d wf
  | cons {α β : Type} {d : Kn α} {wf : α → Prop} {d' : Kn β} {wf' : β → Prop} {fs : List Field} {o : Nat} (f : Field) (ho : f.offset = o) (h : Opens P f.type d wf) (r : FieldsOpen P β (o + d.sz) fs d' wf') :
      FieldsOpen P (α × β) o (f :: fs) (Kn.pair d d') (fun x => wf x.1 ∧ wf' x.2)
theorem FieldsOpen.out {α : Type} {o : Nat} {fs : List Field} {d : Kn α} {wf : α → Prop} (hf : FieldsOpen P α o fs d wf) {H : Type} {enc : TypeId × Value → H} {W : World} {n : Nat} {cs : List Value} :
    (cs.drop o).length = d.sz → (∀ f ∈ fs, ∃ y, DataW.trod enc P W 0 (fun _ => true) true n f.type ((cs.drop f.offset).take (P.cellsOf f.type)) = some y) → ∃ a, d.K W a (cs.drop o) ∧ wf a := by
  induction hf with
  | one f ho h =>
    subst ho
    intro hl hm
    obtain ⟨x, hx⟩ := hm f (by simp)
    obtain ⟨a, ha, hw⟩ := h.2 _ _ _ _ _ _ hx
    rw [h.1, ← hl, List.take_length] at ha
    exact ⟨a, ha, hw⟩
  | @cons α β d wf d' wf' fs o f ho h r ih =>
    subst ho
    intro hl hm
    obtain ⟨x, hx⟩ := hm f (by simp)
    obtain ⟨a, ha, hw⟩ := h.2 _ _ _ _ _ _ hx
    have hl' : (cs.drop (f.offset + d.sz)).length = d'.sz := by
      have hq : (cs.drop f.offset).length = d.sz + d'.sz := hl
      simp only [List.length_drop] at hq ⊢
      omega
    obtain ⟨b, hb, hw'⟩ := ih hl' (fun g hg => hm g (by simp [hg]))
    refine ⟨(a, b), ⟨(cs.drop f.offset).take d.sz, cs.drop (f.offset + d.sz), ?_, ?_, hb⟩, hw, hw'⟩
    · rw [← List.drop_drop, List.take_append_drop]
    · rw [← h.1]; exact ha
theorem opens_struct {α : Type} {d : Kn α} {wf : α → Prop} {fs : Array Field} (ht : P.underlying t = some (.struct fs)) (hc : P.cellsOf t = d.sz) (hf : FieldsOpen P α 0 fs.toList d wf) : Opens P t d wf :=
  ⟨hc, fun H enc W fuel cs x h => by
    obtain ⟨xs, n, rfl, _, hl, hxl, hm⟩ := DataW.trod_struct ht h
    have := hf.out (enc := enc) (W := W) (n := n) (cs := cs) (by simpa [← hc] using hl) (fun f hfm => by
      obtain ⟨i, hi, rfl⟩ := List.mem_iff_getElem.1 hfm
      refine ⟨xs[i]'(by simpa [hxl] using hi), ?_⟩
      rw [hm i _ (by simp)]
      exact List.getElem?_eq_getElem _)
    simpa using this⟩
theorem opens_iso {α β : Type} {d : Kn α} {wf : α → Prop} {f : β → α} (g : α → β) (hg : ∀ a, f (g a) = a) (h : Opens P t d wf) : Opens P t (Kn.iso d f) (fun x => wf (f x)) :=
  ⟨h.1, fun H enc W fuel cs x hx => by
    obtain ⟨a, ha, hw⟩ := h.2 H enc W fuel cs x hx
    exact ⟨g a, by show d.K W (f (g a)) cs; rw [hg]; exact ha, by show wf (f (g a)); rw [hg]; exact hw⟩⟩
/-- A struct parameter's value. -/
theorem agg_of {r : Reach} {b0 : Nat} {w : World} {v : Value} {fs : Array Field} (ht : P.underlying t = some (.struct fs)) (hv : Value.okWide P w r b0 t v) : v = .agg v.cells.toList.toArray := by
  unfold Value.okWide at hv
  rw [ht] at hv
  obtain ⟨cs, rfl, _⟩ := hv
  simp [Value.cells]
end
end Go.Sx

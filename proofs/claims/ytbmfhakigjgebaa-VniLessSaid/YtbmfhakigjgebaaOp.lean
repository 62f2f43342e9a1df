/- DERIVED. Written by a program of this session (rown.py): what the readable values of the laws' parameters are. No condition. -/
import Derived.Test.YtbmfhakigjgebaaRn
import Derived.Test.YtbmfhakigjgebaaProg
import Derived.KernelRfl
namespace Go.Proofs.YtbmfhakigjgebaaOp
open Go.Sx
set_option linter.unusedVariables false
abbrev T23 : Type := List ((Int) × (Int) × (List (Int)))
def kd23 : Kn T23 := (Kn.slice (Kn.pair (Kn.int .i64) (Kn.pair (Kn.int .i64) (Kn.slice (Kn.int .u32)))))
def wf23 : T23 → Prop := (fun xs => xs.length ≤ maxLen ∧ ∀ y ∈ xs, (fun x => (fun n => (Lit.int .i64 n).wf = true) x.1 ∧ (fun n => (Lit.int .i64 n).wf = true) x.2.1 ∧ (fun xs => xs.length ≤ maxLen ∧ ∀ y ∈ xs, (fun n => (Lit.int .u32 n).wf = true) y) x.2.2) y)
theorem opens23 : Opens Try.prog 23 kd23 wf23 := (opens_slice Try.underlying23 (by kernel_rfl) (opens_struct Try.underlying27 (by kernel_rfl) (FieldsOpen.cons (d := (Kn.int .i64)) (wf := (fun n => (Lit.int .i64 n).wf = true)) (d' := (Kn.pair (Kn.int .i64) (Kn.slice (Kn.int .u32)))) (wf' := (fun x => (fun n => (Lit.int .i64 n).wf = true) x.1 ∧ (fun xs => xs.length ≤ maxLen ∧ ∀ y ∈ xs, (fun n => (Lit.int .u32 n).wf = true) y) x.2)) _ (by rfl) (opens_int Try.underlying3 (by kernel_rfl)) (FieldsOpen.cons (d := (Kn.int .i64)) (wf := (fun n => (Lit.int .i64 n).wf = true)) (d' := (Kn.slice (Kn.int .u32))) (wf' := (fun xs => xs.length ≤ maxLen ∧ ∀ y ∈ xs, (fun n => (Lit.int .u32 n).wf = true) y)) _ (by rfl) (opens_int Try.underlying3 (by kernel_rfl)) (FieldsOpen.one (d := (Kn.slice (Kn.int .u32))) (wf := (fun xs => xs.length ≤ maxLen ∧ ∀ y ∈ xs, (fun n => (Lit.int .u32 n).wf = true) y)) _ (by rfl) (opens_slice Try.underlying25 (by kernel_rfl) (opens_int Try.underlying22 (by kernel_rfl))))))))
end Go.Proofs.YtbmfhakigjgebaaOp

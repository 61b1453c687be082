/- Small words for the laws: no memory, no function of the program. -/
import Derived.Test.YtghkngdcmlhmeaaWWords
set_option linter.unusedVariables false
set_option linter.unusedSimpArgs false
set_option linter.unusedSectionVars false
namespace Go.Proofs.Ytghkngdcmlhmeaa.Spec
open Go.RowKit Go.Proofs.YtghkngdcmlhmeaaW.PrintWords
theorem wf0 {x : Int} (h : (Lit.int .u64 x).wf = true) : 0 ≤ x := by
  have h1 : (decide (IntKind.u64.min ≤ x) && decide (x ≤ IntKind.u64.max)) = true := h
  rw [Bool.and_eq_true, decide_eq_true_eq] at h1
  have h2 : IntKind.u64.min = 0 := by decide
  omega
theorem wfs {l : List Int} (h : ∀ x ∈ l, (Lit.int .u64 x).wf = true) : ∀ x ∈ l, 0 ≤ x := fun x hx => wf0 (h x hx)
/-- What holds of Bools whose one is told. -/
theorem Ev.iteT {α : Type} {c : Prop} [Decidable c] {f g : Nat → Option α} {r : α} (hc : c) (h : Ev f r) : Ev (fun k => if c then f k else g k) r := Ev.congr (fun k => if_pos hc) h
theorem Ev.iteF {α : Type} {c : Prop} [Decidable c] {f g : Nat → Option α} {r : α} (hc : ¬ c) (h : Ev g r) : Ev (fun k => if c then f k else g k) r := Ev.congr (fun k => if_neg hc) h
end Go.Proofs.Ytghkngdcmlhmeaa.Spec

/- Contracts of functions of the given program: printed out of the translation by a program of this session, with texts by hand for what the print does not take. -/
import Derived.Test.YtffcjgelcdilcaaRule
import Derived.Test.YtffcjgelcdilcaaPSerx0
namespace Go.Proofs.Ytffcjgelcdilcaa.PSer
open Go.RowKit Go.Proofs.YtffcjgelcdilcaaW.PrintWords Go.Proofs.YtffcjgelcdilcaaW.PrintLast Go.Proofs.YtffcjgelcdilcaaW.PrintMore
attribute [local go_sem] max2_int min2_int max_two min_two max_three min_three max_four min_four   -- for this text's walks alone
set_option linter.unusedVariables false
set_option linter.unusedSimpArgs false

/-! ### series_Rule: function 25 -/

--IMPORT Derived.Test.YtffcjgelcdilcaaRule
/-- By hand: see the imported walk. -/
def series_Rule.f (k : Nat) (a0 : Int) (l1 : List Int) : Option (List Int × Int) := Go.Proofs.Ytffcjgelcdilcaa.Sr.rul.f k a0 l1
theorem series_Rule.mono : ∀ a0 a1 k, LeO (series_Rule.f k a0 a1) (series_Rule.f (k + 1) a0 a1) := Go.Proofs.Ytffcjgelcdilcaa.Sr.rul.mono
theorem series_Rule.calls (k : Nat) (a0 : Int) (A1 : Option Addr) (c1 : Nat) (l1 : List Int) (r1 : List Int) (r2 : Int) (w : World) (hr1 : Kd.C (Kd.int .u64) w A1 l1.length l1) (hc1 : l1.length ≤ c1) (h : series_Rule.f k a0 l1 = some (r1, r2)) :
    Calls Try.prog 25 #[.int .u64 a0, .slice A1 l1.length c1] w fun e w' => ∃ v0_ : Value, e = .returned (.tuple #[v0_, .int .i64 r2]) ∧ Kd.V (Kd.int .u64) 22 w' w.heap.size (fun k_ => (w.heap.size ≤ k_)) v0_ r1 ∧ Below w.heap.size w w' :=
  Go.Proofs.Ytffcjgelcdilcaa.Sr.rul.calls k a0 A1 c1 l1 r1 r2 w hr1 hc1 h

end Go.Proofs.Ytffcjgelcdilcaa.PSer

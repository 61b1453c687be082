/- Contracts of functions of the given program: printed out of the translation by a program of this session, with texts by hand for what the print does not take. -/
import Derived.Test.YtffcjgelcdilcaaEval
import Derived.Test.YtffcjgelcdilcaaPAllx0
namespace Go.Proofs.Ytffcjgelcdilcaa.PAll
open Go.RowKit Go.Proofs.YtffcjgelcdilcaaW.PrintWords Go.Proofs.YtffcjgelcdilcaaW.PrintLast Go.Proofs.YtffcjgelcdilcaaW.PrintMore
attribute [local go_sem] max2_int min2_int max_two min_two max_three min_three max_four min_four   -- for this text's walks alone
set_option linter.unusedVariables false
set_option linter.unusedSimpArgs false

/-! ### poly_Eval: function 37 -/

--IMPORT Derived.Test.YtffcjgelcdilcaaEval
/-- By hand: see the imported walk. -/
def poly_Eval.f (k : Nat) (a0 : Int) (l1 : List Int) (a2 : Int) : Option (Int × Int) := Go.Proofs.Ytffcjgelcdilcaa.Rf.evalF k a0 l1 a2
theorem poly_Eval.mono : ∀ a0 a1 a2 k, LeO (poly_Eval.f k a0 a1 a2) (poly_Eval.f (k + 1) a0 a1 a2) := Go.Proofs.Ytffcjgelcdilcaa.Rf.evalF.mono
theorem poly_Eval.calls (k : Nat) (a0 : Int) (A1 : Option Addr) (c1 : Nat) (l1 : List Int) (a2 : Int) (r1 : Int) (r2 : Int) (w : World) (hr1 : Kd.C (Kd.int .u64) w A1 l1.length l1) (hc1 : l1.length ≤ c1) (h : poly_Eval.f k a0 l1 a2 = some (r1, r2)) :
    Calls Try.prog 37 #[.int .u64 a0, .slice A1 l1.length c1, .int .u64 a2] w fun e w' => e = .returned (.tuple #[.int .u64 r1, .int .i64 r2]) ∧ Below w.heap.size w w' := Go.Proofs.Ytffcjgelcdilcaa.Rf.evalF.calls k a0 A1 c1 l1 a2 r1 r2 w hr1 hc1 h

end Go.Proofs.Ytffcjgelcdilcaa.PAll

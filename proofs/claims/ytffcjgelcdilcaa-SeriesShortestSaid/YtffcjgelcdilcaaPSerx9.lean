/- Contracts of functions of the given program: printed out of the translation by a program of this session, with texts by hand for what the print does not take. -/
import Derived.Test.YtffcjgelcdilcaaCan
import Derived.Test.YtffcjgelcdilcaaPSerx0
namespace Go.Proofs.Ytffcjgelcdilcaa.PSer
open Go.RowKit Go.Proofs.YtffcjgelcdilcaaW.PrintWords Go.Proofs.YtffcjgelcdilcaaW.PrintLast Go.Proofs.YtffcjgelcdilcaaW.PrintMore
attribute [local go_sem] max2_int min2_int max_two min_two max_three min_three max_four min_four   -- for this text's walks alone
set_option linter.unusedVariables false
set_option linter.unusedSimpArgs false

/-! ### affidavitref04_Can: function 53 -/

--IMPORT Derived.Test.YtffcjgelcdilcaaCan
/-- By hand: see the imported walk. -/
def affidavitref04_Can.f (k : Nat) (a0 : Int) (l1 : List Int) (a2 : Int) : Option (Bool) := Go.Proofs.Ytffcjgelcdilcaa.Cn.affidavitref04_Can.f k a0 l1 a2
theorem affidavitref04_Can.mono : ∀ a0 a1 a2 k, LeO (affidavitref04_Can.f k a0 a1 a2) (affidavitref04_Can.f (k + 1) a0 a1 a2) := Go.Proofs.Ytffcjgelcdilcaa.Cn.affidavitref04_Can.mono
theorem affidavitref04_Can.calls (k : Nat) (a0 : Int) (A1 : Option Addr) (c1 : Nat) (l1 : List Int) (a2 : Int) (r : Bool) (w : World) (hr1 : Kd.C (Kd.int .u64) w A1 l1.length l1) (hc1 : l1.length ≤ c1) (h : affidavitref04_Can.f k a0 l1 a2 = some r) :
    Calls Try.prog 53 #[.int .u64 a0, .slice A1 l1.length c1, .int .i64 a2] w fun e w' => e = .returned (.bool r) ∧ Below w.heap.size w w' := Go.Proofs.Ytffcjgelcdilcaa.Cn.affidavitref04_Can.calls k a0 A1 c1 l1 a2 r w hr1 hc1 h

end Go.Proofs.Ytffcjgelcdilcaa.PSer

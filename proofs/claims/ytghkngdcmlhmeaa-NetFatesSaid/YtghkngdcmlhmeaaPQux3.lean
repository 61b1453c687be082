/- Contracts of functions of the given program: printed out of the translation by a program of this session, with texts by hand for what the print does not take. -/
import Derived.Test.YtghkngdcmlhmeaaBCmp
import Derived.Test.YtghkngdcmlhmeaaPQux0
namespace Go.Proofs.Ytghkngdcmlhmeaa.PQu
open Go.RowKit Go.Proofs.YtghkngdcmlhmeaaW.PrintWords Go.Proofs.YtghkngdcmlhmeaaW.PrintLast Go.Proofs.YtghkngdcmlhmeaaW.PrintMore
attribute [local go_sem] max2_int min2_int max_two min_two max_three min_three max_four min_four   -- for this text's walks alone
set_option linter.unusedVariables false
set_option linter.unusedSimpArgs false

/-! ### bytes_Compare: function 52 -/

--IMPORT Derived.Test.YtghkngdcmlhmeaaBCmp
/-- By hand: see the imported walk. -/
def bytes_Compare.f (l0 : List Int) (l1 : List Int) : Option (Int) := some (Go.Proofs.Ytghkngdcmlhmeaa.Bc.cmpB l0 l1)
theorem bytes_Compare.calls (A0 : Option Addr) (c0 : Nat) (l0 : List Int) (A1 : Option Addr) (c1 : Nat) (l1 : List Int) (r : Int) (w : World) (hr0 : Kd.C (Kd.int .u8) w A0 l0.length l0) (hc0 : l0.length ≤ c0) (hr1 : Kd.C (Kd.int .u8) w A1 l1.length l1) (hc1 : l1.length ≤ c1) (h : bytes_Compare.f l0 l1 = some r) :
    Calls Try.prog 52 #[.slice A0 l0.length c0, .slice A1 l1.length c1] w fun e w' => e = .returned (.int .i64 r) ∧ Drawn0 w w' := by
  obtain rfl := Option.some.inj h
  exact Go.Proofs.Ytghkngdcmlhmeaa.Bc.bcmp.calls A0 c0 l0 A1 c1 l1 w hr0 hr1

end Go.Proofs.Ytghkngdcmlhmeaa.PQu

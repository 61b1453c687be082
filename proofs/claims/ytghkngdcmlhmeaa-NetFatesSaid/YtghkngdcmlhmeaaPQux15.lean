/- Contracts of functions of the given program: printed out of the translation by a program of this session, with texts by hand for what the print does not take. -/
import Derived.Test.YtghkngdcmlhmeaaQNet
import Derived.Test.YtghkngdcmlhmeaaPQux0
namespace Go.Proofs.Ytghkngdcmlhmeaa.PQu
open Go.RowKit Go.Proofs.YtghkngdcmlhmeaaW.PrintWords Go.Proofs.YtghkngdcmlhmeaaW.PrintLast Go.Proofs.YtghkngdcmlhmeaaW.PrintMore
attribute [local go_sem] max2_int min2_int max_two min_two max_three min_three max_four min_four   -- for this text's walks alone
set_option linter.unusedVariables false
set_option linter.unusedSimpArgs false

/-! ### net_Right: function 25 -/

--IMPORT Derived.Test.YtghkngdcmlhmeaaQNet
/-- By hand: see the imported walk. -/
def net_Right.f (a0_0 : Int) (a0_1 : Int) (l0_2 : List (S25)) (l0_3 : List (S51)) : Option (Bool) := if l0_2.length < 1099511627776 ∧ l0_3.length < 1099511627776 then some (Go.Proofs.Ytghkngdcmlhmeaa.Qn.rightB a0_0 a0_1 l0_2 l0_3) else none
theorem net_Right.calls (a0_0 : Int) (a0_1 : Int) (A0_2 : Option Addr) (c0_2 : Nat) (l0_2 : List (S25)) (A0_3 : Option Addr) (c0_3 : Nat) (l0_3 : List (S51)) (r : Bool) (w : World) (hr0_2 : Kd.C k25 w A0_2 l0_2.length l0_2) (hc0_2 : l0_2.length ≤ c0_2) (hr0_3 : Kd.C k51 w A0_3 l0_3.length l0_3) (hc0_3 : l0_3.length ≤ c0_3) (h : net_Right.f a0_0 a0_1 l0_2 l0_3 = some r) :
    Calls Try.prog 25 #[.agg #[.int .i64 a0_0, .int .i64 a0_1, .slice A0_2 l0_2.length c0_2, .slice A0_3 l0_3.length c0_3]] w fun e w' => e = .returned (.bool r) ∧ Below w.heap.size w w' := by
  unfold net_Right.f at h
  split at h
  · rename_i hb
    obtain rfl := Option.some.inj h
    exact Go.Proofs.Ytghkngdcmlhmeaa.Qn.right.calls a0_0 a0_1 A0_2 c0_2 l0_2 A0_3 c0_3 l0_3 w hr0_2 hr0_3 hb.1 hb.2
  · cases h

end Go.Proofs.Ytghkngdcmlhmeaa.PQu

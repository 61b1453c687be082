/- Contracts of functions of the given program: printed out of the translation by a program of this session, with texts by hand for what the print does not take. -/
import Derived.Test.YtghkngdcmlhmeaaQTop
import Derived.Test.YtghkngdcmlhmeaaPQux0
namespace Go.Proofs.Ytghkngdcmlhmeaa.PQu
open Go.RowKit Go.Proofs.YtghkngdcmlhmeaaW.PrintWords Go.Proofs.YtghkngdcmlhmeaaW.PrintLast Go.Proofs.YtghkngdcmlhmeaaW.PrintMore
attribute [local go_sem] max2_int min2_int max_two min_two max_three min_three max_four min_four   -- for this text's walks alone
set_option linter.unusedVariables false
set_option linter.unusedSimpArgs false

/-! ### queue_Sorted: function 18 -/

--IMPORT Derived.Test.YtghkngdcmlhmeaaQTop
/-- By hand: see the imported walk. -/
def queue_Sorted.f (l0 : List (S25)) : Option ((List (S25))) := Go.Proofs.Ytghkngdcmlhmeaa.Qp.srtF l0
theorem queue_Sorted.calls (A0 : Option Addr) (c0 : Nat) (l0 : List (S25)) (r : List (S25)) (w : World) (hr0 : Kd.C k25 w A0 l0.length l0) (hc0 : l0.length ≤ c0) (h : queue_Sorted.f l0 = some r) :
    Calls Try.prog 18 #[.slice A0 l0.length c0] w fun e w' => ∃ v0_ : Value, e = .returned (v0_) ∧ Kd.V k25 25 w' w.heap.size (fun k_ => (w.heap.size ≤ k_)) v0_ r ∧ Below w.heap.size w w' :=
  Go.Proofs.Ytghkngdcmlhmeaa.Qp.sorted.calls A0 c0 l0 r w hr0 hc0 h

end Go.Proofs.Ytghkngdcmlhmeaa.PQu

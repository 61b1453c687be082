/- Contracts of functions of the given program: printed out of the translation by a program of this session, with texts by hand for what the print does not take. -/
import Derived.Test.YtghkngdcmlhmeaaQTop
import Derived.Test.YtghkngdcmlhmeaaPQux0
namespace Go.Proofs.Ytghkngdcmlhmeaa.PQu
open Go.RowKit Go.Proofs.YtghkngdcmlhmeaaW.PrintWords Go.Proofs.YtghkngdcmlhmeaaW.PrintLast Go.Proofs.YtghkngdcmlhmeaaW.PrintMore
attribute [local go_sem] max2_int min2_int max_two min_two max_three min_three max_four min_four   -- for this text's walks alone
set_option linter.unusedVariables false
set_option linter.unusedSimpArgs false

/-! ### queue_Put: function 19 -/

--IMPORT Derived.Test.YtghkngdcmlhmeaaQTop
/-- By hand: see the imported walk. -/
def queue_Put.f (l0 : List (S25)) (a1_0 : Int) (a1_1 : Int) (a1_2 : Int) (l1_3 : List Int) : Option ((List (S25))) := Go.Proofs.Ytghkngdcmlhmeaa.Qp.putF l0 ⟨a1_0, a1_1, a1_2, l1_3⟩
theorem queue_Put.calls (A0 : Option Addr) (c0 : Nat) (l0 : List (S25)) (a1_0 : Int) (a1_1 : Int) (a1_2 : Int) (A1_3 : Option Addr) (c1_3 : Nat) (l1_3 : List Int) (r : List (S25)) (w : World) (hr0 : Kd.C k25 w A0 l0.length l0) (hc0 : l0.length ≤ c0) (hr1_3 : Kd.C (Kd.int .u8) w A1_3 l1_3.length l1_3) (hc1_3 : l1_3.length ≤ c1_3) (h : queue_Put.f l0 a1_0 a1_1 a1_2 l1_3 = some r) :
    Calls Try.prog 19 #[.slice A0 l0.length c0, .agg #[.int .i64 a1_0, .int .i64 a1_1, .int .i64 a1_2, .slice A1_3 l1_3.length c1_3]] w fun e w' => ∃ v0_ : Value, e = .returned (v0_) ∧ Kd.V k25 25 w' w.heap.size (fun k_ => (w.heap.size ≤ k_)) v0_ r ∧ Below w.heap.size w w' :=
  Go.Proofs.Ytghkngdcmlhmeaa.Qp.put.calls A0 c0 l0 ⟨a1_0, a1_1, a1_2, l1_3⟩ A1_3 c1_3 r w hr0 hc0 hr1_3 hc1_3 h

end Go.Proofs.Ytghkngdcmlhmeaa.PQu

/- Contracts of functions of the given program: printed out of the translation by a program of this session, with texts by hand for what the print does not take. -/
import Derived.Test.YtghkngdcmlhmeaaQDue
import Derived.Test.YtghkngdcmlhmeaaPQux0
namespace Go.Proofs.Ytghkngdcmlhmeaa.PQu
open Go.RowKit Go.Proofs.YtghkngdcmlhmeaaW.PrintWords Go.Proofs.YtghkngdcmlhmeaaW.PrintLast Go.Proofs.YtghkngdcmlhmeaaW.PrintMore
attribute [local go_sem] max2_int min2_int max_two min_two max_three min_three max_four min_four   -- for this text's walks alone
set_option linter.unusedVariables false
set_option linter.unusedSimpArgs false

/-! ### queue_Due: function 11 -/

--IMPORT Derived.Test.YtghkngdcmlhmeaaQDue
/-- By hand: see the imported walk. -/
def queue_Due.f (l0 : List (S25)) (a1 : Int) : Option ((List (S25)) × (List (S25))) := Go.Proofs.Ytghkngdcmlhmeaa.Qp.dueF l0 a1
theorem queue_Due.calls (A0 : Option Addr) (c0 : Nat) (l0 : List (S25)) (a1 : Int) (r1 : List (S25)) (r2 : List (S25)) (w : World) (hr0 : Kd.C k25 w A0 l0.length l0) (hc0 : l0.length ≤ c0) (h : queue_Due.f l0 a1 = some (r1, r2)) :
    Calls Try.prog 11 #[.slice A0 l0.length c0, .int .i64 a1] w fun e w' => ∃ v0_ v1_ : Value, e = .returned (.tuple #[v0_, v1_]) ∧ Kd.V k25 25 w' w.heap.size (fun k_ => (w.heap.size ≤ k_)) v0_ r1 ∧ Kd.V k25 25 w' w.heap.size (fun k_ => (w.heap.size ≤ k_)) v1_ r2 ∧ Below w.heap.size w w' :=
  Go.Proofs.Ytghkngdcmlhmeaa.Qp.due.calls A0 c0 l0 a1 (r1, r2) w hr0 hc0 h

end Go.Proofs.Ytghkngdcmlhmeaa.PQu

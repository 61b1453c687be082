/- Contracts of functions of the given program: printed out of the translation by a program of this session, with texts by hand for what the print does not take. -/
import Derived.Test.YtghkngdcmlhmeaaQFirst
import Derived.Test.YtghkngdcmlhmeaaPQux0
namespace Go.Proofs.Ytghkngdcmlhmeaa.PQu
open Go.RowKit Go.Proofs.YtghkngdcmlhmeaaW.PrintWords Go.Proofs.YtghkngdcmlhmeaaW.PrintLast Go.Proofs.YtghkngdcmlhmeaaW.PrintMore
attribute [local go_sem] max2_int min2_int max_two min_two max_three min_three max_four min_four   -- for this text's walks alone
set_option linter.unusedVariables false
set_option linter.unusedSimpArgs false

/-! ### queue_First: function 13 -/

--IMPORT Derived.Test.YtghkngdcmlhmeaaQFirst
/-- By hand: see the imported walk. -/
def queue_First.f (l0 : List (S25)) : Option (Int × Int × Int × (List Int) × (List (S25)) × Bool) := (Go.Proofs.Ytghkngdcmlhmeaa.Qp.firstF l0).map fun q => (q.1.f0, q.1.f1, q.1.f2, q.1.f3, q.2.1, q.2.2)
theorem queue_First.calls (A0 : Option Addr) (c0 : Nat) (l0 : List (S25)) (r1 : Int) (r2 : Int) (r3 : Int) (r4 : List Int) (r5 : List (S25)) (r6 : Bool) (w : World) (hr0 : Kd.C k25 w A0 l0.length l0) (hc0 : l0.length ≤ c0) (h : queue_First.f l0 = some (r1, r2, r3, r4, r5, r6)) :
    Calls Try.prog 13 #[.slice A0 l0.length c0] w fun e w' => ∃ v3_ v4_ : Value, e = .returned (.tuple #[.agg #[.int .i64 r1, .int .i64 r2, .int .i64 r3, v3_], v4_, .bool r6]) ∧ Kd.V (Kd.int .u8) 5 w' w.heap.size (fun k_ => (w.heap.size ≤ k_)) v3_ r4 ∧ Kd.V k25 25 w' w.heap.size (fun k_ => (w.heap.size ≤ k_)) v4_ r5 ∧ Below w.heap.size w w' := by
  obtain ⟨q, h1, h2⟩ := Option.map_eq_some_iff.mp h
  injection h2 with e1 h2; injection h2 with e2 h2; injection h2 with e3 h2; injection h2 with e4 h2; injection h2 with e5 e6
  subst e1 e2 e3 e4 e5 e6
  exact Go.Proofs.Ytghkngdcmlhmeaa.Qp.first.calls A0 c0 l0 q w hr0 hc0 h1

end Go.Proofs.Ytghkngdcmlhmeaa.PQu

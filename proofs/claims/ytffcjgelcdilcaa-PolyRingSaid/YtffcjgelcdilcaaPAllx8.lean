/- Contracts of functions of the given program: printed out of the translation by a program of this session, with texts by hand for what the print does not take. -/
import Derived.Test.YtffcjgelcdilcaaBez
import Derived.Test.YtffcjgelcdilcaaPAllx0
namespace Go.Proofs.Ytffcjgelcdilcaa.PAll
open Go.RowKit Go.Proofs.YtffcjgelcdilcaaW.PrintWords Go.Proofs.YtffcjgelcdilcaaW.PrintLast Go.Proofs.YtffcjgelcdilcaaW.PrintMore
attribute [local go_sem] max2_int min2_int max_two min_two max_three min_three max_four min_four   -- for this text's walks alone
set_option linter.unusedVariables false
set_option linter.unusedSimpArgs false

/-! ### poly_Bezout: function 43 -/

--IMPORT Derived.Test.YtffcjgelcdilcaaBez
/-- By hand: see the imported walk. -/
def poly_Bezout.f (k : Nat) (a0 : Int) (l1 : List Int) (l2 : List Int) : Option (List Int × List Int × List Int × Int) := Go.Proofs.Ytffcjgelcdilcaa.Rh.bz.f k a0 l1 l2
theorem poly_Bezout.mono : ∀ a0 a1 a2 k, LeO (poly_Bezout.f k a0 a1 a2) (poly_Bezout.f (k + 1) a0 a1 a2) := Go.Proofs.Ytffcjgelcdilcaa.Rh.bz.mono
theorem poly_Bezout.calls (k : Nat) (a0 : Int) (A1 : Option Addr) (c1 : Nat) (l1 : List Int) (A2 : Option Addr) (c2 : Nat) (l2 : List Int) (r1 : List Int) (r2 : List Int) (r3 : List Int) (r4 : Int) (w : World) (hr1 : Kd.C (Kd.int .u64) w A1 l1.length l1) (hc1 : l1.length ≤ c1) (hr2 : Kd.C (Kd.int .u64) w A2 l2.length l2) (hc2 : l2.length ≤ c2) (h : poly_Bezout.f k a0 l1 l2 = some (r1, r2, r3, r4)) :
    Calls Try.prog 43 #[.int .u64 a0, .slice A1 l1.length c1, .slice A2 l2.length c2] w fun e w' => ∃ v0_ v1_ v2_ : Value, e = .returned (.tuple #[v0_, v1_, v2_, .int .i64 r4]) ∧ Kd.V (Kd.int .u64) 22 w' w.heap.size (fun k_ => (w.heap.size ≤ k_)) v0_ r1 ∧ Kd.V (Kd.int .u64) 22 w' w.heap.size (fun k_ => (w.heap.size ≤ k_)) v1_ r2 ∧ Kd.V (Kd.int .u64) 22 w' w.heap.size (fun k_ => (w.heap.size ≤ k_)) v2_ r3 ∧ Below w.heap.size w w' :=
  Go.Proofs.Ytffcjgelcdilcaa.Rh.bz.calls k a0 A1 c1 l1 A2 c2 l2 r1 r2 r3 r4 w hr1 hc1 hr2 hc2 h

end Go.Proofs.Ytffcjgelcdilcaa.PAll

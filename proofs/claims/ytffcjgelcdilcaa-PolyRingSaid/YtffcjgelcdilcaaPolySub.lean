/- What the polynomials' differences tell. No memory. -/
import Derived.Test.YtffcjgelcdilcaaPolyT
import Derived.Test.YtffcjgelcdilcaaPAllx10
set_option linter.unusedSectionVars false
namespace Go.Proofs.Ytffcjgelcdilcaa.Spec
open Go.RowKit Go.Proofs.Ytffcjgelcdilcaa.PAll Go.Proofs.YtffcjgelcdilcaaW.PrintWords Go.Proofs.YtffcjgelcdilcaaW.PrintLast Go.Proofs.YtffcjgelcdilcaaW.PrintMore Fp
theorem evSubL {p : Nat} [NeZero p] (hp : Md p) {A B : Pl p} (hA : Pl.sz A ≤ 512) (hB : Pl.sz B ≤ 512) : Ev (fun k => poly_Sub.f k p (toL A) (toL B)) (toL (A - B), 0) := by
  refine Ev.congr (f := fun k => (poly_both.f k p (toL A) (toL B)).bind _) (fun k => rfl) (Ev.bind (evBothL hp hA hB) ?_)
  simp only [if_true]
  exact Ev.bind (evEachSubL hp (by omega) (by omega)) (Ev.now _)
end Go.Proofs.Ytffcjgelcdilcaa.Spec

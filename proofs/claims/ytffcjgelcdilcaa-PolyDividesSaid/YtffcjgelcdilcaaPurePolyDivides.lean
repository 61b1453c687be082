/- Division with rest over a prime field: a = q b + r, the rest shorter than b. -/
import Derived.Test.YtffcjgelcdilcaaPolyAdd
import Derived.Test.YtffcjgelcdilcaaPolyU
import Derived.Test.YtffcjgelcdilcaaPAllx13
set_option linter.unusedVariables false
set_option linter.unusedSimpArgs false
set_option linter.unusedSectionVars false
namespace Go.Proofs.Ytffcjgelcdilcaa.Pure
open Go.RowKit Go.Proofs.Ytffcjgelcdilcaa.PAll Go.Proofs.YtffcjgelcdilcaaW.PrintWords Go.Proofs.YtffcjgelcdilcaaW.PrintLast Go.Proofs.Ytffcjgelcdilcaa.Spec Fp

theorem PolyDivides : affidavitlaw03_PolyDivides.Pure := by
  intro a0 l1 l2 w0 _ _ w1 _ _ w2
  have n1 := wfs w1
  have n2 := wfs w2
  refine Ev.rounds (g := fun k => affidavitlaw03_PolyDivides.f k a0 l1 l2) ?_
  refine Ev.congr (f := fun k => (affidavitlaw03_awake.f k).bind _) (fun k => rfl) (Ev.bind evAwake ?_)
  refine Ev.iteT rfl ?_
  have triv : Ev (fun k => affidavitlaw03_PolyDivides.j0 k a0 l1 l2 true) true := Ev.step (f := fun _ => some true) (fun k => rfl) (Ev.now _)
  by_cases c1 : (l1.length : Int) > 100
  · exact Ev.iteT c1 triv
  refine Ev.iteF c1 ?_
  by_cases c2 : (l2.length : Int) > 100
  · exact Ev.iteT c2 triv
  refine Ev.iteF c2 ?_
  obtain ⟨b, hb, hpr⟩ := evPrime a0 (wf0 w0)
  refine Ev.bind hb ?_
  cases b with
  | false => exact Ev.iteF (by decide) triv
  | true =>
    refine Ev.iteT rfl (Ev.bind (evRight a0 l1) ?_)
    cases hr1 : rightB a0 l1 with
    | false => exact Ev.iteF (by decide) triv
    | true =>
      refine Ev.iteT rfl (Ev.bind (evRight a0 l2) ?_)
      cases hr2 : rightB a0 l2 with
      | false => exact triv
      | true =>
        obtain ⟨p, nz, rfl, hp, A, rfl, hA⟩ := right_poly hr1 n1
        obtain ⟨B, rfl, hB⟩ := right_poly' hr2 n2
        have hF : Pl.Fld p := Pr.fld (by have h := hpr rfl; rwa [Int.toNat_natCast] at h)
        have hA1 : Pl.sz A ≤ 100 := by rw [length_toL] at c1; omega
        have hB1 : Pl.sz B ≤ 100 := by rw [length_toL] at c2; omega
        clear triv
        by_cases hB0 : B = 0
        · subst hB0
          refine Ev.step (f := fun k => (poly_Div.f k p (toL A) (toL 0)).bind _) (fun k => rfl) ?_
          rw [toL_zero]
          refine Ev.bind (evDiv0 hp hA) (Ev.iteT rfl (Ev.now _))
        · obtain ⟨q, r, e, hr, hD⟩ := evDivL hp hA hB hB0 (hF.2 _ (Pl.top_ne hB0))
          have hq : Pl.sz q ≤ 512 ∧ Pl.sz (q * B) ≤ 512 := by
            have hsum : q * B = A - r := by rw [e, Pl.add_sub_cancel]
            have h1 : Pl.sz (q * B) ≤ 100 := by
              rw [hsum]
              have := Pl.sz_sub_le A r
              omega
            refine ⟨?_, by omega⟩
            by_cases hq0 : q = 0
            · rw [hq0, Pl.sz_zero]; omega
            · have := Pl.sz_mul hF hq0 hB0
              have := Pl.sz_pos hB0
              omega
          refine Ev.step (f := fun k => (poly_Div.f k p (toL A) (toL B)).bind _) (fun k => rfl) ?_
          refine Ev.bind hD (Ev.iteF ?_ ?_)
          · rw [length_toL]
            have := Pl.sz_pos hB0
            omega
          refine Ev.bind (evMulL hp hq.1 hB hq.2) ?_
          refine Ev.bind (evAddL hp hq.2 (by omega : Pl.sz r ≤ 512)) ?_
          refine Ev.iteT rfl (Ev.iteT rfl (Ev.iteT rfl ?_))
          refine Ev.bind (evSameT (by rw [length_toL, ← e]; omega) (by rw [← e])) (Ev.iteT rfl (Ev.iteT ?_ ?_))
          · show ((toL r).length : Int) < ((toL B).length : Int)
            rw [length_toL, length_toL]
            omega
          · exact Ev.bind (evRightL hp hq.1) (Ev.iteT rfl (Ev.bind (evRightL hp (by omega)) (Ev.now _)))
end Go.Proofs.Ytffcjgelcdilcaa.Pure

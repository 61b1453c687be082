/- Sums and products of polynomials don't ask for order, nor how they are put together; a product of a sum is the sum of the products; over a prime degrees add up. -/
import Derived.Test.YtffcjgelcdilcaaPolyU
import Derived.Test.YtffcjgelcdilcaaPolyAdd
import Derived.Test.YtffcjgelcdilcaaPolySub
import Derived.Test.YtffcjgelcdilcaaPAllx11
set_option linter.unusedSectionVars false
namespace Go.Proofs.Ytffcjgelcdilcaa.Pure
open Go.RowKit Go.Proofs.Ytffcjgelcdilcaa.PAll Go.Proofs.YtffcjgelcdilcaaW.PrintWords Go.Proofs.YtffcjgelcdilcaaW.PrintLast Go.Proofs.Ytffcjgelcdilcaa.Spec Fp

theorem PolyRing : affidavitlaw03_PolyRing.Pure := by
  intro a0 l1 l2 l3 w0 _ _ w1 _ _ w2 _ _ w3
  have n1 := wfs w1
  have n2 := wfs w2
  have n3 := wfs w3
  refine Ev.rounds (g := fun k => affidavitlaw03_PolyRing.f k a0 l1 l2 l3) ?_
  refine Ev.congr (f := fun k => (affidavitlaw03_awake.f k).bind _) (fun k => rfl) (Ev.bind evAwake ?_)
  refine Ev.iteT rfl ?_
  have triv : Ev (fun k => affidavitlaw03_PolyRing.j0 k a0 l1 l2 l3 true) true := Ev.step (f := fun _ => some true) (fun k => rfl) (Ev.now _)
  by_cases c1 : (l1.length : Int) > 40
  · exact Ev.iteT c1 triv
  refine Ev.iteF c1 ?_
  by_cases c2 : (l2.length : Int) > 40
  · exact Ev.iteT c2 triv
  refine Ev.iteF c2 ?_
  by_cases c3 : (l3.length : Int) > 40
  · exact Ev.iteT c3 triv
  refine Ev.iteF c3 (Ev.bind (evRight a0 l1) ?_)
  cases hr1 : rightB a0 l1 with
  | false => exact Ev.iteF (by decide) triv
  | true =>
    refine Ev.iteT rfl (Ev.bind (evRight a0 l2) ?_)
    cases hr2 : rightB a0 l2 with
    | false => exact Ev.iteF (by decide) triv
    | true =>
      refine Ev.iteT rfl (Ev.bind (evRight a0 l3) ?_)
      cases hr3 : rightB a0 l3 with
      | false => exact triv
      | true =>
        obtain ⟨p, nz, rfl, hp, A, rfl, hA⟩ := right_poly hr1 n1
        obtain ⟨B, rfl, hB⟩ := right_poly' hr2 n2
        obtain ⟨C, rfl, hC⟩ := right_poly' hr3 n3
        have hA1 : Pl.sz A ≤ 40 := by rw [length_toL] at c1; omega
        have hB1 : Pl.sz B ≤ 40 := by rw [length_toL] at c2; omega
        have hC1 : Pl.sz C ≤ 40 := by rw [length_toL] at c3; omega
        clear triv
        have m1 := Pl.sz_mul_le A B
        have m2 := Pl.sz_mul_le B A
        have m3 := Pl.sz_mul_le (A * B) C
        have m4 := Pl.sz_mul_le B C
        have m5 := Pl.sz_mul_le A (B * C)
        have m6 := Pl.sz_add_le B C
        have m7 := Pl.sz_mul_le A (B + C)
        have m8 := Pl.sz_mul_le A C
        have m9 := Pl.sz_add_le (A * B) (A * C)
        refine Ev.step (f := fun k => (poly_Mul.f k p (toL A) (toL B)).bind _) (fun k => rfl) (Ev.bind (evMulL hp hA hB (by omega)) ?_)
        refine Ev.bind (evMulL hp (A := B) (B := A) hB hA (by omega)) (Ev.bind (evMulL hp (A := A * B) (B := C) (by omega) hC (by omega)) (Ev.bind (evMulL hp (A := B) (B := C) hB hC (by omega)) (Ev.bind (evMulL hp (A := A) (B := B * C) hA (by omega) (by omega)) ?_)))
        refine Ev.bind (evAddL hp (A := B) (B := C) hB hC) (Ev.bind (evMulL hp (A := A) (B := B + C) hA (by omega) (by omega)) (Ev.bind (evMulL hp (A := A) (B := C) hA hC (by omega)) (Ev.bind (evAddL hp (A := A * B) (B := A * C) (by omega) (by omega)) (Ev.bind (evSubL hp (A := B + C) (B := C) (by omega) hC) ?_))))
        have same : ∀ {X Y : Pl p}, Pl.sz X ≤ 512 → X = Y → Ev (fun k => affidavitref01_Same.f k (toL X) (toL Y)) true := fun {X Y} hX h => evSameT (by rw [length_toL]; omega) (by rw [h])
        refine Ev.bind (same (by omega) (Pl.mul_comm A B)) (Ev.iteT rfl (Ev.bind (same (by omega) (Pl.mul_assoc A B C)) (Ev.iteT rfl (Ev.bind (same (by omega) (Pl.mul_add A B C)) (Ev.iteT rfl (Ev.bind (same (by rw [Pl.add_sub_cancel]; omega) (Pl.add_sub_cancel B C)) (Ev.iteT rfl ?_)))))))
        obtain ⟨b, hb, hpr⟩ := evPrime (p : Int) (by omega)
        refine Ev.bind hb ?_
        cases b with
        | false => exact Ev.iteF (by decide) (Ev.now _)
        | true =>
          have hF : Pl.Fld p := Pr.fld (by have h := hpr rfl; rwa [Int.toNat_natCast] at h)
          refine Ev.iteT rfl ?_
          by_cases h1 : ((toL A).length : Int) = 0
          · exact Ev.iteT h1 (Ev.now _)
          refine Ev.iteF h1 ?_
          by_cases h2 : ((toL B).length : Int) = 0
          · exact Ev.iteT h2 (Ev.now _)
          refine Ev.iteF h2 ?_
          rw [length_toL] at h1 h2
          have hA0 : A ≠ 0 := by rintro rfl; rw [Pl.sz_zero] at h1; exact h1 rfl
          have hB0 : B ≠ 0 := by rintro rfl; rw [Pl.sz_zero] at h2; exact h2 rfl
          have hm := Pl.sz_mul hF hA0 hB0
          have e : (((toL (A * B)).length : Int) == wrap64 (wrap64 (((toL A).length : Int) + ((toL B).length : Int)) - 1)) = true := by
            rw [length_toL, length_toL, length_toL, w64_in (n := (Pl.sz A : Int) + Pl.sz B) (by omega) (by omega), w64_in (by omega) (by omega)]
            exact beq_iff_eq.2 (by omega)
          show Ev (fun _ => some (((toL (A * B)).length : Int) == wrap64 (wrap64 (((toL A).length : Int) + ((toL B).length : Int)) - 1))) true
          rw [e]
          exact Ev.now _
end Go.Proofs.Ytffcjgelcdilcaa.Pure

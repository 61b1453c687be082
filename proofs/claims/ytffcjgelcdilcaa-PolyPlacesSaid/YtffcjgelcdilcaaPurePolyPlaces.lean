/- A sum's and a product's number at a place is the sum and the product of theirs; x less a place divides a polynomial just if it is 0 there. -/
import Derived.Test.YtffcjgelcdilcaaPolyU
import Derived.Test.YtffcjgelcdilcaaPolyAdd
import Derived.Test.YtffcjgelcdilcaaLin
import Derived.Test.YtffcjgelcdilcaaPAllx15
set_option linter.unusedVariables false
set_option linter.unusedSimpArgs false
set_option linter.unusedSectionVars false
namespace Go.Proofs.Ytffcjgelcdilcaa.Pure
open Go.RowKit Go.Proofs.Ytffcjgelcdilcaa.PAll Go.Proofs.YtffcjgelcdilcaaW.PrintWords Go.Proofs.YtffcjgelcdilcaaW.PrintLast Go.Proofs.Ytffcjgelcdilcaa.Spec Fp

theorem PolyPlaces : affidavitlaw03_PolyPlaces.Pure := by
  intro a0 l1 l2 x w0 _ _ w1 _ _ w2 wx
  have n1 := wfs w1
  have n2 := wfs w2
  have nx := wf0 wx
  refine Ev.rounds (g := fun k => affidavitlaw03_PolyPlaces.f k a0 l1 l2 x) ?_
  refine Ev.congr (f := fun k => (affidavitlaw03_awake.f k).bind _) (fun k => rfl) (Ev.bind evAwake ?_)
  refine Ev.iteT rfl ?_
  have triv : Ev (fun k => affidavitlaw03_PolyPlaces.j0 k a0 l1 l2 x true) true := Ev.step (f := fun _ => some true) (fun k => rfl) (Ev.now _)
  by_cases c1 : (l1.length : Int) > 100
  · exact Ev.iteT c1 triv
  refine Ev.iteF c1 ?_
  by_cases c2 : (l2.length : Int) > 100
  · exact Ev.iteT c2 triv
  refine Ev.iteF c2 (Ev.bind (evRight a0 l1) ?_)
  cases hr1 : rightB a0 l1 with
  | false => exact Ev.iteF (by decide) triv
  | true =>
    refine Ev.iteT rfl (Ev.bind (evRight a0 l2) ?_)
    cases hr2 : rightB a0 l2 with
    | false => exact Ev.iteF (by decide) triv
    | true =>
      refine Ev.iteT rfl ?_
      by_cases cx : x ≥ a0
      · rw [decide_eq_true cx]
        exact triv
      rw [decide_eq_false cx]
      obtain ⟨p, nz, rfl, hp, A, rfl, hA⟩ := right_poly hr1 n1
      obtain ⟨B, rfl, hB⟩ := right_poly' hr2 n2
      have hA1 : Pl.sz A ≤ 100 := by rw [length_toL] at c1; omega
      have hB1 : Pl.sz B ≤ 100 := by rw [length_toL] at c2; omega
      clear triv
      have hx : 0 ≤ x ∧ x < p := ⟨nx, by omega⟩
      have ms := Pl.sz_add_le A B
      have mm := Pl.sz_mul_le A B
      have hL := lin_toL hp hx
      obtain ⟨q, r, e, hr, hD⟩ := evDivL hp hA (B := lin (toF x : Fin p)) (by rw [lin_sz hp]; omega) (lin_ne hp _) ⟨1, by rw [lin_top hp]; grind⟩
      rw [hL] at hD
      rw [lin_sz hp] at hr
      have hrc := Pl.eq_C (f := r) (by omega)
      have hu : Pl.ev A (toF x) = r.co 0 := by
        rw [e, Pl.ev_add, Pl.ev_mul, lin_ev, hrc, Pl.ev_C, Pl.C_at]
        grind
      have hFA : Ev (fun k => field_Add.f k p ((Pl.ev A (toF x)).val : Int) ((Pl.ev B (toF x)).val : Int)) (((Pl.ev (A + B) (toF x)).val : Int), 0) :=
        ⟨13, fun k hk => by show field_Add.f k p _ _ = _; rw [add_spec hp.1 hp.2 (val_range _).1 (val_range _).2 (val_range _).1 (val_range _).2 hk, val_add, Pl.ev_add]⟩
      have hFM : Ev (fun k => field_Mul.f k p ((Pl.ev A (toF x)).val : Int) ((Pl.ev B (toF x)).val : Int)) (((Pl.ev (A * B) (toF x)).val : Int), 0) :=
        ⟨13, fun k hk => by show field_Mul.f k p _ _ = _; rw [mul_spec hp.1 hp.2 (val_range _).1 (val_range _).2 (val_range _).1 (val_range _).2 hk, val_mul, Pl.ev_mul]⟩
      have hFS : Ev (fun k => field_Sub.f k p 0 x) ((0 - x) % (p : Int), 0) :=
        ⟨13, fun k hk => by show field_Sub.f k p _ _ = _; rw [sub_spec hp.1 hp.2 (Int.le_refl 0) (by have := hp.1; omega) hx.1 hx.2 hk]⟩
      refine Ev.step (f := fun k => (poly_Add.f k p (toL A) (toL B)).bind _) (fun k => rfl) (Ev.bind (evAddL hp hA hB) ?_)
      refine Ev.bind (evMulL hp hA hB (by omega)) (Ev.bind (evEvalL hp hA hx) (Ev.bind (evEvalL hp hB hx) (Ev.bind (evEvalL hp (A := A + B) (by omega) hx) (Ev.bind (evEvalL hp (A := A * B) (by omega) hx) (Ev.bind hFA (Ev.bind hFM (Ev.bind hFS (Ev.bind hD ?_))))))))
      refine Ev.iteT rfl (Ev.iteT rfl (Ev.iteT rfl (Ev.iteT rfl (Ev.iteT rfl ?_))))
      rw [hu]
      by_cases h0 : r.co 0 = 0
      · have hr0 : r = 0 := by rw [hrc, h0, Pl.C_zero]
        subst hr0
        refine Ev.iteT ?_ (Ev.iteT (by rw [length_toL, Pl.sz_zero]; rfl) (Ev.now _))
        rw [length_toL, Pl.sz_zero]
        rfl
      · have hs : Pl.sz r = 1 := Pl.sz_eq (d := 0) h0 (fun i hi => by rw [hrc, Pl.C_at, if_neg (by omega)])
        have hv : ((r.co 0).val : Int) ≠ 0 := fun h => h0 (by rw [← toF_of_val (r.co 0), h]; rfl)
        have hb : (((r.co 0).val : Int) == 0) = false := beq_eq_false_iff_ne.2 hv
        have hb2 : (((toL r).length : Int) == 0) = false := by rw [length_toL, hs]; rfl
        refine Ev.iteT (by show ((((toL r).length : Int) == 0) == (((r.co 0).val : Int) == 0)) = true; rw [hb, hb2]; rfl) (Ev.iteF (by rw [length_toL, hs]; decide) (Ev.iteT (by rw [length_toL, hs]; rfl) (Ev.iteT (by rw [length_toL, hs]; decide) ?_)))
        have e0 : rd (toL r) 0 = ((r.co 0).val : Int) := by
          have := rd_nat (toL r) 0
          rw [toL_get] at this
          exact this
        have e1 : (rd (toL r) 0 == ((r.co 0).val : Int)) = true := beq_iff_eq.2 e0
        show Ev (fun _ => some (rd (toL r) 0 == ((r.co 0).val : Int))) true
        rw [e1]
        exact Ev.now _
end Go.Proofs.Ytffcjgelcdilcaa.Pure

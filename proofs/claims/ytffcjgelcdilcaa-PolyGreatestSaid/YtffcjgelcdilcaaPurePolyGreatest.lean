/- Over a prime the greatest divisor divides both, is monic, and is made of both; a common divisor divides it; the least multiple times it is both's product, monic. -/
import Derived.Test.YtffcjgelcdilcaaPolyV
import Derived.Test.YtffcjgelcdilcaaPolyAdd
import Derived.Test.YtffcjgelcdilcaaPAllx14
set_option linter.unusedVariables false
set_option linter.unusedSimpArgs false
set_option linter.unusedSectionVars false
namespace Go.Proofs.Ytffcjgelcdilcaa.Pure
open Go.RowKit Go.Proofs.Ytffcjgelcdilcaa.PAll Go.Proofs.YtffcjgelcdilcaaW.PrintWords Go.Proofs.YtffcjgelcdilcaaW.PrintLast Go.Proofs.Ytffcjgelcdilcaa.Spec Fp

theorem w000 : wrap64 (wrap64 (((0 : Nat) : Int) + ((0 : Nat) : Int)) + ((0 : Nat) : Int)) = 0 := by
  unfold wrap64
  omega
section
variable {p : Nat} [NeZero p]
theorem evDivX (hp : Md p) (hF : Pl.Fld p) {A B q : Pl p} (hA : Pl.sz A ≤ 512) (hB : Pl.sz B ≤ 512) (hB0 : B ≠ 0) (h : A = q * B) : Ev (fun k => poly_Div.f k p (toL A) (toL B)) (toL q, [], 0) := by
  obtain ⟨q', r, e, hr, hD⟩ := evDivL hp hA hB hB0 (hF.2 _ (Pl.top_ne hB0))
  obtain ⟨h1, h2⟩ := Pl.div_unique hF (b := B) (q := q') (r := r) (q' := q) (r' := 0) hr (by rw [Pl.sz_zero]; have := Pl.sz_pos hB0; omega) (by rw [← e, Pl.add_zero, ← h])
  subst h1 h2
  rw [toL_zero] at hD
  exact hD
theorem ev_j2 (hp : Md p) (hF : Pl.Fld p) {X Y g S T : Pl p} (hX : Pl.sz X ≤ 79) (hY : Pl.sz Y ≤ 79) (h1 : S * X + T * Y = g) (h2 : Pl.Dv g X) (hg0 : g ≠ 0) (hgt : Pl.top g = 1) (hS : Pl.sz S ≤ 80) (hT : Pl.sz T ≤ 80) (hg : Pl.sz g ≤ 512)
    (hev : Ev (fun k => poly_Bezout.f k p (toL X) (toL Y)) (toL g, toL S, toL T, 0)) : Ev (fun k => affidavitlaw03_PolyGreatest.j2 k p (toL X) (toL Y) (toL g) (toL S) (toL T) false) true := by
  have m1 := Pl.sz_mul_le S X
  have m2 := Pl.sz_mul_le T Y
  have m3 := Pl.sz_mul_le X Y
  have hG := evGcdOf hev
  refine Ev.step (f := fun k => (poly_Mul.f k p (toL S) (toL X)).bind _) (fun k => rfl) (Ev.bind (evMulL hp (by omega) (by omega) (by omega)) ?_)
  refine Ev.bind (evMulL hp (A := T) (B := Y) (by omega) (by omega) (by omega)) (Ev.bind (evAddL hp (A := S * X) (B := T * Y) (by omega) (by omega)) ?_)
  have hsame : Ev (fun k => affidavitref01_Same.f k (toL (S * X + T * Y)) (toL g)) true := evSameT (by rw [length_toL, h1]; omega) (by rw [h1])
  by_cases h0 : X = 0 ∨ Y = 0
  · have hl := evLcm0 h0 hG
    have hXY : X * Y = 0 := by
      rcases h0 with rfl | rfl
      · exact Pl.zero_mul _
      · exact Pl.mul_zero _
    refine Ev.bind hl ?_
    have hm := evMulL hp (A := (0 : Pl p)) (B := g) (by rw [Pl.sz_zero]; omega) hg (by rw [Pl.zero_mul, Pl.sz_zero]; omega)
    rw [Pl.zero_mul, toL_zero] at hm
    refine Ev.bind hm ?_
    have hm2 := evMulL hp (A := X) (B := Y) (by omega) (by omega) (by omega)
    rw [hXY, toL_zero] at hm2
    refine Ev.bind hm2 (Ev.bind (evMonic0 hp) (Ev.bind hsame (Ev.iteT rfl (Ev.iteT rfl (Ev.iteT rfl (Ev.iteT rfl (Ev.bind (evSameT (by decide) rfl) (Ev.now _))))))))
  · have hX0 : X ≠ 0 := fun h => h0 (.inl h)
    have hY0 : Y ≠ 0 := fun h => h0 (.inr h)
    obtain ⟨q, hq⟩ := h2
    have hq' : X = q * g := by rw [hq, Pl.mul_comm]
    have hq0 : q ≠ 0 := by rintro rfl; rw [Pl.zero_mul] at hq'; exact hX0 hq'
    have hqY := Pl.mul_ne hF hq0 hY0
    have hXY := Pl.mul_ne hF hX0 hY0
    obtain ⟨c, hc, hL⟩ := evLcmOf hp hF (A := X) (B := Y) (by omega) (by omega) (by omega) hX0 hY0 hq' hG
    obtain ⟨d, hd, hM⟩ := evMonicL hp (A := X * Y) (by omega) hXY (hF.2 _ (Pl.top_ne hXY))
    have ht : Pl.top (X * Y) = Pl.top (q * Y) := by
      rw [Pl.top_mul hF hX0 hY0, Pl.top_mul hF hq0 hY0]
      have : Pl.top X = Pl.top q := by
        rw [hq', Pl.top_mul hF hq0 hg0, hgt]
        grind
      rw [this]
    have hcd : c = d := by
      rw [ht] at hd
      have e1 : c = c * (Pl.top (q * Y) * d) := by rw [hd]; grind
      have e2 : c * (Pl.top (q * Y) * d) = d * (Pl.top (q * Y) * c) := by grind
      rw [e1, e2, hc]
      grind
    subst hcd
    have e : Pl.C c * (q * Y) * g = Pl.C c * (X * Y) := by rw [hq']; ac_rfl
    have n1 := Pl.sz_mul hF hq0 hY0
    have n2 := Pl.sz_mul hF hq0 hg0
    rw [← hq'] at n2
    have n3 := Pl.sz_pos hg0
    have n4 := Pl.sz_mul_le (Pl.C c) (q * Y)
    have n5 := Pl.sz_C_le c
    have n6 := Pl.sz_mul_le (Pl.C c) (X * Y)
    refine Ev.bind hL (Ev.bind (evMulL hp (A := Pl.C c * (q * Y)) (B := g) (by omega) hg (by rw [e]; omega)) (Ev.bind (evMulL hp (A := X) (B := Y) (by omega) (by omega) (by omega)) (Ev.bind hM ?_)))
    refine Ev.bind hsame (Ev.iteT rfl (Ev.iteT rfl (Ev.iteT rfl (Ev.iteT rfl (Ev.bind (evSameT ?_ ?_) (Ev.now _))))))
    · rw [length_toL, e]; omega
    · rw [e]
theorem ev_j1 (hp : Md p) (hF : Pl.Fld p) {X Y C g S T : Pl p} (hX : Pl.sz X ≤ 79) (hY : Pl.sz Y ≤ 79) (hC : Pl.sz C ≤ 512) (hC0 : C ≠ 0) (hCX : Pl.Dv C X) (hCY : Pl.Dv C Y) (h1 : S * X + T * Y = g) (h2 : Pl.Dv g X) (h3 : Pl.Dv g Y) (hg0 : g ≠ 0) (hgt : Pl.top g = 1) (hS : Pl.sz S ≤ 80) (hT : Pl.sz T ≤ 80) (hg : Pl.sz g ≤ 512)
    (hev : Ev (fun k => poly_Bezout.f k p (toL X) (toL Y)) (toL g, toL S, toL T, 0)) : Ev (fun k => affidavitlaw03_PolyGreatest.j1 k p (toL C) (toL X) (toL Y) (toL g) (toL S) (toL T) false) true := by
  have h2' := h2
  obtain ⟨q1, e1⟩ := h2
  obtain ⟨q2, e2⟩ := h3
  obtain ⟨q3, e3⟩ : Pl.Dv C g := by rw [← h1]; exact (hCX.mul_left S).add (hCY.mul_left T)
  have hgs := Pl.sz_pos hg0
  refine Ev.step (f := fun k => (poly_Div.f k p (toL X) (toL g)).bind _) (fun k => rfl) (Ev.bind (evDivX hp hF (by omega) hg hg0 (by rw [e1, Pl.mul_comm])) ?_)
  refine Ev.bind (evDivX hp hF (A := Y) (by omega) hg hg0 (by rw [e2, Pl.mul_comm])) (Ev.bind (evDivX hp hF (A := g) (B := C) hg hC hC0 (by rw [e3, Pl.mul_comm])) ?_)
  refine Ev.iteT rfl (Ev.iteT rfl (Ev.iteT rfl (Ev.iteT w000 ?_)))
  have e : wrap64 (((toL g).length : Int) - 1) = ((Pl.sz g - 1 : Nat) : Int) := by rw [length_toL, w64_in (by omega) (by omega)]; omega
  rw [e]
  refine Ev.iteT (by omega) (Ev.iteT (by rw [length_toL]; omega) ?_)
  have ht := top_toL g
  rw [length_toL] at ht
  have h1v : ((1 : Fin p).val : Int) = 1 := by
    have hv : (1 : Fin p).val = 1 % p := rfl
    rw [hv, Nat.mod_eq_of_lt (by have := hp.1; omega)]
    rfl
  rw [rd_nat, ht, hgt, h1v]
  exact ev_j2 hp hF hX hY h1 h2' hg0 hgt hS hT hg hev
end

theorem PolyGreatest : affidavitlaw03_PolyGreatest.Pure := by
  intro a0 l1 l2 l3 w0 _ _ w1 _ _ w2 _ _ w3
  have n1 := wfs w1
  have n2 := wfs w2
  have n3 := wfs w3
  refine Ev.rounds (g := fun k => affidavitlaw03_PolyGreatest.f k a0 l1 l2 l3) ?_
  refine Ev.congr (f := fun k => (affidavitlaw03_awake.f k).bind _) (fun k => rfl) (Ev.bind evAwake ?_)
  refine Ev.iteT rfl ?_
  have triv : Ev (fun k => affidavitlaw03_PolyGreatest.j0 k a0 l1 l2 l3 true) true := Ev.step (f := fun _ => some true) (fun k => rfl) (Ev.now _)
  by_cases c1 : (l1.length : Int) > 40
  · exact Ev.iteT c1 triv
  refine Ev.iteF c1 ?_
  by_cases c2 : (l2.length : Int) > 40
  · exact Ev.iteT c2 triv
  refine Ev.iteF c2 ?_
  by_cases c3 : (l3.length : Int) > 40
  · exact Ev.iteT c3 triv
  refine Ev.iteF c3 ?_
  obtain ⟨b, hb, hpr⟩ := evPrime a0 (wf0 w0)
  refine Ev.bind hb ?_
  cases b with
  | false => exact Ev.iteF (by decide) triv
  | true =>
    refine Ev.iteT rfl (Ev.bind (evRight a0 l1) ?_)
    cases hr1 : rightB a0 l1 with
    | false => exact Ev.iteF (by decide) triv
    | true =>
      refine Ev.iteT rfl (Ev.bind (evRight a0 l2) ?_)
      cases hr2 : rightB a0 l2 with
      | false => exact Ev.iteF (by decide) triv
      | true =>
        refine Ev.iteT rfl (Ev.bind (evRight a0 l3) ?_)
        cases hr3 : rightB a0 l3 with
        | false => exact Ev.iteF (by decide) triv
        | true =>
          refine Ev.iteT rfl ?_
          obtain ⟨p, nz, rfl, hp, A, rfl, hA⟩ := right_poly hr1 n1
          obtain ⟨B, rfl, hB⟩ := right_poly' hr2 n2
          obtain ⟨C, rfl, hC⟩ := right_poly' hr3 n3
          have hF : Pl.Fld p := Pr.fld (by have h := hpr rfl; rwa [Int.toNat_natCast] at h)
          have hA1 : Pl.sz A ≤ 40 := by rw [length_toL] at c1; omega
          have hB1 : Pl.sz B ≤ 40 := by rw [length_toL] at c2; omega
          have hC1 : Pl.sz C ≤ 40 := by rw [length_toL] at c3; omega
          by_cases hC0 : C = 0
          · subst hC0
            have hb0 : (((toL (0 : Pl p)).length : Int) == 0) = true := by rw [length_toL, Pl.sz_zero]; rfl
            rw [hb0]
            exact triv
          · clear triv
            have hCs := Pl.sz_pos hC0
            have hb0 : (((toL C).length : Int) == 0) = false := beq_eq_false_iff_ne.2 (by rw [length_toL]; omega)
            rw [hb0]
            have m1 := Pl.sz_mul_le A C
            have m2 := Pl.sz_mul_le B C
            obtain ⟨g, S, T, h1, h2, h3, h4, h5, h6, h7, hev⟩ := evBezL hp hF (A := A * C) (B := B * C) (by omega) (by omega)
            refine Ev.step (f := fun k => (poly_Mul.f k p (toL A) (toL C)).bind _) (fun k => rfl) (Ev.bind (evMulL hp hA hC (by omega)) ?_)
            refine Ev.bind (evMulL hp (A := B) (B := C) hB hC (by omega)) (Ev.bind hev (Ev.iteT rfl ?_))
            have go : g ≠ 0 → Pl.top g = 1 → Ev (fun k => affidavitlaw03_PolyGreatest.j1 k p (toL C) (toL (A * C)) (toL (B * C)) (toL g) (toL S) (toL T) false) true := fun hg0 hgt =>
              ev_j1 hp hF (by omega) (by omega) hC hC0 (Pl.Dv.of_mul' C A) (Pl.Dv.of_mul' C B) h1 h2 h3 hg0 hgt (by omega) (by omega) h7 hev
            have hz : ∀ {x : Pl p}, ((toL x).length : Int) = 0 → x = 0 := fun {x} h => Pl.eq_zero (by rw [length_toL] at h; omega)
            by_cases hx : ((toL (A * C)).length : Int) = 0
            · refine Ev.iteT hx ?_
              by_cases hy : ((toL (B * C)).length : Int) = 0
              · have hb1 : (((toL (B * C)).length : Int) == 0) = true := beq_iff_eq.2 hy
                rw [hb1]
                have hg : g = 0 := by rw [← h1, hz hx, hz hy, Pl.mul_zero, Pl.mul_zero, Pl.add_zero]
                subst hg
                refine Ev.step (f := fun _ => some (((toL (0 : Pl p)).length : Int) == 0)) (fun k => rfl) ?_
                rw [length_toL, Pl.sz_zero]
                exact Ev.now _
              · have hb1 : (((toL (B * C)).length : Int) == 0) = false := beq_eq_false_iff_ne.2 hy
                rw [hb1]
                rcases h4 with h4 | h4
                · exact absurd (by rw [h4.2.1, length_toL, Pl.sz_zero]; rfl) hy
                · exact go h4.1 h4.2
            · refine Ev.iteF hx ?_
              rcases h4 with h4 | h4
              · exact absurd (by rw [h4.1, length_toL, Pl.sz_zero]; rfl) hx
              · exact go h4.1 h4.2
end Go.Proofs.Ytffcjgelcdilcaa.Pure

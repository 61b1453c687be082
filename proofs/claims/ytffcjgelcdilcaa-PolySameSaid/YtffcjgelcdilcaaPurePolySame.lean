/- Over a prime the greatest divisor and the least multiple do not ask for order; of one and the same they are it, monic; with 1 they are 1, and it. -/
import Derived.Test.YtffcjgelcdilcaaPolyV
import Derived.Test.YtffcjgelcdilcaaPAllx11
set_option linter.unusedVariables false
set_option linter.unusedSimpArgs false
set_option linter.unusedSectionVars false
namespace Go.Proofs.Ytffcjgelcdilcaa.Pure
open Go.RowKit Go.Proofs.Ytffcjgelcdilcaa.PAll Go.Proofs.YtffcjgelcdilcaaW.PrintWords Go.Proofs.YtffcjgelcdilcaaW.PrintLast Go.Proofs.Ytffcjgelcdilcaa.Spec Fp

section
variable {p : Nat} [NeZero p]
/-- The monic one of a polynomial; 0 of 0. -/
theorem evMonicAny (hp : Md p) (hF : Pl.Fld p) {A : Pl p} (hA : Pl.sz A ≤ 512) : ∃ m : Pl p, Ev (fun k => poly_Monic.f k p (toL A)) (toL m, 0) ∧ Pl.Dv m A ∧ Pl.Dv A m ∧ ((A = 0 ∧ m = 0) ∨ (m ≠ 0 ∧ Pl.top m = 1)) := by
  by_cases h : A = 0
  · subst h
    refine ⟨0, ?_, Pl.Dv.zero _, Pl.Dv.zero _, .inl ⟨rfl, rfl⟩⟩
    rw [toL_zero]
    exact evMonic0 hp
  · obtain ⟨c, hc, hev⟩ := evMonicL hp hA h (hF.2 _ (Pl.top_ne h))
    have hc0 : c ≠ 0 := by rintro rfl; apply hF.1; rw [← hc]; grind
    obtain ⟨m0, mt, md⟩ := monic_facts hF h hc
    exact ⟨_, hev, md, Pl.Dv.of_mul' _ _, .inr ⟨m0, mt⟩⟩
theorem mono_eq (hF : Pl.Fld p) {f g : Pl p} (h1 : Pl.Dv f g) (h2 : Pl.Dv g f) (hf : f = 0 ∨ (f ≠ 0 ∧ Pl.top f = 1)) (hg : g = 0 ∨ (g ≠ 0 ∧ Pl.top g = 1)) : f = g := by
  rcases hf with rfl | ⟨_, ht⟩
  · exact h1.eq_zero.symm
  · rcases hg with rfl | ⟨_, ht'⟩
    · exact h2.eq_zero
    · exact Pl.Dv.antisymm hF h1 h2 (by rw [ht, ht'])
/-- The least multiple, of any two: it divides what both divide, monic or 0; by the greatest divisor. -/
theorem evLcmAny (hp : Md p) (hF : Pl.Fld p) {A B : Pl p} (hA : Pl.sz A ≤ 256) (hB : Pl.sz B ≤ 256) :
    ∃ l : Pl p, Ev (fun k => poly_Lcm.f k p (toL A) (toL B)) (toL l, 0) ∧ Pl.Dv A l ∧ Pl.Dv B l ∧ (∀ x, Pl.Dv A x → Pl.Dv B x → Pl.Dv l x) ∧ (l = 0 ∨ (l ≠ 0 ∧ Pl.top l = 1)) ∧ Pl.sz l ≤ 512 := by
  obtain ⟨g, S, T, h1, h2, h3, h4, _, _, _, hev⟩ := evBezL hp hF (A := A) (B := B) (by omega) (by omega)
  have hG := evGcdOf hev
  by_cases h0 : A = 0 ∨ B = 0
  · refine ⟨0, ?_, Pl.Dv.zero _, Pl.Dv.zero _, ?_, .inl rfl, by rw [Pl.sz_zero]; omega⟩
    · rw [toL_zero]
      exact evLcm0 h0 hG
    · intro x hx1 hx2
      rcases h0 with rfl | rfl
      · rw [hx1.eq_zero]; exact Pl.Dv.refl _
      · rw [hx2.eq_zero]; exact Pl.Dv.refl _
  · have hA0 : A ≠ 0 := fun h => h0 (.inl h)
    have hB0 : B ≠ 0 := fun h => h0 (.inr h)
    have hg0 : g ≠ 0 := by
      rcases h4 with h4 | h4
      · exact absurd h4.1 hA0
      · exact h4.1
    obtain ⟨q, hq⟩ := h2
    obtain ⟨b, hb⟩ := h3
    have hq' : A = q * g := by rw [hq, Pl.mul_comm]
    obtain ⟨c, hc, hL⟩ := evLcmOf hp hF (by omega) (by omega) (by omega) hA0 hB0 hq' hG
    have hq0 : q ≠ 0 := by rintro rfl; rw [Pl.zero_mul] at hq'; exact hA0 hq'
    have hqB := Pl.mul_ne hF hq0 hB0
    obtain ⟨m0, mt, md⟩ := monic_facts hF hqB hc
    have hm1 := Pl.sz_mul hF hq0 hg0
    rw [← hq'] at hm1
    have hm2 := Pl.sz_mul_le q B
    have hm3 := Pl.sz_mul_le (Pl.C c) (q * B)
    have hm4 := Pl.sz_C_le c
    have hm5 := Pl.sz_pos hg0
    refine ⟨_, hL, ?_, ?_, ?_, .inr ⟨m0, mt⟩, by omega⟩
    · refine Pl.Dv.mul_left _ ⟨b, ?_⟩
      rw [hb, hq', Pl.mul_assoc]
    · exact (Pl.Dv.of_mul' B q).mul_left _
    · rintro x ⟨u, hu⟩ ⟨v, hv⟩
      refine md.trans ?_
      -- q b g divides x: x = S A x' ..
      have e1 : S * q + T * b = 1 := by
        refine Pl.cancel hF hg0 ?_
        have e0 : g * (S * q + T * b) = S * (q * g) + T * (g * b) := by
          rw [Pl.mul_add]
          congr 1 <;> ac_rfl
        rw [Pl.mul_one, e0, ← hq', ← hb, h1]
      refine ⟨S * v + T * u, ?_⟩
      have e2 : x = (S * q + T * b) * x := by rw [e1, Pl.one_mul]
      rw [e2, Pl.add_mul, Pl.mul_add]
      congr 1
      · rw [hv]; ac_rfl
      · rw [hu, hq', hb]; ac_rfl
end

theorem PolySame : affidavitlaw03_PolySame.Pure := by
  intro a0 l1 l2 w0 _ _ w1 _ _ w2
  have n1 := wfs w1
  have n2 := wfs w2
  refine Ev.rounds (g := fun k => affidavitlaw03_PolySame.f k a0 l1 l2) ?_
  refine Ev.congr (f := fun k => (affidavitlaw03_awake.f k).bind _) (fun k => rfl) (Ev.bind evAwake ?_)
  refine Ev.iteT rfl ?_
  have triv : Ev (fun k => affidavitlaw03_PolySame.j0 k a0 l1 l2 true) true := Ev.step (f := fun _ => some true) (fun k => rfl) (Ev.now _)
  by_cases c1 : (l1.length : Int) > 40
  · exact Ev.iteT c1 triv
  refine Ev.iteF c1 ?_
  by_cases c2 : (l2.length : Int) > 40
  · exact Ev.iteT c2 triv
  refine Ev.iteF c2 ?_
  obtain ⟨b, hb, hpr⟩ := evPrime a0 (wf0 w0)
  refine Ev.bind hb ?_
  cases b with
  | false => exact Ev.iteF (by decide) triv
  | true =>
    refine Ev.iteT rfl (Ev.bind (evRight a0 l1) ?_)
    cases hr1 : rightB a0 l1 with
    | false => exact Ev.iteF (by decide) triv
    | true =>
      refine Ev.iteT rfl (Ev.bind (evRight a0 l2) ?_)
      cases hr2 : rightB a0 l2 with
      | false => exact triv
      | true =>
        obtain ⟨p, nz, rfl, hp, A, rfl, hA⟩ := right_poly hr1 n1
        obtain ⟨B, rfl, hB⟩ := right_poly' hr2 n2
        have hF : Pl.Fld p := Pr.fld (by have h := hpr rfl; rwa [Int.toNat_natCast] at h)
        have hA1 : Pl.sz A ≤ 40 := by rw [length_toL] at c1; omega
        have hB1 : Pl.sz B ≤ 40 := by rw [length_toL] at c2; omega
        clear triv
        have h10 : (1 : Fin p) ≠ 0 := fun h => hF.1 h.symm
        have h1L : toL (1 : Pl p) = [1] := by
          have := toL_C h10
          rw [Pl.C_one] at this
          rw [this]
          have hv : (1 : Fin p).val = 1 % p := rfl
          rw [hv, Nat.mod_eq_of_lt (by have := hp.1; omega)]
          rfl
        have hs1 : Pl.sz (1 : Pl p) = 1 := by rw [← length_toL, h1L]; rfl
        have h1ne : (1 : Pl p) ≠ 0 := fun h => by rw [h, Pl.sz_zero] at hs1; omega
        have h1t : Pl.top (1 : Pl p) = 1 := by unfold Pl.top; rw [hs1]; rfl
        have pick : ∀ {g : Pl p} {P Q : Prop}, (P ∧ Q ∧ g = 0) ∨ (g ≠ 0 ∧ Pl.top g = 1) → g = 0 ∨ (g ≠ 0 ∧ Pl.top g = 1) := fun h => h.imp (fun h => h.2.2) id
        obtain ⟨g, S, T, g1, g2, g3, g4, _, _, gz, gev⟩ := evBezL hp hF (A := A) (B := B) hA hB
        obtain ⟨g', S', T', g1', g2', g3', g4', _, _, _, gev'⟩ := evBezL hp hF (A := B) (B := A) hB hA
        obtain ⟨l, lev, l1', l2', l3', l4', lz⟩ := evLcmAny hp hF (A := A) (B := B) (by omega) (by omega)
        obtain ⟨k, kev, k1, k2, k3, k4, _⟩ := evLcmAny hp hF (A := B) (B := A) (by omega) (by omega)
        obtain ⟨m, mev, m1, m2, m3⟩ := evMonicAny hp hF hA
        obtain ⟨ga, Sa, Ta, ga1, ga2, _, ga4, _, _, gaz, gaev⟩ := evBezL hp hF (A := A) (B := A) hA hA
        obtain ⟨la, laev, la1, _, la3, la4, laz⟩ := evLcmAny hp hF (A := A) (B := A) (by omega) (by omega)
        obtain ⟨go, So, To, go1, _, go3, go4, _, _, goz, goev⟩ := evBezL hp hF (A := A) (B := (1 : Pl p)) hA (by omega)
        obtain ⟨lo, loev, lo1, _, lo3, lo4, loz⟩ := evLcmAny hp hF (A := A) (B := (1 : Pl p)) (by omega) (by omega)
        have m3' : m = 0 ∨ (m ≠ 0 ∧ Pl.top m = 1) := m3.imp (fun h => h.2) id
        have e1 : g = g' := mono_eq hF (by rw [← g1']; exact (g3.mul_left _).add (g2.mul_left _)) (by rw [← g1]; exact (g3'.mul_left _).add (g2'.mul_left _)) (pick g4) (pick g4')
        have e2 : l = k := mono_eq hF (l3' _ k2 k1) (k3 _ l2' l1') l4' k4
        have e3 : ga = m := mono_eq hF (ga2.trans m2) (by rw [← ga1]; exact (m1.mul_left _).add (m1.mul_left _)) (pick ga4) m3'
        have e4 : la = m := mono_eq hF (la3 _ m2 m2) (m1.trans la1) la4 m3'
        have e5 : go = 1 := mono_eq hF go3 ⟨go, (Pl.one_mul go).symm⟩ (pick go4) (.inr ⟨h1ne, h1t⟩)
        have e6 : lo = m := mono_eq hF (lo3 _ m2 ⟨m, (Pl.one_mul m).symm⟩) (m1.trans lo1) lo4 m3'
        rw [h1L] at goev loev
        have hgo : Ev (fun k => poly_Gcd.f k p (toL A) [1]) (toL go, 0) := Ev.congr (f := fun k => (poly_Bezout.f k p (toL A) [1]).bind _) (fun k => rfl) (Ev.bind goev (Ev.now _))
        refine Ev.step (f := fun k => (poly_Gcd.f k p (toL A) (toL B)).bind _) (fun k => rfl) (Ev.bind (evGcdOf gev) ?_)
        refine Ev.bind (evGcdOf gev') (Ev.bind lev (Ev.bind kev (Ev.bind mev (Ev.bind (evGcdOf gaev) (Ev.bind laev (Ev.bind hgo (Ev.bind loev ?_)))))))
        refine Ev.iteT rfl (Ev.iteT rfl (Ev.iteT rfl (Ev.iteT rfl (Ev.iteT rfl ?_))))
        have same : ∀ {X Y : Pl p}, Pl.sz X ≤ 512 → X = Y → Ev (fun k => affidavitref01_Same.f k (toL X) (toL Y)) true := fun {X Y} hX h => evSameT (by rw [length_toL]; omega) (by rw [h])
        refine Ev.bind (same gz e1) (Ev.iteT rfl (Ev.bind (same lz e2) (Ev.iteT rfl (Ev.bind (same gaz e3) (Ev.iteT rfl (Ev.bind (same laz e4) (Ev.iteT rfl ?_)))))))
        have s5 := same goz e5
        rw [h1L] at s5
        exact Ev.bind s5 (Ev.iteT rfl (Ev.bind (same loz e6) (Ev.now _)))
end Go.Proofs.Ytffcjgelcdilcaa.Pure

/- Over a prime a row's rule is obeyed, and of the least length; else it is obeyed, or ErrZero is told. -/
import Derived.Test.YtffcjgelcdilcaaSerLeast
import Derived.Test.YtffcjgelcdilcaaPSerx11
set_option linter.unusedVariables false
set_option linter.unusedSimpArgs false
set_option linter.unusedSectionVars false
namespace Go.Proofs.Ytffcjgelcdilcaa.Pure
open Go.RowKit Go.Proofs.Ytffcjgelcdilcaa.PSer Go.Proofs.YtffcjgelcdilcaaW.PrintWords Go.Proofs.YtffcjgelcdilcaaW.PrintLast Go.Proofs.Ytffcjgelcdilcaa.Spec Fp

theorem SeriesShortest : affidavitlaw04_SeriesShortest.Pure := by
  intro a0 l1 w0 _ y1 w1
  have n1 := wfs w1
  refine Ev.rounds (g := fun k => affidavitlaw04_SeriesShortest.f k a0 l1) ?_
  refine Ev.congr (f := fun k => (affidavitlaw04_awake.f k).bind _) (fun k => rfl) (Ev.bind evAwake ?_)
  refine Ev.iteT rfl ?_
  by_cases c1 : (l1.length : Int) > 24
  · exact Ev.iteT c1 (Ev.now _)
  refine Ev.iteF c1 ?_
  have hhas := evHas a0 (l := l1) (by omega)
  have hrhas := evRefHas a0 (l := l1) (by omega)
  cases hh : hasB a0 l1 with
  | false =>
    rw [hh] at hhas hrhas
    have hR : Ev (fun k => series_Rule.f k a0 l1) ([], 1) := Ev.congr (f := fun k => (field_Has.f k a0 l1).bind _) (fun k => rfl) (Ev.bind hhas (Ev.iteF (by decide) (Ev.now _)))
    exact Ev.bind hR (Ev.bind hrhas (Ev.iteF (by decide) (Ev.iteT rfl (Ev.now _))))
  | true =>
    rw [hh] at hhas hrhas
    obtain ⟨b, hb1, hb2⟩ := evPrime a0 (wf0 w0)
    obtain ⟨p, nz, rfl, hp, hl⟩ := has_in hh n1
    obtain ⟨⟨z, e⟩, hR0, hres⟩ := evRule hp hl (by omega)
    have hR : Ev (fun k => series_Rule.f k p l1) (z, e) := hR0
    rcases hres with ⟨h2, L, h3, h4, h5, h6, h7⟩ | ⟨h2, h3⟩
    · have h2' : e = 0 := h2
      subst h2'
      have h3' : z.length = L + 1 := h3
      have hz := rl_is hp h3' (by omega) h5 h6
      have hrr := evRefRule (p : Int) (c := z) (by omega)
      rw [is_rule hp hz] at hrr
      have hro := evRefObeys hp hl hz (by omega)
      have hob : obeysB p l1 z (z.length - 1) = true := by
        rw [h3', Nat.add_sub_cancel]
        exact obeysB_true h6.nul
      rw [hob] at hro
      refine Ev.bind hR (Ev.bind hrhas (Ev.iteT rfl (Ev.iteT rfl (Ev.bind hrr (Ev.iteT rfl (Ev.bind hro ?_))))))
      refine Ev.step (fun k => affidavitlaw04_SeriesShortest.j0.eq_2 ..) (Ev.iteF (by decide) (Ev.bind hb1 ?_))
      cases b with
      | false => exact Ev.iteF (by decide) (Ev.now _)
      | true =>
        have hpr : Pr p := by have := hb2 rfl; rwa [Int.toNat_natCast] at this
        have hle := evLeast hp hpr hl (by omega) h4 h6 h7
        have e1 : wrap64 ((z.length : Int) - 1) = (L : Int) := by rw [w64_in (by omega) (by omega)]; omega
        refine Ev.iteT rfl (Ev.bind hle ?_)
        rw [e1]
        refine Ev.congr (f := fun _ => some true) (fun k => ?_) (Ev.now _)
        simp
    · have hz : z = [] := congrArg Prod.fst h2
      have he : e = 5 := congrArg Prod.snd h2
      subst hz he
      have hbf : b = false := by
        cases b with
        | false => rfl
        | true => exact absurd (Pr.fld (by have := hb2 rfl; rwa [Int.toNat_natCast] at this)) h3
      subst hbf
      exact Ev.bind hR (Ev.bind hrhas (Ev.iteT rfl (Ev.iteF (by decide) (Ev.iteT rfl (Ev.iteT rfl (Ev.bind hb1 (Ev.now _)))))))
end Go.Proofs.Ytffcjgelcdilcaa.Pure

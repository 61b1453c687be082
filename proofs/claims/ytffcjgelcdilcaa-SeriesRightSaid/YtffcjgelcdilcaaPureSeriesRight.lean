/- Whether any list is a rule, any row obeys it, how the row goes on, and the rule's polynomial, is what the document says. -/
import Derived.Test.YtffcjgelcdilcaaSerRef
import Derived.Test.YtffcjgelcdilcaaPSerx9
set_option linter.unusedVariables false
set_option linter.unusedSimpArgs false
set_option linter.unusedSectionVars false
namespace Go.Proofs.Ytffcjgelcdilcaa.Pure
open Go.RowKit Go.Proofs.Ytffcjgelcdilcaa.PSer Go.Proofs.YtffcjgelcdilcaaW.PrintWords Go.Proofs.YtffcjgelcdilcaaW.PrintLast Go.Proofs.Ytffcjgelcdilcaa.Spec Fp

theorem right_l0 {p : Nat} [NeZero p] (hp : Md p) {c l : List Int} (hc : IsRule p c) (hl : In p l) (hll : l.length < 100000) {m : Nat} (h : ∀ j, m ≤ j → j < l.length → (cv (row c) (row l) j : Fin p) = 0) (d : Nat) : ∀ i : Nat, m ≤ i → i < 100000 → d = l.length - i → Ev (fun k => affidavitlaw04_SeriesRight.l0 k p c l (i : Int)) true := by
  induction d with
  | zero =>
    intro i hi hi2 hd
    exact Ev.step (fun k => affidavitlaw04_SeriesRight.l0.eq_2 ..) (Ev.iteF (by omega) (Ev.now _))
  | succ d ih =>
    intro i hi hi2 hd
    have b1 : (i : Int) < (l.length : Int) := by omega
    have hm := hc.most
    have hs := evRefSum hp hc.inr hl (show i < l.length by omega) (by omega) (by omega)
    have hz := val_zero_iff.2 (h i hi (by omega))
    have h5 := ih (i + 1) (by omega) (by omega) (by omega)
    have e3 : wrap64 ((i : Int) + 1) = ((i + 1 : Nat) : Int) := by rw [w64_in (by omega) (by omega)]; omega
    refine Ev.step (fun k => affidavitlaw04_SeriesRight.l0.eq_2 ..) (Ev.iteT b1 (Ev.bind hs (Ev.iteT hz ?_)))
    rw [e3]
    exact h5
theorem rev_trim {p : Nat} [NeZero p] (hp : Md p) {c : List Int} (hc : IsRule p c) : toL (toP c.reverse : Pl p) = c.reverse := by
  have h1 := hc.pos
  refine toL_toP (fun x hx => hc.inr x (List.mem_reverse.1 hx)) (.inr ?_)
  rw [List.length_reverse, getD_reverse_ c _ (by omega), show c.length - 1 - (c.length - 1) = 0 from by omega, hc.one]
  omega
theorem bne_self_ (b : Bool) : (b != b) = false := by cases b <;> rfl

theorem SeriesRight : affidavitlaw04_SeriesRight.Pure := by
  intro a0 l1 l2 a3 w0 _ y1 w1 _ y2 w2 w3
  have n1 := wfs w1
  have n2 := wfs w2
  refine Ev.rounds (g := fun k => affidavitlaw04_SeriesRight.f k a0 l1 l2 a3) ?_
  refine Ev.congr (f := fun k => (affidavitlaw04_awake.f k).bind _) (fun k => rfl) (Ev.bind evAwake ?_)
  have triv : Ev (fun k => affidavitlaw04_SeriesRight.j0 k a0 l1 l2 a3 true) true := Ev.step (f := fun _ => some true) (fun k => rfl) (Ev.now _)
  refine Ev.iteT rfl ?_
  by_cases c1 : (l1.length : Int) > 60
  · exact Ev.iteT c1 triv
  refine Ev.iteF c1 ?_
  by_cases c2 : (l2.length : Int) > 60
  · exact Ev.iteT c2 triv
  refine Ev.iteF c2 ?_
  have main : (a3 ≤ 40 ∨ 512 < a3) → Ev (fun k => affidavitlaw04_SeriesRight.j0 k a0 l1 l2 a3 false) true := fun hmany => by
    refine Ev.step (fun k => affidavitlaw04_SeriesRight.j0.eq_2 ..) (Ev.iteF (by simp) ?_)
    have hrule := evRule_ a0 l2
    have hrefr := evRefRule a0 (c := l2) (by omega)
    -- what is left where nothing is told
    have bad : ∀ (x9 : Bool), (x9 = true → ruleB a0 l2 = true) → Ev (fun k => affidavitlaw04_SeriesRight.j3 k a0 l1 l2 a3 [] 1 true) true := fun _ _ =>
      Ev.step (fun k => affidavitlaw04_SeriesRight.j3.eq_2 ..) (Ev.iteT rfl (Ev.iteT rfl (Ev.now _)))
    cases hr : ruleB a0 l2 with
    | false =>
      rw [hr] at hrule hrefr
      have hOn : Ev (fun k => series_On.f k a0 l1 l2 a3) ([], 1) := Ev.congr (f := fun k => (series_Right.f k a0 l2).bind _) (fun k => rfl) (Ev.bind hrule (Ev.iteF (by decide) (Ev.step (fun k => series_On.j0.eq_2 ..) (Ev.iteT rfl (Ev.now _)))))
      have hPo : Ev (fun k => series_Poly.f k a0 l2) ([], 1) := Ev.congr (f := fun k => (series_Right.f k a0 l2).bind _) (fun k => rfl) (Ev.bind hrule (Ev.iteF (by decide) (Ev.now _)))
      have hOb : Ev (fun k => series_Obeys.f k a0 l1 l2) false := Ev.congr (f := fun k => (series_Right.f k a0 l2).bind _) (fun k => rfl) (Ev.bind hrule (Ev.iteF (by decide) (Ev.step (fun k => series_Obeys.j0.eq_2 ..) (Ev.iteT rfl (Ev.now _)))))
      have hRo : Ev (fun k => affidavitref04_Obeys.f k a0 l1 l2) false := Ev.congr (f := fun k => (affidavitref04_Right.f k a0 l2).bind _) (fun k => rfl) (Ev.bind hrefr (Ev.iteF (by decide) (Ev.step (fun k => affidavitref04_Obeys.j0.eq_2 ..) (Ev.iteT rfl (Ev.now _)))))
      refine Ev.bind hrefr (Ev.bind hOn (Ev.bind hPo (Ev.bind hrule (Ev.iteF (by decide) (Ev.bind hOb (Ev.bind hRo ?_))))))
      refine Ev.step (fun k => affidavitlaw04_SeriesRight.j1.eq_2 ..) (Ev.iteF (by decide) (Ev.iteF (by decide) (Ev.iteT rfl (Ev.iteT rfl ?_))))
      refine Ev.step (fun k => affidavitlaw04_SeriesRight.j2.eq_2 ..) (Ev.iteF (by decide) (Ev.iteF (by decide) ?_))
      exact bad false (fun h => by cases h)
    | true =>
      rw [hr] at hrule hrefr
      have hhas := evHas a0 (l := l1) (by omega)
      have hrhas := evRefHas a0 (l := l1) (by omega)
      have hq : hasB a0 l2 = true := by
        unfold ruleB at hr
        simp only [Bool.and_eq_true] at hr
        exact hr.1.2
      obtain ⟨p, nz, rfl, hp, _⟩ := has_in hq n2
      have hc := rule_is hp hr n2
      have hPo := evPoly hp hc
      rw [rev_trim hp hc] at hPo
      have hTu := evTurned (l := l2) (by omega)
      have hSm := evSameT (l := l2.reverse) (m := l2.reverse) (by rw [List.length_reverse]; omega) rfl
      -- what comes behind the first two tests
      have rest : ∀ (x10 : List Int) (x11 : Int) (ob : Bool), Ev (fun k => affidavitlaw04_SeriesRight.j2 k p l1 l2 a3 true x10 x11 false) true → Ev (fun k => affidavitlaw04_SeriesRight.j1 k p l1 l2 a3 true x10 x11 l2.reverse 0 (ob != ob)) true := fun x10 x11 ob h => by
        rw [bne_self_]
        exact Ev.step (fun k => affidavitlaw04_SeriesRight.j1.eq_2 ..) (Ev.iteF (by decide) (Ev.iteT rfl (Ev.iteT rfl (Ev.bind hTu (Ev.bind hSm h)))))
      cases hh : hasB (p : Int) l1 with
      | false =>
        rw [hh] at hhas hrhas
        have hOn : Ev (fun k => series_On.f k p l1 l2 a3) ([], 1) := Ev.congr (f := fun k => (series_Right.f k p l2).bind _) (fun k => rfl) (Ev.bind hrule (Ev.iteT rfl (Ev.bind hhas (Ev.iteF (by decide) (Ev.step (fun k => series_On.j0.eq_2 ..) (Ev.iteT rfl (Ev.now _)))))))
        have hOb : Ev (fun k => series_Obeys.f k p l1 l2) false := Ev.congr (f := fun k => (series_Right.f k p l2).bind _) (fun k => rfl) (Ev.bind hrule (Ev.iteT rfl (Ev.bind hhas (Ev.step (fun k => series_Obeys.j0.eq_2 ..) (Ev.iteT rfl (Ev.now _))))))
        have hRo : Ev (fun k => affidavitref04_Obeys.f k p l1 l2) false := Ev.congr (f := fun k => (affidavitref04_Right.f k p l2).bind _) (fun k => rfl) (Ev.bind hrefr (Ev.iteT rfl (Ev.bind hrhas (Ev.step (fun k => affidavitref04_Obeys.j0.eq_2 ..) (Ev.iteT rfl (Ev.now _))))))
        refine Ev.bind hrefr (Ev.bind hOn (Ev.bind hPo (Ev.bind hrule (Ev.iteF (by decide) (Ev.bind hOb (Ev.bind hRo ?_))))))
        refine rest _ _ false (Ev.step (fun k => affidavitlaw04_SeriesRight.j2.eq_2 ..) (Ev.iteF (by decide) (Ev.iteT rfl (Ev.bind hrhas (Ev.iteF (by decide) ?_)))))
        exact bad true (fun _ => hr)
      | true =>
        rw [hh] at hhas hrhas
        obtain ⟨p', nz', e', hp', hl'⟩ := has_in hh n1
        have hl : In p l1 := fun x hx => by have := hl' x hx; omega
        have hOb := evObeys hp hl hc (by omega)
        have hRo := evRefObeys hp hl hc (by omega)
        by_cases g1 : a3 < 0
        · have hOn : Ev (fun k => series_On.f k p l1 l2 a3) ([], 1) := Ev.congr (f := fun k => (series_Right.f k p l2).bind _) (fun k => rfl) (Ev.bind hrule (Ev.iteT rfl (Ev.bind hhas (Ev.iteT rfl (Ev.iteT g1 (Ev.step (fun k => series_On.j0.eq_2 ..) (Ev.iteT rfl (Ev.now _))))))))
          refine Ev.bind hrefr (Ev.bind hOn (Ev.bind hPo (Ev.bind hrule (Ev.iteF (by decide) (Ev.bind hOb (Ev.bind hRo ?_))))))
          refine rest _ _ _ (Ev.step (fun k => affidavitlaw04_SeriesRight.j2.eq_2 ..) (Ev.iteF (by decide) (Ev.iteT rfl (Ev.bind hrhas (Ev.iteT rfl (Ev.iteT g1 ?_))))))
          exact bad true (fun _ => hr)
        · by_cases g2 : a3 > 512
          · have hOn : Ev (fun k => series_On.f k p l1 l2 a3) ([], 1) := Ev.congr (f := fun k => (series_Right.f k p l2).bind _) (fun k => rfl) (Ev.bind hrule (Ev.iteT rfl (Ev.bind hhas (Ev.iteT rfl (Ev.iteF g1 (by
              rw [decide_eq_true g2]
              exact Ev.step (fun k => series_On.j0.eq_2 ..) (Ev.iteT rfl (Ev.now _))))))))
            refine Ev.bind hrefr (Ev.bind hOn (Ev.bind hPo (Ev.bind hrule (Ev.iteF (by decide) (Ev.bind hOb (Ev.bind hRo ?_))))))
            refine rest _ _ _ (Ev.step (fun k => affidavitlaw04_SeriesRight.j2.eq_2 ..) (Ev.iteF (by decide) (Ev.iteT rfl (Ev.bind hrhas (Ev.iteT rfl (Ev.iteF g1 ?_))))))
            rw [decide_eq_true g2]
            exact bad true (fun _ => hr)
          · obtain ⟨m, hm⟩ : ∃ m : Nat, a3 = (m : Int) := ⟨a3.toNat, by omega⟩
            subst hm
            obtain ⟨l, hOn, hG⟩ := evOn hp hl hc (by omega) (m := m) (by omega)
            have hlen := hG.len
            have q1 : (l.length : Int) = wrap64 ((l1.length : Int) + (m : Int)) := by rw [w64_in (by omega) (by omega)]; omega
            have q2 : (0 : Int) ≤ (l1.length : Int) := by omega
            have q3 : (l1.length : Int) ≤ (l.length : Int) := by omega
            have hS2 := evSameT (l := l.take l1.length) (m := l1) (by rw [List.length_take]; omega) hG.beg
            have hH2 := evRefHas (p : Int) (l := l) (by omega)
            rw [in_has hp hG.inr] at hH2
            have hend := right_l0 hp hc hG.inr (by omega) hG.nul (l.length - l1.length) l1.length (Nat.le_refl _) (by omega) rfl
            refine Ev.bind hrefr (Ev.bind hOn (Ev.bind hPo (Ev.bind hrule (Ev.iteF (by decide) (Ev.bind hOb (Ev.bind hRo ?_))))))
            refine rest _ _ _ (Ev.step (fun k => affidavitlaw04_SeriesRight.j2.eq_2 ..) (Ev.iteF (by decide) (Ev.iteT rfl (Ev.bind hrhas (Ev.iteT rfl (Ev.iteF g1 ?_))))))
            rw [decide_eq_false g2]
            refine Ev.step (fun k => affidavitlaw04_SeriesRight.j3.eq_2 ..) (Ev.iteF (by decide) (Ev.iteT rfl (Ev.iteT q1 (Ev.iteT q2 (Ev.iteT q3 ?_)))))
            rw [Int.toNat_natCast]
            refine Ev.bind hS2 (Ev.iteT rfl (Ev.bind hH2 ?_))
            exact Ev.step (fun k => affidavitlaw04_SeriesRight.j4.eq_2 ..) (Ev.iteF (by decide) hend)
  by_cases c3 : a3 > 40
  · refine Ev.iteT c3 ?_
    by_cases c4 : a3 ≤ 512
    · rw [decide_eq_true c4]; exact triv
    · rw [decide_eq_false c4]; exact main (.inr (by omega))
  · exact Ev.iteF c3 (main (.inl (by omega)))
end Go.Proofs.Ytffcjgelcdilcaa.Pure

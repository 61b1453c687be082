/- The reference's rules: which list is one, its sum at a place, and whether a row obeys. Over the printed functions alone; no memory. -/
import Derived.Test.YtffcjgelcdilcaaSerUse
import Derived.Test.YtffcjgelcdilcaaRef
import Derived.Test.YtffcjgelcdilcaaPSerx7
set_option linter.unusedVariables false
set_option linter.unusedSimpArgs false
set_option linter.unusedSectionVars false
namespace Fp
open Classical
open Go.RowKit Go.Proofs.Ytffcjgelcdilcaa.PSer Go.Proofs.YtffcjgelcdilcaaW.PrintWords Go.Proofs.YtffcjgelcdilcaaW.PrintLast Go.Proofs.YtffcjgelcdilcaaW.PrintMore Go.Proofs.Ytffcjgelcdilcaa.Spec Go.Proofs.Ytffcjgelcdilcaa.Sr
theorem evRefRule (q : Int) {c : List Int} (hl : c.length < 4611686018427387904) : Ev (fun k => affidavitref04_Right.f k q c) (ruleB q c) := by
  unfold ruleB
  by_cases h1 : 1 ≤ c.length
  · by_cases h2 : c.length ≤ 257
    · rw [decide_eq_true h1, decide_eq_true h2]
      refine Ev.congr (f := fun k => (affidavitref01_Has.f k q c).bind _) (fun k => by unfold affidavitref04_Right.f; rw [if_pos (by omega), if_pos (by omega)]) (Ev.bind (evRefHas q hl) ?_)
      cases h3 : hasB q c with
      | false => exact Ev.now _
      | true =>
        refine Ev.iteT rfl (Ev.iteT (by omega) ?_)
        rw [show rd c 0 = c.getD 0 0 from rd_nat c 0]
        simp only [Bool.true_and]
        rw [show (c.getD 0 0 == 1) = decide (c.getD 0 0 = 1) from rfl]
        exact Ev.now _
    · rw [decide_eq_false h2]
      exact Ev.congr (fun k => by unfold affidavitref04_Right.f; rw [if_pos (by omega), if_neg (by omega)]) (by rw [Bool.and_false, Bool.false_and, Bool.false_and]; exact Ev.now _)
  · rw [decide_eq_false h1]
    exact Ev.congr (fun k => by unfold affidavitref04_Right.f; rw [if_neg (by omega)]) (by rw [Bool.false_and, Bool.false_and, Bool.false_and]; exact Ev.now _)
section
variable {p : Nat} [NeZero p]
theorem refSum_beyond (hp : Md p) {c s : List Int} {at_ : Nat} (hsl : at_ < 1000000) (hcl : c.length < 1000000) (v : Int) (d : Nat) : ∀ i : Nat, i + d = c.length → at_ < i → Ev (fun k => affidavitref04_Sum.l0 k p s c (at_ : Int) v (i : Int)) v := by
  induction d with
  | zero =>
    intro i hi hat
    exact Ev.step (fun k => affidavitref04_Sum.l0.eq_2 ..) (Ev.iteF (by omega) (Ev.now _))
  | succ d ih =>
    intro i hi hat
    have b1 : (i : Int) < (c.length : Int) := by omega
    have b2 : ¬ wrap64 ((at_ : Int) - i) ≥ 0 := by rw [w64_in (by omega) (by omega)]; omega
    have h := ih (i + 1) (by omega) (by omega)
    have e2 : wrap64 ((i : Int) + 1) = ((i + 1 : Nat) : Int) := by rw [w64_in (by omega) (by omega)]; omega
    refine Ev.step (fun k => affidavitref04_Sum.l0.eq_2 ..) (Ev.iteT b1 (Ev.iteF b2 ?_))
    rw [e2]
    exact h
theorem refSum_l0 (hp : Md p) {c s : List Int} (hc : In p c) (hs : In p s) {at_ : Nat} (hat : at_ < s.length) (hsl : s.length < 1000000) (hcl : c.length < 1000000) (d : Nat) :
    ∀ i : Nat, i + d = min c.length (at_ + 1) → Ev (fun k => affidavitref04_Sum.l0 k p s c (at_ : Int) ((sbeg c s i at_ : Fin p).val : Int) (i : Int)) ((sbeg c s (min c.length (at_ + 1)) at_ : Fin p).val : Int) := by
  induction d with
  | zero =>
    intro i hi
    rw [Nat.add_zero] at hi
    by_cases h1 : i < c.length
    · rw [← hi]
      exact refSum_beyond hp (by omega) hcl _ (c.length - i) i (by omega) (by omega)
    · rw [← hi]
      exact Ev.step (fun k => affidavitref04_Sum.l0.eq_2 ..) (Ev.iteF (by omega) (Ev.now _))
  | succ d ih =>
    intro i hi
    have b1 : (i : Int) < (c.length : Int) := by omega
    have b2 : (0 : Int) ≤ (i : Int) := by omega
    have b3 : ((at_ - i : Nat) : Int) ≥ 0 := by omega
    have b4 : ((at_ - i : Nat) : Int) < (s.length : Int) := by omega
    have h1 := hc.get i
    have h2 := hs.get (at_ - i)
    have hv : 0 ≤ ((sbeg c s i at_ : Fin p).val : Int) ∧ ((sbeg c s i at_ : Fin p).val : Int) < p := ⟨by omega, by have := (sbeg c s i at_ : Fin p).isLt; omega⟩
    have hm := emod_range (p := p) (c.getD i 0 * s.getD (at_ - i) 0)
    have e3 : (((sbeg c s i at_ : Fin p).val : Int) + c.getD i 0 * s.getD (at_ - i) 0 % p) % p = ((sbeg c s (i + 1) at_ : Fin p).val : Int) := by
      refine toF_inj (p := p) (emod_range _) ⟨by omega, by have := (sbeg c s (i + 1) at_ : Fin p).isLt; omega⟩ ?_
      rw [toF_add hv.1 hm.1, toF_of_val, toF_mul h1.1 h2.1, toF_of_val]
      unfold sbeg
      rw [sm_succ]
      rfl
    have h5 := ih (i + 1) (by omega)
    have e12 : wrap64 ((at_ : Int) - i) = ((at_ - i : Nat) : Int) ∧ wrap64 ((i : Int) + 1) = ((i + 1 : Nat) : Int) := ⟨by rw [w64_in (by omega) (by omega)]; omega, by rw [w64_in (by omega) (by omega)]; omega⟩
    refine Ev.step (fun k => affidavitref04_Sum.l0.eq_2 ..) (Ev.iteT b1 ?_)
    rw [e12.1, e12.2, rd_nat, rd_nat]
    refine Ev.iteT b3 (Ev.iteT b2 (Ev.iteT b3 (Ev.iteT b4 (Ev.bind (a := c.getD i 0 * s.getD (at_ - i) 0 % p) ⟨65, fun k hk => refMul hp h1 h2 hk⟩ (Ev.bind (a := (((sbeg c s i at_ : Fin p).val : Int) + c.getD i 0 * s.getD (at_ - i) 0 % p) % p) (Ev.congr (f := fun _ => some _) (fun k => refAdd hp hv hm) (Ev.now _)) ?_)))))
    rw [e3]
    exact h5
/-- The reference's sum of a rule at a place. -/
theorem evRefSum (hp : Md p) {c s : List Int} (hc : In p c) (hs : In p s) {at_ : Nat} (hat : at_ < s.length) (hsl : s.length < 1000000) (hcl : c.length < 1000000) :
    Ev (fun k => affidavitref04_Sum.f k p s c (at_ : Int)) ((cv (row c) (row s) at_ : Fin p).val : Int) := by
  rw [← sbeg_all]
  have h := refSum_l0 hp hc hs hat hsl hcl (min c.length (at_ + 1)) 0 (by omega)
  rw [show ((sbeg c s 0 at_ : Fin p).val : Int) = 0 from rfl] at h
  exact h
theorem obeysB_step {s c : List Int} {i : Nat} (hi : i < s.length) (h : (cv (row c) (row s) i : Fin p) = 0) : obeysB p s c i = obeysB p s c (i + 1) := by
  unfold obeysB
  by_cases h2 : ∀ j, i + 1 ≤ j → j < s.length → (cv (row c) (row s) j : Fin p) = 0
  · rw [decide_eq_true h2, decide_eq_true (fun j h3 h4 => by
      by_cases e : j = i
      · rw [e]; exact h
      · exact h2 j (by omega) h4)]
  · rw [decide_eq_false h2, decide_eq_false (fun h3 => h2 fun j h4 h5 => h3 j (by omega) h5)]
theorem refObeys_l0 (hp : Md p) {s c : List Int} (hs : In p s) (hc : In p c) (hsl : s.length < 100000) (hcl : c.length < 100000) (d : Nat) : ∀ i : Nat, d = s.length - i → i < 100000 → Ev (fun k => affidavitref04_Obeys.l0 k p s c (i : Int)) (obeysB p s c (max i (c.length - 1))) := by
  induction d with
  | zero =>
    intro i hd hi
    refine Ev.step (fun k => affidavitref04_Obeys.l0.eq_2 ..) (Ev.iteF (by omega) ?_)
    unfold obeysB
    rw [decide_eq_true (fun j h1 h2 => absurd h2 (by omega))]
    exact Ev.now _
  | succ d ih =>
    intro i hd hi
    have b1 : (i : Int) < (s.length : Int) := by omega
    have h5 := ih (i + 1) (by omega) (by omega)
    have hsum := fun h : i < s.length => evRefSum hp hc hs h (by omega) (by omega)
    have hi' : i < s.length := by omega
    have bm : c.length ≤ i + 1 → max i (c.length - 1) = i ∧ max (i + 1) (c.length - 1) = i + 1 := fun h => by omega
    have bm2 : ¬ c.length ≤ i + 1 → max i (c.length - 1) = max (i + 1) (c.length - 1) := fun h => by omega
    have bc : c.length ≤ i + 1 → ((i + 1 : Nat) : Int) ≥ (c.length : Int) := fun h => by omega
    have bc2 : ¬ c.length ≤ i + 1 → ¬ ((i + 1 : Nat) : Int) ≥ (c.length : Int) := fun h => by omega
    have e3 : wrap64 ((i : Int) + 1) = ((i + 1 : Nat) : Int) := by rw [w64_in (by omega) (by omega)]; omega
    refine Ev.step (fun k => affidavitref04_Obeys.l0.eq_2 ..) (Ev.iteT b1 ?_)
    rw [e3]
    by_cases hc1 : c.length ≤ i + 1
    · refine Ev.iteT (bc hc1) (Ev.bind (hsum hi') ?_)
      rw [(bm hc1).1]
      rw [(bm hc1).2] at h5
      by_cases h : (cv (row c) (row s) i : Fin p) = 0
      · refine Ev.iteT (val_zero_iff.2 h) ?_
        rw [obeysB_step hi' h]
        exact h5
      · refine Ev.iteF (fun e => h (val_zero_iff.1 e)) ?_
        unfold obeysB
        rw [decide_eq_false (fun h2 => h (h2 i (Nat.le_refl _) hi'))]
        exact Ev.now _
    · refine Ev.iteF (bc2 hc1) ?_
      rw [bm2 hc1]
      exact h5
/-- The reference's Obeys of a rule and a row in range. -/
theorem evRefObeys (hp : Md p) {s c : List Int} (hs : In p s) (hc : IsRule p c) (hsl : s.length < 100000) : Ev (fun k => affidavitref04_Obeys.f k p s c) (obeysB p s c (c.length - 1)) := by
  have hh := evRefHas (p : Int) (l := s) (by omega)
  rw [in_has hp hs] at hh
  have h1 := hc.pos
  have h2 := hc.most
  have hr := evRefRule (p : Int) (c := c) (by omega)
  rw [is_rule hp hc] at hr
  have h5 := refObeys_l0 hp hs hc.inr hsl (by omega) s.length 0 (by omega) (by omega)
  rw [show max 0 (c.length - 1) = c.length - 1 from by omega] at h5
  exact Ev.congr (f := fun k => (affidavitref04_Right.f k p c).bind _) (fun k => rfl) (Ev.bind hr (Ev.iteT rfl (Ev.bind hh (Ev.step (fun k => affidavitref04_Obeys.j0.eq_2 ..) (Ev.iteF (by simp) h5)))))
end
end Fp

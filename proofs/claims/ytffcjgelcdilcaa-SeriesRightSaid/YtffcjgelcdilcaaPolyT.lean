/- What the polynomials' calls tell, told of polynomials: right ones alone, each as the list of its numbers. No memory. -/
import Derived.Test.YtffcjgelcdilcaaPolyS
import Derived.Test.YtffcjgelcdilcaaPSerx5
import Derived.Test.YtffcjgelcdilcaaPSerx14
import Derived.Test.YtffcjgelcdilcaaPSerx13
set_option linter.unusedVariables false
set_option linter.unusedSimpArgs false
set_option linter.unusedSectionVars false
namespace Go.Proofs.Ytffcjgelcdilcaa.Spec
open Go.RowKit Go.Proofs.Ytffcjgelcdilcaa.PSer Go.Proofs.YtffcjgelcdilcaaW.PrintWords Go.Proofs.YtffcjgelcdilcaaW.PrintLast Go.Proofs.YtffcjgelcdilcaaW.PrintMore Fp

/-- Are these a polynomial's numbers, modulo a number that may be? -/
def rightB (p : Int) (l : List Int) : Bool := decide (l.length ≤ 512) && (hasB p l && (decide (l.length = 0) || decide (l.getD (l.length - 1) 0 ≠ 0)))
theorem evRight (p : Int) (l : List Int) : Ev (fun k => poly_Right.f k p l) (rightB p l) := by
  by_cases c : (l.length : Int) ≤ 512
  · have hH : Ev (fun k => field_Has.f k p l) (hasB p l) := ⟨l.length + 1, fun k hk => has_spec (by omega) (by omega)⟩
    refine Ev.congr (f := fun k => (field_Has.f k p l).bind _) (fun k => by unfold poly_Right.f; rw [if_pos c]) (Ev.bind hH ?_)
    unfold rightB
    rw [decide_eq_true (by omega : l.length ≤ 512), Bool.true_and]
    cases hb : hasB p l with
    | false => exact Ev.now _
    | true =>
      rw [Bool.true_and]
      simp only [if_true]
      by_cases c0 : (l.length : Int) = 0
      · rw [if_pos c0, decide_eq_true (by omega), Bool.true_or]
        exact Ev.now _
      · rw [if_neg c0, decide_eq_false (by omega), Bool.false_or, w64_in (by omega) (by omega), if_pos (by omega), if_pos (by omega)]
        have e : (l.length : Int) - 1 = ((l.length - 1 : Nat) : Int) := by omega
        rw [e, rd_nat]
        by_cases c1 : l.getD (l.length - 1) 0 = 0
        · rw [c1]
          exact Ev.now _
        · rw [decide_eq_true c1, bne_iff_ne.2 c1]
          exact Ev.now _
  · refine Ev.congr (f := fun k => some false) (fun k => by unfold poly_Right.f; rw [if_neg c]) ?_
    unfold rightB
    rw [decide_eq_false (by omega), Bool.false_and]
    exact Ev.now _

section
variable {p : Nat} [NeZero p]
theorem right_toL (hp : Md p) {A : Pl p} (h : Pl.sz A ≤ 512) : rightB p (toL A) = true := by
  unfold rightB hasB
  rw [length_toL, decide_eq_true h, hp.ok, Bool.true_and, Bool.and_true, Bool.and_eq_true]
  refine ⟨List.all_eq_true.2 fun x hx => decide_eq_true (In_toL A x hx).2, ?_⟩
  rcases Tr_toL A with e | e
  · have : Pl.sz A = 0 := by rw [← length_toL, e]; rfl
    rw [decide_eq_true this, Bool.true_or]
  · rw [length_toL] at e
    rw [decide_eq_true e, Bool.or_true]
theorem evRightL (hp : Md p) {A : Pl p} (h : Pl.sz A ≤ 512) : Ev (fun k => poly_Right.f k p (toL A)) true := by
  rw [← right_toL hp h]
  exact evRight _ _
theorem evBothL (hp : Md p) {A B : Pl p} (hA : Pl.sz A ≤ 512) (hB : Pl.sz B ≤ 512) : Ev (fun k => poly_both.f k p (toL A) (toL B)) true := by
  refine Ev.congr (f := fun k => (poly_Right.f k p (toL A)).bind _) (fun k => rfl) (Ev.bind (evRightL hp hA) ?_)
  simp only [if_true]
  exact Ev.bind (evRightL hp hB) (Ev.now _)
end
/-- A right list is a polynomial's. -/
theorem right_poly {q : Int} {l : List Int} (h : rightB q l = true) (h0 : ∀ x ∈ l, 0 ≤ x) : ∃ (p : Nat) (_ : NeZero p), q = p ∧ Md p ∧ ∃ A : Pl p, l = toL A ∧ Pl.sz A ≤ 512 := by
  unfold rightB hasB at h
  simp only [Bool.and_eq_true, Bool.or_eq_true, decide_eq_true_eq, List.all_eq_true] at h
  obtain ⟨h1, ⟨h2, h3⟩, h4⟩ := h
  obtain ⟨p, rfl, hp⟩ := okB_md h3
  have nz := hp.nz
  have hin : In p l := fun x hx => ⟨h0 x hx, h2 x hx⟩
  have ht : Tr l := by
    rcases h4 with h4 | h4
    · exact .inl (List.eq_nil_of_length_eq_zero h4)
    · exact .inr h4
  exact ⟨p, nz, rfl, hp, toP l, (toL_toP hin ht).symm, by rw [sz_toP hin ht]; exact h1⟩
theorem right_poly' {p : Nat} [NeZero p] {l : List Int} (h : rightB p l = true) (h0 : ∀ x ∈ l, 0 ≤ x) : ∃ A : Pl p, l = toL A ∧ Pl.sz A ≤ 512 := by
  unfold rightB hasB at h
  simp only [Bool.and_eq_true, Bool.or_eq_true, decide_eq_true_eq, List.all_eq_true] at h
  obtain ⟨h1, ⟨h2, h3⟩, h4⟩ := h
  have hin : In p l := fun x hx => ⟨h0 x hx, h2 x hx⟩
  have ht : Tr l := by
    rcases h4 with h4 | h4
    · exact .inl (List.eq_nil_of_length_eq_zero h4)
    · exact .inr h4
  exact ⟨toP l, (toL_toP hin ht).symm, by rw [sz_toP hin ht]; exact h1⟩
theorem right_false {q : Int} {l : List Int} (h : rightB q l = true) : okB q = true := by
  unfold rightB hasB at h
  simp only [Bool.and_eq_true] at h
  exact h.2.1.2

section
variable {p : Nat} [NeZero p]
theorem toL_inj {A B : Pl p} : toL A = toL B ↔ A = B := ⟨fun h => by rw [← toP_toL A, h, toP_toL], fun h => by rw [h]⟩
/-- A number's inverse, where it has one. -/
theorem evInvL (hp : Md p) {x : Int} (hx : 0 ≤ x ∧ x < p) (hi : ∃ b : Fin p, toF x * b = 1) : ∃ c : Int, (0 ≤ c ∧ c < p) ∧ toF x * toF c = (1 : Fin p) ∧ Ev (fun k => field_Inv.f k p x) (c, 0) := by
  have h1v : ((1 : Fin p).val : Int) = 1 := by
    have := hp.1
    have h : (1 : Fin p).val = 1 % p := rfl
    rw [h, Nat.mod_eq_of_lt (by omega)]
    rfl
  obtain ⟨c, e, hev, h | h⟩ := inv_spec hp.1 hp.2 hx.1 hx.2
  · obtain ⟨rfl, h1, h2, h3⟩ := h
    refine ⟨c, ⟨h1, h2⟩, ?_, hev⟩
    rw [← toF_mul hx.1 h1, h3]
    rfl
  · obtain ⟨rfl, rfl, h3⟩ := h
    obtain ⟨b, hb⟩ := hi
    exfalso
    apply h3 b.val
    have hb2 : toF (b.val : Int) = b := toF_of_val b
    rw [← hb2, ← toF_mul hx.1 (by omega)] at hb
    have h4 := toF_val (p := p) (emod_range (p := p) (x * (b.val : Int))).1 (emod_range (p := p) (x * (b.val : Int))).2
    rw [hb, h1v] at h4
    exact h4.symm
theorem top_toL (A : Pl p) : (toL A).getD ((toL A).length - 1) 0 = ((Pl.top A).val : Int) := by
  rw [toL_get, length_toL]
  rfl
/-- A quotient and a rest, where the divisor's greatest number has an inverse. -/
theorem evDivL (hp : Md p) {A B : Pl p} (hA : Pl.sz A ≤ 512) (hB : Pl.sz B ≤ 512) (hB0 : B ≠ 0) (hi : ∃ b : Fin p, Pl.top B * b = 1) :
    ∃ q r : Pl p, A = q * B + r ∧ Pl.sz r < Pl.sz B ∧ Ev (fun k => poly_Div.f k p (toL A) (toL B)) (toL q, toL r, 0) := by
  have hBs := Pl.sz_pos hB0
  have ht : (toL B).getD ((toL B).length - 1) 0 = ((Pl.top B).val : Int) := top_toL B
  have hrange : 0 ≤ ((Pl.top B).val : Int) ∧ ((Pl.top B).val : Int) < p := ⟨by omega, by have := (Pl.top B).isLt; omega⟩
  obtain ⟨c, hc, hinv, hev⟩ := evInvL hp hrange (by rw [toF_of_val]; exact hi)
  have hne : toL B ≠ [] := fun e => by have := length_toL B; rw [e] at this; simp at this; omega
  obtain ⟨q, r, h1, h2, h3⟩ := evOver hp (In_toL A) (In_toL B) (by rw [length_toL]; omega) (by rw [length_toL]; omega) hc (by rw [ht]; exact hinv) hne
  rw [toP_toL, toP_toL] at h1
  rw [length_toL] at h2
  refine ⟨q, r, h1, h2, ?_⟩
  refine Ev.congr (f := fun k => (poly_both.f k p (toL A) (toL B)).bind _) (fun k => rfl) (Ev.bind (evBothL hp hA hB) ?_)
  simp only [if_true]
  rw [length_toL] at ht ⊢
  have e : wrap64 ((Pl.sz B : Int) - 1) = ((Pl.sz B - 1 : Nat) : Int) := by rw [w64_in (by omega) (by omega)]; omega
  simp only [if_neg (show ¬ ((Pl.sz B : Int) = 0) by omega), e, if_pos (show (0 : Int) ≤ ((Pl.sz B - 1 : Nat) : Int) by omega), if_pos (show ((Pl.sz B - 1 : Nat) : Int) < (Pl.sz B : Int) by omega), rd_nat, ht]
  refine Ev.bind hev ?_
  simp only [if_true]
  exact Ev.bind h3 (Ev.now _)
theorem evDiv0 (hp : Md p) {A : Pl p} (hA : Pl.sz A ≤ 512) : Ev (fun k => poly_Div.f k p (toL A) []) ([], [], 5) := by
  have h := evBothL hp hA (B := (0 : Pl p)) (by rw [Pl.sz_zero]; omega)
  rw [toL_zero] at h
  refine Ev.congr (f := fun k => (poly_both.f k p (toL A) []).bind _) (fun k => rfl) (Ev.bind h ?_)
  simp only [if_true]
  exact Ev.now _
end

/-! ### Are two lists the same? -/
theorem same_l0 {l m : List Int} (hl : l.length < 4611686018427387904) (h : l.length = m.length) (d : Nat) : ∀ k i : Nat, i + d = l.length → d < k → affidavitref01_Same.l0 k l m (i : Int) = some (decide (l.drop i = m.drop i)) := by
  induction d with
  | zero =>
    intro k i hi hk
    cases k with
    | zero => omega
    | succ k =>
      unfold affidavitref01_Same.l0
      rw [if_neg (by omega), List.drop_of_length_le (by omega), List.drop_of_length_le (by omega)]
      rfl
  | succ d ih =>
    intro k i hi hk
    cases k with
    | zero => omega
    | succ k =>
      unfold affidavitref01_Same.l0
      have h1 : i < l.length := by omega
      have h2 : i < m.length := by omega
      have e1 := List.drop_eq_getElem_cons h1
      have e2 := List.drop_eq_getElem_cons h2
      rw [if_pos (by omega), if_pos (by omega), if_pos (by omega), rd_lt h1, rd_lt h2]
      by_cases c : l[i] = m[i]
      · rw [if_pos c, w64_in (by omega) (by omega)]
        have e : (i : Int) + 1 = ((i + 1 : Nat) : Int) := by omega
        rw [e, ih k (i + 1) (by omega) (by omega), e1, e2, c]
        exact congrArg some (decide_eq_decide.2 ⟨fun h => by rw [h], fun h => (List.cons.inj h).2⟩)
      · rw [if_neg c, e1, e2]
        exact congrArg some (decide_eq_false fun h => c (List.cons.inj h).1).symm
theorem evSame {l m : List Int} (hl : l.length < 4611686018427387904) : Ev (fun k => affidavitref01_Same.f k l m) (decide (l = m)) := by
  refine ⟨l.length + 1, fun k hk => ?_⟩
  show affidavitref01_Same.f k l m = _
  unfold affidavitref01_Same.f
  by_cases c : (l.length : Int) = (m.length : Int)
  · rw [if_pos c]
    exact same_l0 hl (by omega) l.length k 0 (by omega) (by omega)
  · rw [if_neg c, decide_eq_false]
    rintro rfl
    exact c rfl
theorem evSameT {l m : List Int} (hl : l.length < 4611686018427387904) (h : l = m) : Ev (fun k => affidavitref01_Same.f k l m) true := by
  have := evSame (m := m) hl
  rwa [decide_eq_true h] at this
end Go.Proofs.Ytffcjgelcdilcaa.Spec

/- What the polynomials' calls tell, told of polynomials: right ones alone, each as the list of its numbers. No memory. -/
import Derived.Test.YtffcjgelcdilcaaPolyS
import Derived.Test.YtffcjgelcdilcaaPSerx5
set_option linter.unusedVariables false
set_option linter.unusedSimpArgs false
set_option linter.unusedSectionVars false
namespace Go.Proofs.Ytffcjgelcdilcaa.Spec
open Go.RowKit Go.Proofs.Ytffcjgelcdilcaa.PSer Go.Proofs.YtffcjgelcdilcaaW.PrintWords Go.Proofs.YtffcjgelcdilcaaW.PrintLast Go.Proofs.YtffcjgelcdilcaaW.PrintMore Fp

/-- Are these a polynomial's numbers, modulo a number that may be? -/
def rightB (p : Int) (l : List Int) : Bool := decide (l.length ≤ 512) && (hasB p l && (decide (l.length = 0) || decide (l.getD (l.length - 1) 0 ≠ 0)))
section
variable {p : Nat} [NeZero p]
theorem right_toL (hp : Md p) {A : Pl p} (h : Pl.sz A ≤ 512) : rightB p (toL A) = true := by
  unfold rightB hasB
  rw [length_toL, decide_eq_true h, hp.ok, Bool.true_and, Bool.and_true, Bool.and_eq_true]
  refine ⟨List.all_eq_true.2 fun x hx => decide_eq_true (In_toL A x hx).2, ?_⟩
  rcases Tr_toL A with e | e
  · have : Pl.sz A = 0 := by rw [← length_toL, e]; rfl
    rw [decide_eq_true this, Bool.true_or]
  · rw [length_toL] at e
    rw [decide_eq_true e, Bool.or_true]
end
/-- A right list is a polynomial's. -/
theorem right_poly {q : Int} {l : List Int} (h : rightB q l = true) (h0 : ∀ x ∈ l, 0 ≤ x) : ∃ (p : Nat) (_ : NeZero p), q = p ∧ Md p ∧ ∃ A : Pl p, l = toL A ∧ Pl.sz A ≤ 512 := by
  unfold rightB hasB at h
  simp only [Bool.and_eq_true, Bool.or_eq_true, decide_eq_true_eq, List.all_eq_true] at h
  obtain ⟨h1, ⟨h2, h3⟩, h4⟩ := h
  obtain ⟨p, rfl, hp⟩ := okB_md h3
  have nz := hp.nz
  have hin : In p l := fun x hx => ⟨h0 x hx, h2 x hx⟩
  have ht : Tr l := by
    rcases h4 with h4 | h4
    · exact .inl (List.eq_nil_of_length_eq_zero h4)
    · exact .inr h4
  exact ⟨p, nz, rfl, hp, toP l, (toL_toP hin ht).symm, by rw [sz_toP hin ht]; exact h1⟩
theorem right_poly' {p : Nat} [NeZero p] {l : List Int} (h : rightB p l = true) (h0 : ∀ x ∈ l, 0 ≤ x) : ∃ A : Pl p, l = toL A ∧ Pl.sz A ≤ 512 := by
  unfold rightB hasB at h
  simp only [Bool.and_eq_true, Bool.or_eq_true, decide_eq_true_eq, List.all_eq_true] at h
  obtain ⟨h1, ⟨h2, h3⟩, h4⟩ := h
  have hin : In p l := fun x hx => ⟨h0 x hx, h2 x hx⟩
  have ht : Tr l := by
    rcases h4 with h4 | h4
    · exact .inl (List.eq_nil_of_length_eq_zero h4)
    · exact .inr h4
  exact ⟨toP l, (toL_toP hin ht).symm, by rw [sz_toP hin ht]; exact h1⟩
theorem right_false {q : Int} {l : List Int} (h : rightB q l = true) : okB q = true := by
  unfold rightB hasB at h
  simp only [Bool.and_eq_true] at h
  exact h.2.1.2

section
variable {p : Nat} [NeZero p]
theorem toL_inj {A B : Pl p} : toL A = toL B ↔ A = B := ⟨fun h => by rw [← toP_toL A, h, toP_toL], fun h => by rw [h]⟩
theorem top_toL (A : Pl p) : (toL A).getD ((toL A).length - 1) 0 = ((Pl.top A).val : Int) := by
  rw [toL_get, length_toL]
  rfl
end

/-! ### Are two lists the same? -/
theorem same_l0 {l m : List Int} (hl : l.length < 4611686018427387904) (h : l.length = m.length) (d : Nat) : ∀ k i : Nat, i + d = l.length → d < k → affidavitref01_Same.l0 k l m (i : Int) = some (decide (l.drop i = m.drop i)) := by
  induction d with
  | zero =>
    intro k i hi hk
    cases k with
    | zero => omega
    | succ k =>
      unfold affidavitref01_Same.l0
      rw [if_neg (by omega), List.drop_of_length_le (by omega), List.drop_of_length_le (by omega)]
      rfl
  | succ d ih =>
    intro k i hi hk
    cases k with
    | zero => omega
    | succ k =>
      unfold affidavitref01_Same.l0
      have h1 : i < l.length := by omega
      have h2 : i < m.length := by omega
      have e1 := List.drop_eq_getElem_cons h1
      have e2 := List.drop_eq_getElem_cons h2
      rw [if_pos (by omega), if_pos (by omega), if_pos (by omega), rd_lt h1, rd_lt h2]
      by_cases c : l[i] = m[i]
      · rw [if_pos c, w64_in (by omega) (by omega)]
        have e : (i : Int) + 1 = ((i + 1 : Nat) : Int) := by omega
        rw [e, ih k (i + 1) (by omega) (by omega), e1, e2, c]
        exact congrArg some (decide_eq_decide.2 ⟨fun h => by rw [h], fun h => (List.cons.inj h).2⟩)
      · rw [if_neg c, e1, e2]
        exact congrArg some (decide_eq_false fun h => c (List.cons.inj h).1).symm
theorem evSame {l m : List Int} (hl : l.length < 4611686018427387904) : Ev (fun k => affidavitref01_Same.f k l m) (decide (l = m)) := by
  refine ⟨l.length + 1, fun k hk => ?_⟩
  show affidavitref01_Same.f k l m = _
  unfold affidavitref01_Same.f
  by_cases c : (l.length : Int) = (m.length : Int)
  · rw [if_pos c]
    exact same_l0 hl (by omega) l.length k 0 (by omega) (by omega)
  · rw [if_neg c, decide_eq_false]
    rintro rfl
    exact c rfl
theorem evSameT {l m : List Int} (hl : l.length < 4611686018427387904) (h : l = m) : Ev (fun k => affidavitref01_Same.f k l m) true := by
  have := evSame (m := m) hl
  rwa [decide_eq_true h] at this
end Go.Proofs.Ytffcjgelcdilcaa.Spec

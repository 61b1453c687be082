/- Small words for the laws. What the polynomials' numbers at a place, and monic ones, tell; which numbers the laws take for primes. No memory. The fixed answers that chapter 03's laws begin with. No memory. -/
import Derived.Test.YtffcjgelcdilcaaPAllx1
import Derived.Test.YtffcjgelcdilcaaPolyT
import Derived.Test.YtffcjgelcdilcaaSmall
import Derived.Test.YtffcjgelcdilcaaPrime
import Derived.Test.YtffcjgelcdilcaaEval
import Derived.Test.YtffcjgelcdilcaaPl
import Derived.Test.YtffcjgelcdilcaaPAllx4
import Derived.Test.YtffcjgelcdilcaaPAllx9

set_option linter.unusedSectionVars false
namespace Go.Proofs.Ytffcjgelcdilcaa.Spec
open Go.RowKit Go.Proofs.Ytffcjgelcdilcaa.PAll Go.Proofs.YtffcjgelcdilcaaW.PrintWords Go.Proofs.YtffcjgelcdilcaaW.PrintLast Go.Proofs.YtffcjgelcdilcaaW.PrintMore Fp

section
variable {p : Nat} [NeZero p]
theorem hor_toP (hp : Md p) {x : Int} (hx : 0 ≤ x ∧ x < p) : ∀ l : List Int, In p l → (0 ≤ Rf.hor p x l ∧ Rf.hor p x l < p) ∧ (toF (Rf.hor p x l) : Fin p) = Pl.ev (toP l) (toF x)
  | [], _ => by
    refine ⟨⟨Int.le_refl _, by have := hp.1; show (0 : Int) < p; omega⟩, ?_⟩
    rw [toP_nil, Pl.ev_zero]
    rfl
  | y :: l, h => by
    obtain ⟨⟨h0, h1⟩, h2⟩ := hor_toP hp hx l (fun z hz => h z (List.mem_cons_of_mem _ hz))
    have hy := h y List.mem_cons_self
    have e : Rf.hor p x (y :: l) = (Rf.hor p x l * x % p + y) % p := rfl
    refine ⟨by rw [e]; exact emod_range _, ?_⟩
    have hP : (toP (y :: l) : Pl p) = Pl.T 1 1 * toP l + Pl.C (toF y) := Pl.ext fun i => by
      rw [Pl.add_at, Pl.T_mul_at, Pl.C_at, toP_at]
      cases i with
      | zero => rw [if_neg (by omega), if_pos rfl]; simp
      | succ i => rw [if_pos (by omega), if_neg (by omega), Nat.add_sub_cancel, toP_at]; simp; grind
    have hm := emod_range (p := p) (Rf.hor p x l * x)
    rw [e, toF_add hm.1 hy.1, toF_mul h0 hx.1, h2, hP, Pl.ev_add, Pl.ev_mul, Pl.ev_C, Pl.ev_T1]
    grind
theorem evEvalL (hp : Md p) {A : Pl p} (hA : Pl.sz A ≤ 512) {x : Int} (hx : 0 ≤ x ∧ x < p) : Ev (fun k => poly_Eval.f k p (toL A) x) (((Pl.ev A (toF x)).val : Int), 0) := by
  have hh := hor_toP hp hx (toL A) (In_toL A)
  rw [toP_toL] at hh
  have hv : Rf.hor p x (toL A) = ((Pl.ev A (toF x)).val : Int) := by rw [← hh.2, toF_val hh.1.1 hh.1.2]
  have hHas : Ev (fun k => field_Has.f k p [x]) true := ⟨2, fun k hk => by show field_Has.f k p [x] = _; rw [has_one hk, decide_eq_true hx.2, hp.ok]; rfl⟩
  refine Ev.congr (f := fun k => (poly_Right.f k p (toL A)).bind _) (fun k => rfl) (Ev.bind (evRightL hp hA) ?_)
  simp only [if_true]
  refine Ev.bind hHas ?_
  have hc : ((toL A).all (fun y => decide (0 ≤ y)) && decide (0 ≤ x)) = true := by
    rw [Bool.and_eq_true]
    exact ⟨List.all_eq_true.2 fun y hy => decide_eq_true (In_toL A y hy).1, decide_eq_true hx.1⟩
  simp only [if_true, hc, hv]
  exact Ev.now _
theorem evMonicL (hp : Md p) {A : Pl p} (hA : Pl.sz A ≤ 512) (hA0 : A ≠ 0) (hi : ∃ b : Fin p, Pl.top A * b = 1) :
    ∃ c : Fin p, Pl.top A * c = 1 ∧ Ev (fun k => poly_Monic.f k p (toL A)) (toL (Pl.C c * A), 0) := by
  have hAs := Pl.sz_pos hA0
  have ht : (toL A).getD ((toL A).length - 1) 0 = ((Pl.top A).val : Int) := top_toL A
  have hrange : 0 ≤ ((Pl.top A).val : Int) ∧ ((Pl.top A).val : Int) < p := ⟨by omega, by have := (Pl.top A).isLt; omega⟩
  obtain ⟨c, hc, hinv, hev⟩ := evInvL hp hrange (by rw [toF_of_val]; exact hi)
  rw [toF_of_val] at hinv
  refine ⟨toF c, hinv, ?_⟩
  refine Ev.congr (f := fun k => (poly_Right.f k p (toL A)).bind _) (fun k => rfl) (Ev.bind (evRightL hp hA) ?_)
  simp only [if_true]
  rw [length_toL] at ht ⊢
  have e : wrap64 ((Pl.sz A : Int) - 1) = ((Pl.sz A - 1 : Nat) : Int) := by rw [w64_in (by omega) (by omega)]; omega
  simp only [if_neg (show ¬ ((Pl.sz A : Int) = 0) by omega), e, if_pos (show (0 : Int) ≤ ((Pl.sz A - 1 : Nat) : Int) by omega), if_pos (show ((Pl.sz A - 1 : Nat) : Int) < (Pl.sz A : Int) by omega), rd_nat, ht]
  refine Ev.bind hev ?_
  simp only [if_true]
  exact Ev.bind (evScaledL hp hc (by omega)) (Ev.now _)
theorem evMonic0 (hp : Md p) : Ev (fun k => poly_Monic.f k p []) ([], 0) := by
  have h := evRightL hp (A := (0 : Pl p)) (by rw [Pl.sz_zero]; omega)
  rw [toL_zero] at h
  refine Ev.congr (f := fun k => (poly_Right.f k p []).bind _) (fun k => rfl) (Ev.bind h ?_)
  simp only [if_true]
  exact Ev.now _
end

end Go.Proofs.Ytffcjgelcdilcaa.Spec

namespace Go.Proofs.Ytffcjgelcdilcaa.Spec
open Go.RowKit Go.Proofs.Ytffcjgelcdilcaa.PAll Go.Proofs.YtffcjgelcdilcaaW.PrintWords Go.Proofs.YtffcjgelcdilcaaW.PrintLast Go.Proofs.YtffcjgelcdilcaaW.PrintMore
theorem awake_now : affidavitlaw03_awake.f 40 = some true := by decide +kernel
theorem evAwake : Ev (fun k => affidavitlaw03_awake.f k) true := Ev.of affidavitlaw03_awake.mono awake_now
end Go.Proofs.Ytffcjgelcdilcaa.Spec

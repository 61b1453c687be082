/- Small words for the laws. What the polynomials' numbers at a place, and monic ones, tell; which numbers the laws take for primes. No memory. The fixed answers that chapter 03's laws begin with. No memory. -/
import Derived.Test.YtffcjgelcdilcaaPAllx1
import Derived.Test.YtffcjgelcdilcaaPolyT
import Derived.Test.YtffcjgelcdilcaaEval
import Derived.Test.YtffcjgelcdilcaaPl
import Derived.Test.YtffcjgelcdilcaaPAllx4
import Derived.Test.YtffcjgelcdilcaaPAllx9
set_option linter.unusedVariables false
set_option linter.unusedSimpArgs false
set_option linter.unusedSectionVars false
namespace Go.Proofs.Ytffcjgelcdilcaa.Spec
open Go.RowKit Go.Proofs.YtffcjgelcdilcaaW.PrintWords
theorem wf0 {x : Int} (h : (Lit.int .u64 x).wf = true) : 0 ≤ x := by
  have h1 : (decide (IntKind.u64.min ≤ x) && decide (x ≤ IntKind.u64.max)) = true := h
  rw [Bool.and_eq_true, decide_eq_true_eq] at h1
  have h2 : IntKind.u64.min = 0 := by decide
  omega
theorem wfs {l : List Int} (h : ∀ x ∈ l, (Lit.int .u64 x).wf = true) : ∀ x ∈ l, 0 ≤ x := fun x hx => wf0 (h x hx)
/-- What holds of Bools whose one is told. -/
theorem Ev.iteT {α : Type} {c : Prop} [Decidable c] {f g : Nat → Option α} {r : α} (hc : c) (h : Ev f r) : Ev (fun k => if c then f k else g k) r := Ev.congr (fun k => if_pos hc) h
theorem Ev.iteF {α : Type} {c : Prop} [Decidable c] {f g : Nat → Option α} {r : α} (hc : ¬ c) (h : Ev g r) : Ev (fun k => if c then f k else g k) r := Ev.congr (fun k => if_neg hc) h
end Go.Proofs.Ytffcjgelcdilcaa.Spec

namespace Go.Proofs.Ytffcjgelcdilcaa.Spec
open Go.RowKit Go.Proofs.Ytffcjgelcdilcaa.PAll Go.Proofs.YtffcjgelcdilcaaW.PrintWords Go.Proofs.YtffcjgelcdilcaaW.PrintLast Go.Proofs.YtffcjgelcdilcaaW.PrintMore Fp

section
variable {p : Nat} [NeZero p]
theorem hor_toP (hp : Md p) {x : Int} (hx : 0 ≤ x ∧ x < p) : ∀ l : List Int, In p l → (0 ≤ Rf.hor p x l ∧ Rf.hor p x l < p) ∧ (toF (Rf.hor p x l) : Fin p) = Pl.ev (toP l) (toF x)
  | [], _ => by
    refine ⟨⟨Int.le_refl _, by have := hp.1; show (0 : Int) < p; omega⟩, ?_⟩
    rw [toP_nil, Pl.ev_zero]
    rfl
  | y :: l, h => by
    obtain ⟨⟨h0, h1⟩, h2⟩ := hor_toP hp hx l (fun z hz => h z (List.mem_cons_of_mem _ hz))
    have hy := h y List.mem_cons_self
    have e : Rf.hor p x (y :: l) = (Rf.hor p x l * x % p + y) % p := rfl
    refine ⟨by rw [e]; exact emod_range _, ?_⟩
    have hP : (toP (y :: l) : Pl p) = Pl.T 1 1 * toP l + Pl.C (toF y) := Pl.ext fun i => by
      rw [Pl.add_at, Pl.T_mul_at, Pl.C_at, toP_at]
      cases i with
      | zero => rw [if_neg (by omega), if_pos rfl]; simp
      | succ i => rw [if_pos (by omega), if_neg (by omega), Nat.add_sub_cancel, toP_at]; simp; grind
    have hm := emod_range (p := p) (Rf.hor p x l * x)
    rw [e, toF_add hm.1 hy.1, toF_mul h0 hx.1, h2, hP, Pl.ev_add, Pl.ev_mul, Pl.ev_C, Pl.ev_T1]
    grind
theorem evEvalL (hp : Md p) {A : Pl p} (hA : Pl.sz A ≤ 512) {x : Int} (hx : 0 ≤ x ∧ x < p) : Ev (fun k => poly_Eval.f k p (toL A) x) (((Pl.ev A (toF x)).val : Int), 0) := by
  have hh := hor_toP hp hx (toL A) (In_toL A)
  rw [toP_toL] at hh
  have hv : Rf.hor p x (toL A) = ((Pl.ev A (toF x)).val : Int) := by rw [← hh.2, toF_val hh.1.1 hh.1.2]
  have hHas : Ev (fun k => field_Has.f k p [x]) true := ⟨2, fun k hk => by show field_Has.f k p [x] = _; rw [has_one hk, decide_eq_true hx.2, hp.ok]; rfl⟩
  refine Ev.congr (f := fun k => (poly_Right.f k p (toL A)).bind _) (fun k => rfl) (Ev.bind (evRightL hp hA) ?_)
  simp only [if_true]
  refine Ev.bind hHas ?_
  have hc : ((toL A).all (fun y => decide (0 ≤ y)) && decide (0 ≤ x)) = true := by
    rw [Bool.and_eq_true]
    exact ⟨List.all_eq_true.2 fun y hy => decide_eq_true (In_toL A y hy).1, decide_eq_true hx.1⟩
  simp only [if_true, hc, hv]
  exact Ev.now _
theorem evMonicL (hp : Md p) {A : Pl p} (hA : Pl.sz A ≤ 512) (hA0 : A ≠ 0) (hi : ∃ b : Fin p, Pl.top A * b = 1) :
    ∃ c : Fin p, Pl.top A * c = 1 ∧ Ev (fun k => poly_Monic.f k p (toL A)) (toL (Pl.C c * A), 0) := by
  have hAs := Pl.sz_pos hA0
  have ht : (toL A).getD ((toL A).length - 1) 0 = ((Pl.top A).val : Int) := top_toL A
  have hrange : 0 ≤ ((Pl.top A).val : Int) ∧ ((Pl.top A).val : Int) < p := ⟨by omega, by have := (Pl.top A).isLt; omega⟩
  obtain ⟨c, hc, hinv, hev⟩ := evInvL hp hrange (by rw [toF_of_val]; exact hi)
  rw [toF_of_val] at hinv
  refine ⟨toF c, hinv, ?_⟩
  refine Ev.congr (f := fun k => (poly_Right.f k p (toL A)).bind _) (fun k => rfl) (Ev.bind (evRightL hp hA) ?_)
  simp only [if_true]
  rw [length_toL] at ht ⊢
  have e : wrap64 ((Pl.sz A : Int) - 1) = ((Pl.sz A - 1 : Nat) : Int) := by rw [w64_in (by omega) (by omega)]; omega
  simp only [if_neg (show ¬ ((Pl.sz A : Int) = 0) by omega), e, if_pos (show (0 : Int) ≤ ((Pl.sz A - 1 : Nat) : Int) by omega), if_pos (show ((Pl.sz A - 1 : Nat) : Int) < (Pl.sz A : Int) by omega), rd_nat, ht]
  refine Ev.bind hev ?_
  simp only [if_true]
  exact Ev.bind (evScaledL hp hc (by omega)) (Ev.now _)
theorem evMonic0 (hp : Md p) : Ev (fun k => poly_Monic.f k p []) ([], 0) := by
  have h := evRightL hp (A := (0 : Pl p)) (by rw [Pl.sz_zero]; omega)
  rw [toL_zero] at h
  refine Ev.congr (f := fun k => (poly_Right.f k p []).bind _) (fun k => rfl) (Ev.bind h ?_)
  simp only [if_true]
  exact Ev.now _
end

/-! ### Which numbers the laws take for primes -/
theorem wrap_u64_in {n : Int} (h0 : 0 ≤ n) (h1 : n < 18446744073709551616) : IntKind.u64.wrap n = n := by
  unfold IntKind.wrap
  simp [IntKind.signed, IntKind.bits, Int.emod_eq_of_lt h0 h1]
theorem is_l0 {p : Nat} (hp : p < 1048576) : ∀ m i k : Nat, i + m = 1025 → m < k → 2 ≤ i → ∃ b, affidavitref02_Is.l0 k p (i : Int) = some b ∧ (b = true → ∀ d, i ≤ d → d * d ≤ p → p % d ≠ 0) := by
  intro m
  induction m with
  | zero =>
    intro i k hi hk h2
    obtain rfl : i = 1025 := by omega
    cases k with
    | zero => omega
    | succ k =>
      refine ⟨true, ?_, fun _ d hd hdd => ?_⟩
      · unfold affidavitref02_Is.l0
        rw [if_neg]
        show ¬ (IntKind.u64.wrap (1050625) ≤ (p : Int))
        rw [show IntKind.u64.wrap 1050625 = 1050625 by decide]
        omega
      · have := Nat.mul_le_mul hd hd
        omega
  | succ m ih =>
    intro i k hi hk h2
    cases k with
    | zero => omega
    | succ k =>
      unfold affidavitref02_Is.l0
      have hii : i * i ≤ 1025 * 1025 := Nat.mul_le_mul (by omega) (by omega)
      have e1 : IntKind.u64.wrap ((i : Int) * i) = ((i * i : Nat) : Int) := by
        rw [← Int.natCast_mul]
        exact wrap_u64_in (by omega) (by omega)
      have e2 : IntKind.u64.wrap ((i : Int) + 1) = ((i + 1 : Nat) : Int) := by
        have : (i : Int) + 1 = ((i + 1 : Nat) : Int) := by omega
        rw [this]
        exact wrap_u64_in (by omega) (by omega)
      rw [e1, e2]
      by_cases c : ((i * i : Nat) : Int) ≤ (p : Int)
      · rw [if_pos c, if_neg (by omega)]
        have e3 : Int.tmod (p : Int) (i : Int) = ((p % i : Nat) : Int) := by
          rw [Int.tmod_eq_emod_of_nonneg (by omega)]
          rfl
        rw [e3]
        by_cases c2 : p % i = 0
        · rw [if_pos (by omega)]
          exact ⟨false, rfl, fun h => by cases h⟩
        · rw [if_neg (by omega)]
          obtain ⟨b, h3, h4⟩ := ih (i + 1) k (by omega) (by omega) (by omega)
          refine ⟨b, h3, fun hb d hd hdd => ?_⟩
          by_cases c3 : d = i
          · subst c3; exact c2
          · exact h4 hb d (by omega) hdd
      · rw [if_neg c]
        refine ⟨true, rfl, fun _ d hd hdd => ?_⟩
        have := Nat.mul_le_mul hd hd
        omega
theorem evPrime (a : Int) (ha : 0 ≤ a) : ∃ b, Ev (fun k => affidavitlaw03_prime.f k a) b ∧ (b = true → Pr a.toNat) := by
  by_cases c1 : a = 2147483647
  · subst c1
    exact ⟨true, Ev.now _, fun _ => pr_m31⟩
  · by_cases c2 : a = 2305843009213693951
    · subst c2
      exact ⟨true, Ev.now _, fun _ => pr_m61⟩
    · by_cases c3 : a < 1048576
      · by_cases c4 : a < 2
        · refine ⟨false, ?_, fun h => by cases h⟩
          refine Ev.congr (f := fun _ => some false) (fun k => ?_) (Ev.now _)
          unfold affidavitlaw03_prime.f affidavitref02_Is.f
          rw [if_neg c1, if_neg c2, if_pos c3, if_pos c4]
          rfl
        · obtain ⟨p, rfl⟩ : ∃ p : Nat, a = p := ⟨a.toNat, by omega⟩
          obtain ⟨b, h1, h2⟩ := is_l0 (p := p) (by omega) 1023 2 1024 (by omega) (by omega) (by omega)
          refine ⟨b, ?_, fun hb => Pr.trial (by omega) (h2 hb)⟩
          refine Ev.of (affidavitlaw03_prime.mono _) (k := 1024) ?_
          unfold affidavitlaw03_prime.f affidavitref02_Is.f
          rw [if_neg c1, if_neg c2, if_pos c3, if_neg c4]
          have h1' : affidavitref02_Is.l0 1024 (p : Int) 2 = some b := h1
          rw [h1']
          rfl
      · refine ⟨false, ?_, fun h => by cases h⟩
        refine Ev.congr (f := fun _ => some false) (fun k => ?_) (Ev.now _)
        unfold affidavitlaw03_prime.f
        rw [if_neg c1, if_neg c2, if_neg c3]
end Go.Proofs.Ytffcjgelcdilcaa.Spec

namespace Go.Proofs.Ytffcjgelcdilcaa.Spec
open Go.RowKit Go.Proofs.Ytffcjgelcdilcaa.PAll Go.Proofs.YtffcjgelcdilcaaW.PrintWords Go.Proofs.YtffcjgelcdilcaaW.PrintLast Go.Proofs.YtffcjgelcdilcaaW.PrintMore
theorem awake_now : affidavitlaw03_awake.f 40 = some true := by decide +kernel
theorem evAwake : Ev (fun k => affidavitlaw03_awake.f k) true := Ev.of affidavitlaw03_awake.mono awake_now
end Go.Proofs.Ytffcjgelcdilcaa.Spec

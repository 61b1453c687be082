/- Which numbers the laws take for primes. No memory. -/
import Derived.Test.YtffcjgelcdilcaaPl
import Derived.Test.YtffcjgelcdilcaaSmall
import Derived.Test.YtffcjgelcdilcaaField
import Derived.Test.YtffcjgelcdilcaaPSerx8
set_option linter.unusedVariables false
set_option linter.unusedSimpArgs false
set_option linter.unusedSectionVars false
namespace Go.Proofs.Ytffcjgelcdilcaa.Spec
open Go.RowKit Go.Proofs.Ytffcjgelcdilcaa.PSer Go.Proofs.YtffcjgelcdilcaaW.PrintWords Go.Proofs.YtffcjgelcdilcaaW.PrintLast Go.Proofs.YtffcjgelcdilcaaW.PrintMore Fp

/-! ### Which numbers the laws take for primes -/
theorem wrap_u64_in {n : Int} (h0 : 0 ≤ n) (h1 : n < 18446744073709551616) : IntKind.u64.wrap n = n := by
  unfold IntKind.wrap
  simp [IntKind.signed, IntKind.bits, Int.emod_eq_of_lt h0 h1]
theorem is_l0 {p : Nat} (hp : p < 1048576) : ∀ m i k : Nat, i + m = 1025 → m < k → 2 ≤ i → ∃ b, affidavitref02_Is.l0 k p (i : Int) = some b ∧ (b = true → ∀ d, i ≤ d → d * d ≤ p → p % d ≠ 0) := by
  intro m
  induction m with
  | zero =>
    intro i k hi hk h2
    obtain rfl : i = 1025 := by omega
    cases k with
    | zero => omega
    | succ k =>
      refine ⟨true, ?_, fun _ d hd hdd => ?_⟩
      · unfold affidavitref02_Is.l0
        rw [if_neg]
        show ¬ (IntKind.u64.wrap (1050625) ≤ (p : Int))
        rw [show IntKind.u64.wrap 1050625 = 1050625 by decide]
        omega
      · have := Nat.mul_le_mul hd hd
        omega
  | succ m ih =>
    intro i k hi hk h2
    cases k with
    | zero => omega
    | succ k =>
      unfold affidavitref02_Is.l0
      have hii : i * i ≤ 1025 * 1025 := Nat.mul_le_mul (by omega) (by omega)
      have e1 : IntKind.u64.wrap ((i : Int) * i) = ((i * i : Nat) : Int) := by
        rw [← Int.natCast_mul]
        exact wrap_u64_in (by omega) (by omega)
      have e2 : IntKind.u64.wrap ((i : Int) + 1) = ((i + 1 : Nat) : Int) := by
        have : (i : Int) + 1 = ((i + 1 : Nat) : Int) := by omega
        rw [this]
        exact wrap_u64_in (by omega) (by omega)
      rw [e1, e2]
      by_cases c : ((i * i : Nat) : Int) ≤ (p : Int)
      · rw [if_pos c, if_neg (by omega)]
        have e3 : Int.tmod (p : Int) (i : Int) = ((p % i : Nat) : Int) := by
          rw [Int.tmod_eq_emod_of_nonneg (by omega)]
          rfl
        rw [e3]
        by_cases c2 : p % i = 0
        · rw [if_pos (by omega)]
          exact ⟨false, rfl, fun h => by cases h⟩
        · rw [if_neg (by omega)]
          obtain ⟨b, h3, h4⟩ := ih (i + 1) k (by omega) (by omega) (by omega)
          refine ⟨b, h3, fun hb d hd hdd => ?_⟩
          by_cases c3 : d = i
          · subst c3; exact c2
          · exact h4 hb d (by omega) hdd
      · rw [if_neg c]
        refine ⟨true, rfl, fun _ d hd hdd => ?_⟩
        have := Nat.mul_le_mul hd hd
        omega
theorem evPrime (a : Int) (ha : 0 ≤ a) : ∃ b, Ev (fun k => affidavitlaw04_prime.f k a) b ∧ (b = true → Pr a.toNat) := by
  by_cases c1 : a = 2147483647
  · subst c1
    exact ⟨true, Ev.now _, fun _ => pr_m31⟩
  · by_cases c2 : a = 2305843009213693951
    · subst c2
      exact ⟨true, Ev.now _, fun _ => pr_m61⟩
    · by_cases c3 : a < 1048576
      · by_cases c4 : a < 2
        · refine ⟨false, ?_, fun h => by cases h⟩
          refine Ev.congr (f := fun _ => some false) (fun k => ?_) (Ev.now _)
          unfold affidavitlaw04_prime.f affidavitref02_Is.f
          rw [if_neg c1, if_neg c2, if_pos c3, if_pos c4]
          rfl
        · obtain ⟨p, rfl⟩ : ∃ p : Nat, a = p := ⟨a.toNat, by omega⟩
          obtain ⟨b, h1, h2⟩ := is_l0 (p := p) (by omega) 1023 2 1024 (by omega) (by omega) (by omega)
          refine ⟨b, ?_, fun hb => Pr.trial (by omega) (h2 hb)⟩
          refine Ev.of (affidavitlaw04_prime.mono _) (k := 1024) ?_
          unfold affidavitlaw04_prime.f affidavitref02_Is.f
          rw [if_neg c1, if_neg c2, if_pos c3, if_neg c4]
          have h1' : affidavitref02_Is.l0 1024 (p : Int) 2 = some b := h1
          rw [h1']
          rfl
      · refine ⟨false, ?_, fun h => by cases h⟩
        refine Ev.congr (f := fun _ => some false) (fun k => ?_) (Ev.now _)
        unfold affidavitlaw04_prime.f
        rw [if_neg c1, if_neg c2, if_neg c3]
end Go.Proofs.Ytffcjgelcdilcaa.Spec

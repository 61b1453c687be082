/- The law PrimeRight. -/
import Derived.Test.YtanpdkllnmeenaaAmAwake
namespace Go.Proofs.Ytanpdkllnmeenaa.M
set_option linter.unusedVariables false
set_option maxRecDepth 100000
open Go Go.RowKit Go.Proofs Go.Proofs.Ytanpdkllnmeenaa.Am
theorem short_len {l : List (Int × Int × List (Int × Int))} (h : shortB l = true) : l.length ≤ 40 := by
  unfold shortB at h
  rw [Bool.and_eq_true] at h
  exact of_decide_eq_true h.1
theorem primeRight_true {l : List (Int × Int × List (Int × Int))} (p : Int) (hl : l.length < 281474976710656) (hv : ∀ x ∈ l, 0 ≤ x.2.1 ∧ ∀ y ∈ x.2.2, y.2 < 9223372036854775808) {R : Type} (ret : Bool → Option R) :
    affidavitlaw02_PrimeRight.f 501 l p ret = ret true := by
  rw [show (501 : Nat) = 500 + 1 from rfl, affidavitlaw02_PrimeRight.f, awake_spec (by omega), Bool.not_true, cond_false, short_spec hl (by omega)]
  cases hs : shortB l
  · rw [Bool.not_false, cond_true]
  · have h40 := short_len hs
    rw [Bool.not_true, cond_false, rfirst_spec hl hv (by omega), first_spec hl (by omega), eT rfl, check_spec hl (by omega), shows2_spec _ hl (by omega), rshows_spec _ hl hv (by omega)]
    have e : (((firstN l : Nat) : Int) == (l.length : Int)) = (firstN l == l.length) := by
      by_cases h : firstN l = l.length
      · rw [h]; simp
      · rw [beq_eq_false_iff_ne.2 h, beq_eq_false_iff_ne.2 (by omega)]
    rw [e, beq_self_eq_true, cond_true, beq_self_eq_true]
end Go.Proofs.Ytanpdkllnmeenaa.M

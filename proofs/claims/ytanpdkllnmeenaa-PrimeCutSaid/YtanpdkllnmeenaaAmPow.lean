/- Powers: field.Pow, and the reference's. -/
import Derived.Test.YtanpdkllnmeenaaAmFld
namespace Go.Proofs.Ytanpdkllnmeenaa.M
set_option linter.unusedVariables false
set_option maxRecDepth 100000
open Go Go.RowKit Go.Proofs Go.Proofs.Ytanpdkllnmeenaa.Am

/-- a times a times .. modulo p. -/
def pw (p a n : Int) : Int := a ^ n.toNat % p

theorem pow_half (a n : Int) (h : 0 ≤ n) : a ^ n.toNat = (a * a) ^ (n / 2).toNat * (if n % 2 = 1 then a else 1) := by
  have e : n.toNat = 2 * (n / 2).toNat + (n % 2).toNat := by omega
  rw [e, Int.pow_add, Int.pow_mul]
  congr 1
  · congr 1
    rw [Int.pow_succ, Int.pow_succ, Int.pow_zero, Int.one_mul]
  · by_cases h1 : n % 2 = 1
    · rw [if_pos h1, h1]; show a ^ 1 = a; rw [Int.pow_succ, Int.pow_zero, Int.one_mul]
    · rw [if_neg h1, show n % 2 = 0 by omega]; simp

theorem pow_mod (a p : Int) (n : Nat) : (a % p) ^ n % p = a ^ n % p := by
  induction n with
  | zero => rw [Int.pow_zero, Int.pow_zero]
  | succ n ih => rw [Int.pow_succ, Int.pow_succ, Int.mul_emod, ih, Int.emod_emod, ← Int.mul_emod]

theorem pow_l0 {p : Int} (hp2 : 2 ≤ p) (hp : p < 9223372036854775808) {k : Nat} (hk : 7 ≤ k) {R : Type} (x0 : Int → Option R) (j : Nat) : ∀ (m : Nat) (a n out : Int), j + 1 ≤ m → 0 ≤ n → n < 2 ^ j → n < 18446744073709551616 → 0 ≤ a → a < p → 0 ≤ out → out < p →
    field_Pow.L0 k x0 m p a n out = x0 (out * a ^ n.toNat % p) := by
  induction j with
  | zero =>
    intro m a n out hm h0 h1 h2 ha ha' ho ho'
    obtain ⟨m, rfl⟩ : ∃ i, m = i + 1 := ⟨m - 1, by omega⟩
    have : n = 0 := by omega
    subst this
    simp only [field_Pow.L0, field_Pow.B0]
    rw [dF (by omega)]
    simp [Int.emod_eq_of_lt ho ho']
  | succ j ih =>
    intro m a n out hm h0 h1 h2 ha ha' ho ho'
    by_cases hz : n = 0
    · obtain ⟨m, rfl⟩ : ∃ i, m = i + 1 := ⟨m - 1, by omega⟩
      subst hz
      simp only [field_Pow.L0, field_Pow.B0]
      rw [dF (by omega)]
      simp [Int.emod_eq_of_lt ho ho']
    · obtain ⟨m, rfl⟩ : ∃ i, m = i + 1 := ⟨m - 1, by omega⟩
      simp only [field_Pow.L0, field_Pow.B0]
      rw [dT (by omega), m_one h0 h2, shr1]
      have hpw : (2 : Int) ^ (j + 1) = 2 ^ j * 2 := Int.pow_succ _ _
      have hA0 : 0 ≤ a * a % p := Int.emod_nonneg _ (by omega)
      have hA1 : a * a % p < p := Int.emod_lt_of_pos _ (by omega)
      by_cases h : n % 2 = 1
      · have hO0 : 0 ≤ out * a % p := Int.emod_nonneg _ (by omega)
        have hO1 : out * a % p < p := Int.emod_lt_of_pos _ (by omega)
        rw [eT h, mul_spec (by omega) (by omega) ho (by omega) ha (by omega) hk, mul_spec (by omega) (by omega) ha (by omega) ha (by omega) hk, dT (by omega)]
        rw [ih m _ _ _ (by omega) (by omega) (by omega) (by omega) hA0 hA1 hO0 hO1]
        congr 1
        rw [pow_half a n h0, if_pos h, Int.mul_emod (out * a % p), pow_mod, Int.emod_emod, ← Int.mul_emod]
        congr 1
        grind
      · rw [eF h, mul_spec (by omega) (by omega) ha (by omega) ha (by omega) hk, dT (by omega)]
        rw [ih m _ _ _ (by omega) (by omega) (by omega) (by omega) hA0 hA1 ho ho']
        congr 1
        rw [pow_half a n h0, if_neg h, Int.mul_emod out, pow_mod, ← Int.mul_emod, Int.mul_one]

/-- field.Pow. -/
theorem pow_spec {p a n : Int} (ha : 0 ≤ a) (h0 : 0 ≤ n) (h1 : n < 18446744073709551616) {k : Nat} (hk : 66 ≤ k) {R : Type} (ret : Int → Int → Option R) :
    field_Pow.f k p a n ret = if a < p ∧ 2 ≤ p ∧ p < 9223372036854775808 then ret (pw p a n) 0 else ret 0 1 := by
  obtain ⟨k, rfl⟩ : ∃ m, k = m + 1 := ⟨k - 1, by omega⟩
  simp only [field_Pow.f]
  rw [has_one _ _ (by omega)]
  by_cases h : a < p ∧ 2 ≤ p ∧ p < 9223372036854775808
  · rw [if_pos h, decide_eq_true h.1, okB, decide_eq_true h.2.1, decide_eq_true h.2.2]
    simp only [Bool.and_self, Bool.not_true, cond_false]
    rw [pow_l0 h.2.1 h.2.2 (by omega) _ 64 k a n 1 (by omega) h0 (by simpa using h1) h1 ha h.1 (by omega) (by omega), Int.one_mul]
    rfl
  · rw [if_neg h]
    have : (decide (a < p) && okB p) = false := by
      rw [okB, ← Bool.not_eq_true]
      simpa using h
    rw [this]; rfl

/-- The reference's Add, Mul, Pow. -/
theorem rMul_spec {p a : Int} (hp2 : 2 ≤ p) (hp : p < 9223372036854775808) (ha : 0 ≤ a) (ha' : a < p) (j : Nat) : ∀ (k : Nat) (b : Int), j + 2 ≤ k → 0 ≤ b → b < 2 ^ j → b < 18446744073709551616 → ∀ {R : Type} (ret : Int → Option R),
    affidavitref01_Mul.f k p a b ret = ret (a * b % p) := by
  induction j with
  | zero =>
    intro k b hk h0 h1 h2 R ret
    obtain ⟨k, rfl⟩ : ∃ m, k = m + 1 := ⟨k - 1, by omega⟩
    have : b = 0 := by omega
    subst this
    simp only [affidavitref01_Mul.f]
    rw [eT rfl]; simp
  | succ j ih =>
    intro k b hk h0 h1 h2 R ret
    obtain ⟨k, rfl⟩ : ∃ m, k = m + 2 := ⟨k - 2, by omega⟩
    by_cases hz : b = 0
    · subst hz
      simp only [affidavitref01_Mul.f]
      rw [eT rfl]; simp
    · have hpw : (2 : Int) ^ (j + 1) = 2 ^ j * 2 := Int.pow_succ _ _
      rw [affidavitref01_Mul.f]
      rw [eF hz, nT (by omega), Int.tdiv_eq_ediv_of_nonneg h0, wu_in (by omega) (by omega), ih (k + 1) (b / 2) (by omega) (by omega) (by omega) (by omega)]
      simp only [affidavitref01_Add.f]
      have hA0 : 0 ≤ a * (b / 2) % p := Int.emod_nonneg _ (by omega)
      have hA1 : a * (b / 2) % p < p := Int.emod_lt_of_pos _ (by omega)
      have hadd : ∀ x y : Int, 0 ≤ x → x < p → 0 ≤ y → y < p → Int.tmod (IntKind.wrap .u64 (x + y)) p = (x + y) % p := by
        intro x y a1 a2 a3 a4
        rw [wu_in (by omega) (by omega), Int.tmod_eq_emod_of_nonneg (by omega)]
      rw [nT (by omega), nT (by omega), hadd _ _ hA0 hA1 hA0 hA1, Int.tmod_eq_emod_of_nonneg h0]
      have hB0 : 0 ≤ (a * (b / 2) % p + a * (b / 2) % p) % p := Int.emod_nonneg _ (by omega)
      have hB1 : (a * (b / 2) % p + a * (b / 2) % p) % p < p := Int.emod_lt_of_pos _ (by omega)
      have e2 : (a * (b / 2) % p + a * (b / 2) % p) % p = (a * (2 * (b / 2))) % p := by
        rw [← Int.add_emod]; congr 1; grind
      rw [e2] at hB0 hB1 ⊢
      by_cases h : b % 2 = 1
      · rw [eT h, nT (by omega), hadd _ _ hB0 hB1 ha ha']
        congr 1
        rw [Int.add_emod, Int.emod_emod, ← Int.add_emod]
        congr 1
        have : b = 2 * (b / 2) + 1 := by omega
        conv => rhs; rw [this]
        grind
      · rw [eF h]
        congr 3
        omega
theorem rPow_spec {p a : Int} (hp2 : 2 ≤ p) (hp : p < 9223372036854775808) (ha : 0 ≤ a) (ha' : a < p) (j : Nat) : ∀ (k : Nat) (n : Int), j + 70 ≤ k → 0 ≤ n → n < 2 ^ j → n < 18446744073709551616 → ∀ {R : Type} (ret : Int → Option R),
    affidavitref01_Pow.f k p a n ret = ret (pw p a n) := by
  induction j with
  | zero =>
    intro k n hk h0 h1 h2 R ret
    obtain ⟨k, rfl⟩ : ∃ m, k = m + 1 := ⟨k - 1, by omega⟩
    have : n = 0 := by omega
    subst this
    simp only [affidavitref01_Pow.f]
    rw [eT rfl, pw, show (0 : Int).toNat = 0 from rfl, Int.pow_zero, Int.emod_eq_of_lt (by omega) (by omega)]
  | succ j ih =>
    intro k n hk h0 h1 h2 R ret
    obtain ⟨k, rfl⟩ : ∃ m, k = m + 1 := ⟨k - 1, by omega⟩
    by_cases hz : n = 0
    · subst hz
      simp only [affidavitref01_Pow.f]
      rw [eT rfl, pw, show (0 : Int).toNat = 0 from rfl, Int.pow_zero, Int.emod_eq_of_lt (by omega) (by omega)]
    · have hpw : (2 : Int) ^ (j + 1) = 2 ^ j * 2 := Int.pow_succ _ _
      rw [affidavitref01_Pow.f]
      have hP0 : ∀ n, 0 ≤ pw p a n := fun n => Int.emod_nonneg _ (by omega)
      have hP1 : ∀ n, pw p a n < p := fun n => Int.emod_lt_of_pos _ (by omega)
      have hS0 : ∀ x : Int, 0 ≤ x % p := fun x => Int.emod_nonneg _ (by omega)
      have hS1 : ∀ x : Int, x % p < p := fun x => Int.emod_lt_of_pos _ (by omega)
      have hp0 := hP0 (n / 2); have hp1 := hP1 (n / 2)
      rw [eF hz, nT (by omega), Int.tdiv_eq_ediv_of_nonneg h0, wu_in (by omega) (by omega), ih k (n / 2) (by omega) (by omega) (by omega) (by omega)]
      rw [rMul_spec hp2 hp hp0 hp1 64 k _ (by omega) hp0 (by simp; omega) (by omega), nT (by omega), Int.tmod_eq_emod_of_nonneg h0]
      have e2 : pw p a (n / 2) * pw p a (n / 2) % p = (a * a) ^ (n / 2).toNat % p := by
        simp only [pw]
        rw [← Int.mul_emod]
        congr 1
        rw [← Int.mul_pow]
      rw [e2]
      by_cases h : n % 2 = 1
      · rw [eT h, rMul_spec hp2 hp (hS0 _) (hS1 _) 64 k a (by omega) ha (by simp; omega) (by omega)]
        congr 1
        rw [pw, pow_half a n h0, if_pos h, Int.mul_emod ((a * a) ^ _ % p), Int.emod_emod, ← Int.mul_emod]
      · rw [eF h, pw, pow_half a n h0, if_neg h, Int.mul_one]
end Go.Proofs.Ytanpdkllnmeenaa.M

/- field.Inv and the reference's Gcd. -/
import Derived.Test.YtanpdkllnmeenaaAmPow
import Derived.Test.YtanpdkllnmeenaaAmPr
namespace Go.Proofs.Ytanpdkllnmeenaa.M
set_option linter.unusedVariables false
set_option maxRecDepth 100000
open Go Go.RowKit Go.Proofs Go.Proofs.Ytanpdkllnmeenaa.Am

theorem half_prod {r s m : Int} {n : Nat} (h0 : 0 ≤ m) (h1 : m < s) (h2 : s + m ≤ r) (h : r * s < 2 ^ (n + 1)) : s * m < 2 ^ n := by
  have hpw : (2 : Int) ^ (n + 1) = 2 ^ n * 2 := Int.pow_succ _ _
  have e : (2 * m) * s ≤ r * s := Int.mul_le_mul_of_nonneg_right (by omega) (by omega)
  have e2 : 2 * m * s = 2 * (s * m) := by grind
  omega
theorem inv_l0 {p a : Int} (hp : p < 9223372036854775808) (hp2 : 2 ≤ p) {k : Nat} (n : Nat) : ∀ (m : Nat) (r s x y X Y : Int), r * s < 2 ^ n → n < m → r ≤ p → Eu p a r s x y X Y →
    ∃ x' g, 0 < g ∧ g ∣ p ∧ g ∣ a ∧ -p ≤ x' ∧ x' ≤ p ∧ (∃ c, x' * a = g + c * p) ∧ ∀ {R : Type} (x0 : Int → Int → Int → Option R), field_inv.L0 k x0 m p r s x y = x0 p g x' := by
  induction n with
  | zero =>
    intro m r s x y X Y hs hm hr h
    obtain ⟨m, rfl⟩ : ∃ j, m = j + 1 := ⟨m - 1, by omega⟩
    have h1 := h.h1; have h2 := h.h2; have h3 := h.h3; have h4 := h.h4; have h7 := h.h7
    have hs0 : s = 0 := by
      apply Classical.byContradiction
      intro hc
      have : 1 * 1 ≤ r * s := Int.mul_le_mul (by omega) (by omega) (by omega) (by omega)
      simp at hs
      omega
    subst hs0
    have hx : -p ≤ x ∧ x ≤ p := by rcases h.h5 with ⟨e1, _⟩ | ⟨e1, _⟩ <;> omega
    have hg := h.ha r (Int.dvd_refl r) (Int.dvd_zero r)
    refine ⟨x, r, by omega, hg.1, hg.2, hx.1, hx.2, h.h8, fun x0 => ?_⟩
    simp only [field_inv.L0, field_inv.B0]
    rw [nF rfl]
  | succ n ih =>
    intro m r s x y X Y hs hm hr h
    by_cases hs0 : s = 0
    · exact ih m r s x y X Y (by rw [hs0, Int.mul_zero]; exact Int.pow_pos (by omega)) (by omega) hr h
    · obtain ⟨m, rfl⟩ : ∃ j, m = j + 1 := ⟨m - 1, by omega⟩
      have h1 := h.h1; have h2 := h.h2; have h3 := h.h3; have h4 := h.h4; have h7 := h.h7
      obtain ⟨hn, hq, hqs, hqs', hqY, hle, _, hrm⟩ := h.next hp hs0
      have hqr : r / s ≤ r := Int.ediv_le_self _ (by omega)
      have hqy : -p ≤ r / s * y ∧ r / s * y ≤ p ∧ -p ≤ x - r / s * y ∧ x - r / s * y ≤ p := by
        rcases h.h5 with ⟨e1, e2⟩ | ⟨e1, e2⟩
        · rw [e1, e2, Int.mul_neg]; omega
        · rw [e1, e2]; omega
      have hm0 : 0 ≤ r % s := Int.emod_nonneg _ hs0
      have hm1 : r % s < s := Int.emod_lt_of_pos _ (by omega)
      have hq1 : 1 ≤ r / s := by rw [Int.le_ediv_iff_mul_le (by omega)]; omega
      have hsq : 1 * s ≤ r / s * s := Int.mul_le_mul_of_nonneg_right hq1 h1
      obtain ⟨x', g, a1, a2, a3, a4, a5, a6, a7⟩ := ih m s (r - r / s * s) y (x - r / s * y) Y (X + r / s * Y) (half_prod (r := r) (by omega) (by omega) (by omega) hs) (by omega) (by omega) hn
      refine ⟨x', g, a1, a2, a3, a4, a5, a6, fun x0 => ?_⟩
      simp only [field_inv.L0, field_inv.B0]
      rw [nT hs0, nT hs0, Int.tdiv_eq_ediv_of_nonneg (by omega), w64_in (n := r / s) (by omega) (by omega), w64_in (n := r / s * s) (by omega) (by omega), w64_in (n := r - r / s * s) (by omega) (by omega), w64_in (n := r / s * y) (by omega) (by omega), w64_in (n := x - r / s * y) (by omega) (by omega)]
      exact a7 x0

/-- field's inv: there is an inverse, or there is none. -/
theorem inv0_spec {p a : Int} (hp2 : 2 ≤ p) (hp : p < 9223372036854775808) (ha : 0 ≤ a) (ha' : a < p) {k : Nat} (hk : 130 ≤ k) :
    ∃ x b, (∀ {R : Type} (ret : Int → Bool → Option R), field_inv.f k p a ret = ret x b) ∧ ((b = true ∧ 0 ≤ x ∧ x < p ∧ a * x % p = 1) ∨ (b = false ∧ ∀ c, a * c % p ≠ 1)) := by
  obtain ⟨k, rfl⟩ : ∃ m, k = m + 1 := ⟨k - 1, by omega⟩
  have h0 : Eu p a p a 0 1 0 1 := { h1 := ha, h2 := ha', h3 := by omega, h4 := by omega, h5 := .inr ⟨rfl, rfl⟩, h6 := by omega, h7 := by omega, h8 := ⟨-1, by omega⟩, h9 := ⟨0, by omega⟩, ha := fun d h1 h2 => ⟨h1, h2⟩ }
  have hpa : p * a < 2 ^ 126 := by
    have : p * a ≤ 9223372036854775807 * 9223372036854775807 := Int.mul_le_mul (by omega) (by omega) ha (by omega)
    omega
  obtain ⟨x, g, g0, g1, g2, x1, x2, ⟨c, hc⟩, hx⟩ := inv_l0 (p := p) (a := a) hp hp2 (k := k) 126 k p a 0 1 0 1 hpa (by omega) (by omega) h0
  have key : g = 1 → ∀ x', (x' = x ∨ x' = x + p) → a * x' % p = 1 := by
    intro e x' hx'
    have : ∃ c', a * x' = 1 + p * c' := by
      rcases hx' with rfl | rfl
      · exact ⟨c, by rw [Int.mul_comm, hc, e, Int.mul_comm c]⟩
      · exact ⟨c + a, by rw [Int.mul_add, Int.mul_comm a x, hc, e]; grind⟩
    obtain ⟨c', hc'⟩ := this
    rw [hc', Int.add_mul_emod_self_left]
    exact Int.emod_eq_of_lt (by omega) (by omega)
  have hne : g = 1 → x ≠ p ∧ x ≠ -p ∧ x ≠ 0 := by
    intro e
    refine ⟨fun e2 => ?_, fun e2 => ?_, fun e2 => ?_⟩
    · have := key e x (.inl rfl)
      rw [e2, Int.mul_emod_left] at this
      omega
    · have := key e (x + p) (.inr rfl)
      rw [e2, show -p + p = 0 by omega, Int.mul_zero] at this
      simp at this
    · have := key e x (.inl rfl)
      rw [e2, Int.mul_zero] at this
      simp at this
  have hf : ∃ x', (∀ {R : Type} (ret : Int → Bool → Option R), field_inv.f (k + 1) p a ret = ret x' (g == 1)) ∧ (g = 1 → 0 ≤ x' ∧ x' < p ∧ a * x' % p = 1) := by
    by_cases cc : x < 0
    · refine ⟨IntKind.wrap .u64 (x + p), fun ret => ?_, fun e => ?_⟩
      · simp only [field_inv.f]
        rw [w64_in (n := p) (by omega) hp, w64_in (n := a) (by omega) (by omega), hx, dT cc, w64_in (n := p) (by omega) hp, w64_in (n := x + p) (by omega) (by omega)]
      · have := hne e
        rw [wu_in (by omega) (by omega)]
        exact ⟨by omega, by omega, key e _ (.inr rfl)⟩
    · refine ⟨IntKind.wrap .u64 x, fun ret => ?_, fun e => ?_⟩
      · simp only [field_inv.f]
        rw [w64_in (n := p) (by omega) hp, w64_in (n := a) (by omega) (by omega), hx, dF cc]
      · have := hne e
        rw [wu_in (by omega) (by omega)]
        exact ⟨by omega, by omega, key e _ (.inl rfl)⟩
  obtain ⟨x', h1, h2⟩ := hf
  refine ⟨x', g == 1, h1, ?_⟩
  by_cases hg : g = 1
  · left; exact ⟨beq_iff_eq.2 hg, h2 hg⟩
  · right
    refine ⟨beq_eq_false_iff_ne.2 hg, fun c' hc' => hg ?_⟩
    have e := Int.mul_ediv_add_emod (a * c') p
    have hd : g ∣ 1 := by
      have : (1 : Int) = a * c' - p * (a * c' / p) := by omega
      rw [this]
      exact Int.dvd_sub (Int.dvd_mul_of_dvd_left g2) (Int.dvd_mul_of_dvd_left g1)
    exact Int.eq_one_of_dvd_one (by omega) hd

/-- field.Inv of a number of a prime that isn't 0. -/
theorem inv_spec {p a : Int} (hp2 : 2 ≤ p) (hp : p < 9223372036854775808) (ha : 0 ≤ a) (ha' : a < p) (h : ∃ c, a * c % p = 1) {k : Nat} (hk : 131 ≤ k) :
    ∃ x, 0 ≤ x ∧ x < p ∧ a * x % p = 1 ∧ ∀ {R : Type} (ret : Int → Int → Option R), field_Inv.f k p a ret = ret x 0 := by
  obtain ⟨k, rfl⟩ : ∃ m, k = m + 1 := ⟨k - 1, by omega⟩
  obtain ⟨x, b, hx, hb⟩ := inv0_spec hp2 hp ha ha' (k := k) (by omega)
  rcases hb with ⟨rfl, h1, h2, h3⟩ | ⟨_, hn⟩
  · refine ⟨x, h1, h2, h3, fun ret => ?_⟩
    simp only [field_Inv.f]
    rw [has_one _ _ (by omega), decide_eq_true ha', okB, decide_eq_true hp2, decide_eq_true hp, hx]
    rfl
  · obtain ⟨c, hc⟩ := h
    exact absurd hc (hn c)

theorem gcd_l0 {k : Nat} {R : Type} (x0 : Int → Option R) (n : Nat) : ∀ (m : Nat) (a b : Nat), (a : Int) * b < 2 ^ n → n < m → b ≤ a →
    affidavitref01_Gcd.L0 k x0 m a b = x0 ((Nat.gcd a b : Nat) : Int) := by
  have stop : ∀ (m a : Nat), affidavitref01_Gcd.L0 k x0 (m + 1) a ((0 : Nat) : Int) = x0 ((Nat.gcd a 0 : Nat) : Int) := by
    intro m a
    simp only [affidavitref01_Gcd.L0, affidavitref01_Gcd.B0]
    rw [show ((0 : Nat) : Int) = 0 from rfl, nF rfl, Nat.gcd_zero_right]
  induction n with
  | zero =>
    intro m a b h hm hba
    obtain ⟨m, rfl⟩ : ∃ j, m = j + 1 := ⟨m - 1, by omega⟩
    have hb0 : b = 0 := by
      apply Classical.byContradiction
      intro hc
      have : (1 : Int) * 1 ≤ (a : Int) * b := Int.mul_le_mul (by omega) (by omega) (by omega) (by omega)
      simp at h
      omega
    subst hb0
    exact stop m a
  | succ n ih =>
    intro m a b h hm hba
    obtain ⟨m, rfl⟩ : ∃ j, m = j + 1 := ⟨m - 1, by omega⟩
    by_cases hb0 : b = 0
    · subst hb0
      exact stop m a
    · have step : affidavitref01_Gcd.L0 k x0 (m + 1) a b = affidavitref01_Gcd.L0 k x0 m (b : Nat) ((a % b : Nat)) := by
        simp only [affidavitref01_Gcd.L0, affidavitref01_Gcd.B0]
        rw [nT (by omega), nT (by omega), Int.tmod_eq_emod_of_nonneg (by omega)]
        rfl
      have hlt := Nat.mod_lt a (show 0 < b by omega)
      rw [step, ih m b (a % b) ?_ (by omega) (by omega), Nat.gcd_comm b, ← Nat.gcd_rec, Nat.gcd_comm]
      have h2 : b + a % b ≤ a := by
        have := Nat.div_add_mod a b
        have h3 : 1 ≤ a / b := by rw [Nat.le_div_iff_mul_le (by omega)]; omega
        have : b * 1 ≤ b * (a / b) := Nat.mul_le_mul_left _ h3
        omega
      exact half_prod (r := (a : Int)) (by omega) (by omega) (by exact_mod_cast h2) h
theorem gcd_spec {a b : Nat} (ha : a < 18446744073709551616) (hb : b ≤ a) {k : Nat} (hk : 140 ≤ k) {R : Type} (ret : Int → Option R) : affidavitref01_Gcd.f k a b ret = ret ((Nat.gcd a b : Nat) : Int) := by
  obtain ⟨k, rfl⟩ : ∃ m, k = m + 1 := ⟨k - 1, by omega⟩
  simp only [affidavitref01_Gcd.f]
  refine gcd_l0 _ 128 k a b ?_ (by omega) hb
  have : (a : Int) * b ≤ 18446744073709551615 * 18446744073709551615 := Int.mul_le_mul (by omega) (by omega) (by omega) (by omega)
  omega
end Go.Proofs.Ytanpdkllnmeenaa.M

/- What prime.Parts, Small and the reference's Parts, Is, Same tell. -/
import Derived.Test.YtanpdkllnmeenaaAmParts
namespace Go.Proofs.Ytanpdkllnmeenaa.M
set_option linter.unusedVariables false
set_option maxRecDepth 100000
open Go Go.RowKit Go.Proofs Go.Proofs.Ytanpdkllnmeenaa.Am

theorem parts_l2 {k : Nat} {R : Type} (x0 : Int → Int → Int → List (Int × Int) → Option R) {q : Int} (hq : 2 ≤ q) (out : List (Int × Int)) (f : Nat) : ∀ (m i : Nat) (n : Int), f + 1 ≤ m → 1 ≤ n → n < 2 ^ f → n < 18446744073709551616 → i + f < 1000 →
    prime_Parts.L2 k x0 m n q i out = x0 (strip q f n).2 q ((i + (strip q f n).1 : Nat) : Int) out := by
  induction f with
  | zero => intro m i n hm h1 h2; simp at h2; omega
  | succ f ih =>
    intro m i n hm h1 h2 h3 hi
    obtain ⟨m, rfl⟩ : ∃ j, m = j + 1 := ⟨m - 1, by omega⟩
    simp only [prime_Parts.L2, prime_Parts.B2]
    rw [nT (by omega), Int.tmod_eq_emod_of_nonneg (by omega), strip]
    by_cases h : n % q = 0
    · obtain ⟨a1, a2, _, a3⟩ := div_half hq h1 h2 h
      rw [eT h, nT (by omega), if_pos h, Int.tdiv_eq_ediv_of_nonneg (by omega), wu_in (by omega) (by omega), ix (by omega)]
      rw [ih m (i + 1) (n / q) (by omega) a1 (by simpa using a2) (by omega) (by omega)]
      congr 2
      omega
    · rw [eF h, if_neg h, Nat.add_zero]
theorem rparts_l2 {k : Nat} {R : Type} (x0 : Int → Int → Int → List (Int × Int) → Option R) {q : Int} (hq : 2 ≤ q) (out : List (Int × Int)) (f : Nat) : ∀ (m i : Nat) (n : Int), f + 1 ≤ m → 1 ≤ n → n < 2 ^ f → n < 18446744073709551616 → i + f < 1000 →
    affidavitref02_Parts.L2 k x0 m n q i out = x0 (strip q f n).2 q ((i + (strip q f n).1 : Nat) : Int) out := by
  induction f with
  | zero => intro m i n hm h1 h2; simp at h2; omega
  | succ f ih =>
    intro m i n hm h1 h2 h3 hi
    obtain ⟨m, rfl⟩ : ∃ j, m = j + 1 := ⟨m - 1, by omega⟩
    simp only [affidavitref02_Parts.L2, affidavitref02_Parts.B2]
    rw [nT (by omega), Int.tmod_eq_emod_of_nonneg (by omega), strip]
    by_cases h : n % q = 0
    · obtain ⟨a1, a2, _, a3⟩ := div_half hq h1 h2 h
      rw [eT h, nT (by omega), if_pos h, Int.tdiv_eq_ediv_of_nonneg (by omega), wu_in (by omega) (by omega), ix (by omega)]
      rw [ih m (i + 1) (n / q) (by omega) a1 (by simpa using a2) (by omega) (by omega)]
      congr 2
      omega
    · rw [eF h, if_neg h, Nat.add_zero]

theorem app_cons0 (out : List (Int × Int)) (q : Int) (t : Nat) (l : List (Int × Int)) : out ++ cons0 q t l = (bif decide (0 < t) then out ++ [(q, (t : Int))] else out) ++ l := by
  unfold cons0
  by_cases h : 0 < t
  · rw [dT h, dT h, List.append_assoc]; rfl
  · rw [dF h, dF h]

theorem parts_l0 {k : Nat} (hk : 70 ≤ k) {R : Type} (x0 : Int → List (Int × Int) → Option R) (d : Nat) : ∀ (m : Nat) (q n : Int) (out : List (Int × Int)), q + d = 65537 → 2 ≤ q → d < m → 1 ≤ n → n < 9223372036854775808 → out.length + d ≤ 70000 →
    prime_Parts.L0 k x0 m n q out = x0 (facs d q n).2 (out ++ (facs d q n).1) := by
  induction d with
  | zero =>
    intro m q n out hq hq2 hm h1 h2 ho
    obtain ⟨m, rfl⟩ : ∃ j, m = j + 1 := ⟨m - 1, by omega⟩
    simp only [prime_Parts.L0, prime_Parts.B0]
    rw [dF (by omega), facs, List.append_nil]
  | succ d ih =>
    intro m q n out hq hq2 hm h1 h2 ho
    obtain ⟨m, rfl⟩ : ∃ j, m = j + 1 := ⟨m - 1, by omega⟩
    have hqq : q * q ≤ 65536 * 65536 := Int.mul_le_mul (by omega) (by omega) (by omega) (by omega)
    have hqq0 : 0 ≤ q * q := Int.mul_nonneg (by omega) (by omega)
    simp only [prime_Parts.L0, prime_Parts.B0]
    rw [dT (by omega), wu_in (n := q * q) hqq0 (by omega), facs]
    by_cases c : q * q ≤ n
    · rw [dT c, dT c]
      have hl2 := parts_l2 (k := k) (fun n3 q2 times1 out2 => bif (decide (times1 > 0)) then
          (bif (decide ((out2 ++ ([(q2, times1)] : List (Int × Int))).length < 1099511627776)) then (prime_Parts.L0 k x0 m n3 (IntKind.wrap .u64 (q2 + 1)) (out2 ++ ([(q2, times1)] : List (Int × Int)))) else none)
        else
          (prime_Parts.L0 k x0 m n3 (IntKind.wrap .u64 (q2 + 1)) out2)) hq2 out 63 k 0 n (by omega) h1 (by simpa using h2) (by omega) (by omega)
      rw [show ((0 : Nat) : Int) = 0 from rfl] at hl2
      obtain ⟨b1, b2, b3, b4, b5, b6, b7⟩ := strip_spec hq2 63 n h1 (by simpa using h2)
      rw [hl2, Nat.zero_add, wu_in (n := q + 1) (by omega) (by omega), app_cons0]
      by_cases ht : 0 < (strip q 63 n).1
      · rw [dT (by omega), dT (by simp; omega), dT ht]
        exact ih m (q + 1) _ _ (by omega) (by omega) (by omega) b3 (by omega) (by simp; omega)
      · rw [dF (by omega), dF ht]
        exact ih m (q + 1) _ _ (by omega) (by omega) (by omega) b3 (by omega) (by omega)
    · rw [dF c, dF c, List.append_nil]

/-- A number's parts, and what is told of it. -/
def partsN (n : Int) : List (Int × Int) × Int :=
  bif decide (n = 0 ∨ 9223372036854775808 ≤ n) then ([], 1) else
  bif decide (4294967296 ≤ (facs 65535 2 n).2) then ([], 3) else
  bif decide (1 < (facs 65535 2 n).2) then ((facs 65535 2 n).1 ++ [((facs 65535 2 n).2, 1)], 0) else ((facs 65535 2 n).1, 0)

theorem free2 (n : Int) : Free 2 n := fun e h1 h2 => by omega
theorem parts_spec {n : Int} (h0 : 0 ≤ n) {k : Nat} (hk : 65537 ≤ k) {R : Type} (ret : List (Int × Int) → Int → Option R) : prime_Parts.f k n ret = ret (partsN n).1 (partsN n).2 := by
  obtain ⟨k, rfl⟩ : ∃ m, k = m + 1 := ⟨k - 1, by omega⟩
  simp only [prime_Parts.f]
  unfold partsN
  by_cases c0 : n = 0
  · rw [eT c0, dT (.inl c0)]
  · by_cases c1 : n ≥ 9223372036854775808
    · rw [eF c0, dT c1, dT (.inr c1)]
    · rw [eF c0, dF c1, dF (by omega), parts_l0 (by omega) _ 65535 k 2 n [] (by omega) (by omega) (by omega) (by omega) (by omega) (by simp), List.nil_append]
      have hlen := (facs_spec 65535 2 n (by omega) (by omega) (by omega) (free2 n)).2.2.2.2.2.2
      by_cases c2 : (facs 65535 2 n).2 ≥ 4294967296
      · rw [dT c2, dT (p := 4294967296 ≤ (facs 65535 2 n).2) c2]
      · rw [dF c2, dF (p := 4294967296 ≤ (facs 65535 2 n).2) c2]
        by_cases c3 : (facs 65535 2 n).2 > 1
        · rw [dT c3, dT (by rw [List.length_append]; simp only [List.length_singleton]; omega), dT (p := 1 < (facs 65535 2 n).2) c3]
        · rw [dF c3, dF (p := 1 < (facs 65535 2 n).2) c3]

theorem rparts_l0 {k : Nat} (hk : 70 ≤ k) {R : Type} (x0 : Int → List (Int × Int) → Option R) (hx : ∀ n out, 1 < n → n < 4294967296 → out.length ≤ 70000 → x0 n out = x0 1 (out ++ [(n, 1)])) (d : Nat) : ∀ (m : Nat) (q n : Int) (out : List (Int × Int)), q + d = 65537 → 2 ≤ q → d + 1 < m → 1 ≤ n → n < 9223372036854775808 → out.length + d ≤ 70000 →
    affidavitref02_Parts.L0 k x0 m n q out = x0 (facs d q n).2 (out ++ (facs d q n).1) := by
  induction d with
  | zero =>
    intro m q n out hq hq2 hm h1 h2 ho
    obtain ⟨m, rfl⟩ : ∃ j, m = j + 1 := ⟨m - 1, by omega⟩
    simp only [affidavitref02_Parts.L0, affidavitref02_Parts.B0]
    rw [dF (by omega), facs, List.append_nil]
  | succ d ih =>
    intro m q n out hq hq2 hm h1 h2 ho
    obtain ⟨m, rfl⟩ : ∃ j, m = j + 1 := ⟨m - 1, by omega⟩
    have hqq : q * q ≤ 65536 * 65536 := Int.mul_le_mul (by omega) (by omega) (by omega) (by omega)
    have hqq0 : 0 ≤ q * q := Int.mul_nonneg (by omega) (by omega)
    have hqq4 : 2 * 2 ≤ q * q := Int.mul_le_mul hq2 hq2 (by omega) (by omega)
    simp only [affidavitref02_Parts.L0, affidavitref02_Parts.B0]
    rw [dT (by omega), wu_in (n := q * q) hqq0 (by omega), facs]
    -- one number is tried
    have htry : ∀ _ : q * q ≤ n, affidavitref02_Parts.L2 k (fun n3 q2 k_1 out2 =>
            bif (decide (k_1 > 0)) then
              (bif (decide ((out2 ++ ([(q2, k_1)] : List (Int × Int))).length < 1099511627776)) then (affidavitref02_Parts.L0 k x0 m n3 (IntKind.wrap .u64 (q2 + 1)) (out2 ++ ([(q2, k_1)] : List (Int × Int)))) else none)
            else
              (affidavitref02_Parts.L0 k x0 m n3 (IntKind.wrap .u64 (q2 + 1)) out2)) k n q 0 out = x0 (facs d (q + 1) (strip q 63 n).2).2 (out ++ cons0 q (strip q 63 n).1 (facs d (q + 1) (strip q 63 n).2).1) := by
      intro c
      have hl2 := rparts_l2 (k := k) (fun n3 q2 k_1 out2 => bif (decide (k_1 > 0)) then
              (bif (decide ((out2 ++ ([(q2, k_1)] : List (Int × Int))).length < 1099511627776)) then (affidavitref02_Parts.L0 k x0 m n3 (IntKind.wrap .u64 (q2 + 1)) (out2 ++ ([(q2, k_1)] : List (Int × Int)))) else none)
            else
              (affidavitref02_Parts.L0 k x0 m n3 (IntKind.wrap .u64 (q2 + 1)) out2)) hq2 out 63 k 0 n (by omega) h1 (by simpa using h2) (by omega) (by omega)
      rw [show ((0 : Nat) : Int) = 0 from rfl] at hl2
      obtain ⟨b1, b2, b3, b4, b5, b6, b7⟩ := strip_spec hq2 63 n h1 (by simpa using h2)
      rw [hl2, Nat.zero_add, wu_in (n := q + 1) (by omega) (by omega), app_cons0]
      by_cases ht : 0 < (strip q 63 n).1
      · rw [dT (by omega), dT (by simp; omega), dT ht]
        exact ih m (q + 1) _ _ (by omega) (by omega) (by omega) b3 (by omega) (by simp; omega)
      · rw [dF (by omega), dF ht]
        exact ih m (q + 1) _ _ (by omega) (by omega) (by omega) b3 (by omega) (by omega)
    by_cases c1 : n > 1
    · rw [dT c1]
      by_cases c2 : n < 4294967296
      · rw [dT c2]
        by_cases c : q * q ≤ n
        · rw [dF (by omega), dT c]
          exact htry c
        · rw [dT (by omega), dF c, List.append_nil, hx n out c1 c2 (by omega)]
          -- what is left is tried itself
          have e : strip n 63 n = (1, 1) := by
            show strip n (61 + 1 + 1) n = _
            rw [strip, if_pos Int.emod_self, Int.ediv_self (by omega), strip, if_neg (by rw [Int.emod_eq_of_lt (by omega) (by omega)]; omega)]
          have hl2 := rparts_l2 (k := k) (fun n3 q2 k_1 out2 => bif (decide (k_1 > 0)) then
              (bif (decide ((out2 ++ ([(q2, k_1)] : List (Int × Int))).length < 1099511627776)) then (affidavitref02_Parts.L0 k x0 m n3 (IntKind.wrap .u64 (q2 + 1)) (out2 ++ ([(q2, k_1)] : List (Int × Int)))) else none)
            else
              (affidavitref02_Parts.L0 k x0 m n3 (IntKind.wrap .u64 (q2 + 1)) out2)) (q := n) (by omega) out 63 k 0 n (by omega) h1 (by simpa using h2) (by omega) (by omega)
          rw [show ((0 : Nat) : Int) = 0 from rfl, e] at hl2
          rw [hl2, dT (by decide), dT (by simp; omega)]
          obtain ⟨m, rfl⟩ : ∃ j, m = j + 1 := ⟨m - 1, by omega⟩
          simp only [affidavitref02_Parts.L0, affidavitref02_Parts.B0]
          rw [dF (p := (1 : Int) > 1) (by omega)]
          cases decide (IntKind.wrap .u64 (n + 1) ≤ 65536)
          · rw [cond_false]; rfl
          · rw [cond_true]; rfl
      · rw [dF c2, dT (by omega)]
        exact htry (by omega)
    · rw [dF c1, dF (by omega), List.append_nil]

theorem rparts_spec {n : Int} (h0 : 0 ≤ n) {k : Nat} (hk : 65540 ≤ k) {R : Type} (ret : List (Int × Int) → Int → Option R) : affidavitref02_Parts.f k n ret = ret (partsN n).1 (partsN n).2 := by
  obtain ⟨k, rfl⟩ : ∃ m, k = m + 1 := ⟨k - 1, by omega⟩
  simp only [affidavitref02_Parts.f]
  unfold partsN
  by_cases c0 : n = 0
  · rw [eT c0, dT (.inl c0)]
  · by_cases c1 : n > 9223372036854775807
    · rw [eF c0, dT c1, dT (.inr (by omega))]
    · rw [eF c0, dF c1, dF (by omega)]
      have hl := rparts_l0 (k := k) (by omega) (fun n6 out5 =>
          bif (decide (n6 ≥ 4294967296)) then
            (ret ([]) 3)
          else
            (bif (decide (n6 > 1)) then
              (bif (decide ((out5 ++ ([(n6, 1)] : List (Int × Int))).length < 1099511627776)) then (ret (out5 ++ ([(n6, 1)] : List (Int × Int))) 0) else none)
            else
              (ret out5 0))) (fun n out a1 a2 a3 => by
        show (bif _ then _ else _) = (bif _ then _ else _)
        rw [dF (by omega), dT a1, dT (by simp; omega), dF (by omega), dF (by omega)]) 65535 k 2 n [] (by omega) (by omega) (by omega) (by omega) (by omega) (by simp)
      rw [hl, List.nil_append]
      have hlen := (facs_spec 65535 2 n (by omega) (by omega) (by omega) (free2 n)).2.2.2.2.2.2
      by_cases c2 : (facs 65535 2 n).2 ≥ 4294967296
      · rw [dT c2, dT (p := 4294967296 ≤ (facs 65535 2 n).2) c2]
      · rw [dF c2, dF (p := 4294967296 ≤ (facs 65535 2 n).2) c2]
        by_cases c3 : (facs 65535 2 n).2 > 1
        · rw [dT c3, dT (by rw [List.length_append]; simp only [List.length_singleton]; omega), dT (p := 1 < (facs 65535 2 n).2) c3]
        · rw [dF c3, dF (p := 1 < (facs 65535 2 n).2) c3]
end Go.Proofs.Ytanpdkllnmeenaa.M

/- What a list shows is prime. -/
import Derived.Test.YtanpdkllnmeenaaAmInv
import Derived.Test.YtanpdkllnmeenaaAmAwake
import Derived.Test.YtanpdkllnmeenaaAmPartsL
namespace Go.Proofs.Ytanpdkllnmeenaa.Am
open Go Fp

theorem pr_mul {q : Nat} (hq : Pr q) {a b : Int} (h : (q : Int) ∣ a * b) : (q : Int) ∣ a ∨ (q : Int) ∣ b := by
  rw [Int.ofNat_dvd_left, Int.natAbs_mul] at h
  rw [Int.ofNat_dvd_left, Int.ofNat_dvd_left]
  exact hq.mul h
theorem dv_dvd {q : Nat} (hq : Pr q) {r : Int} : ∀ (t : Nat) (n v : Int), dv r t n = some v → (q : Int) ∣ n → (q : Int) ∣ r ∨ (q : Int) ∣ v
  | 0, n, v, h, hd => by simp [dv] at h; subst h; exact .inr hd
  | t + 1, n, v, h, hd => by
    simp only [dv] at h
    split at h
    · rename_i hm
      have e : n = r * (n / r) := by
        have := Int.mul_ediv_add_emod n r
        omega
      rw [e] at hd
      rcases pr_mul hq hd with h1 | h1
      · exact .inl h1
      · exact dv_dvd hq t _ v h h1
    · cases h
theorem pl_dvd {q : Nat} (hq : Pr q) : ∀ (l : List (Int × Int)) (n : Int), pl l n = some 1 → (q : Int) ∣ n → ∃ y ∈ l, (q : Int) ∣ y.1
  | [], n, h, hd => by
    simp [pl] at h; subst h
    have := Int.eq_one_of_dvd_one (by omega) hd
    have := hq.1
    omega
  | a :: r, n, h, hd => by
    rw [pl] at h
    by_cases c : 2 ≤ a.1 ∧ 1 ≤ a.2
    · rw [dT c] at h
      cases hd' : dv a.1 a.2.toNat n with
      | none => rw [hd'] at h; cases h
      | some w =>
        rw [hd'] at h
        rcases dv_dvd hq _ _ _ hd' hd with h1 | h1
        · exact ⟨a, List.mem_cons_self, h1⟩
        · obtain ⟨y, hy, hy2⟩ := pl_dvd hq r w h h1
          exact ⟨y, List.mem_cons_of_mem _ hy, hy2⟩
    · rw [dF c] at h; cases h
/-- A prime, as an integer. -/
def PrI (n : Int) : Prop := 2 ≤ n ∧ Pr n.toNat
theorem isB_pr {n : Int} : isB n ↔ PrI n := by
  constructor
  · rintro ⟨h2, h⟩
    refine ⟨h2, Pr.trial (by omega) fun d hd hdd hm => h d (by omega) ?_ ?_⟩
    · have : ((d * d : Nat) : Int) ≤ ((n.toNat : Nat) : Int) := by exact_mod_cast hdd
      rw [Int.toNat_of_nonneg (by omega)] at this
      simpa using this
    · have : ((n.toNat % d : Nat) : Int) = 0 := by rw [hm]; rfl
      rw [Int.natCast_emod, Int.toNat_of_nonneg (by omega)] at this
      exact this
  · rintro ⟨h2, h⟩
    refine ⟨h2, fun e he hee hm => ?_⟩
    refine h.no (d := e.toNat) (by omega) ?_ ?_
    · have : ((e.toNat * e.toNat : Nat) : Int) ≤ n.toNat := by
        rw [Int.natCast_mul, Int.toNat_of_nonneg (by omega), Int.toNat_of_nonneg (by omega)]; exact hee
      exact_mod_cast this
    · have : ((n.toNat % e.toNat : Nat) : Int) = 0 := by
        rw [Int.natCast_emod, Int.toNat_of_nonneg (by omega), Int.toNat_of_nonneg (by omega)]; exact hm
      exact_mod_cast this
end Go.Proofs.Ytanpdkllnmeenaa.Am
namespace Go.Proofs.Ytanpdkllnmeenaa.M
set_option linter.unusedVariables false
set_option maxRecDepth 100000
open Go Go.RowKit Go.Proofs Go.Proofs.Ytanpdkllnmeenaa.Am Fp

theorem pw_nat {p a n : Int} (hp : 0 ≤ p) (ha : 0 ≤ a) : pw p a n = ((a.toNat ^ n.toNat % p.toNat : Nat) : Int) := by
  unfold pw
  rw [Int.natCast_emod, Int.natCast_pow, Int.toNat_of_nonneg ha, Int.toNat_of_nonneg hp]
/-- The root of a proof whose parts are all prime. -/
theorem shows_root {kn : Int → Bool} (hkn : ∀ y, kn y = true → PrI y) {x : Int × Int × List (Int × Int)} (h : showsK kn x = true) :
    formB x = true ∧ x.2.1.toNat ^ (x.1.toNat - 1) % x.1.toNat = 1 ∧ ∀ q, Pr q → q ∣ x.1.toNat - 1 → x.2.1.toNat ^ ((x.1.toNat - 1) / q) % x.1.toNat ≠ 1 := by
  unfold showsK at h
  rw [Bool.and_eq_true, Bool.and_eq_true, List.all_eq_true] at h
  obtain ⟨h1, h2, h3⟩ := h
  obtain ⟨⟨a1, a2, a3, a4, a5, a6⟩, _, hp⟩ := form_facts h1
  have h2 := beq_iff_eq.1 h2
  rw [pw_nat (by omega) (by omega)] at h2
  have e1 : (x.1 - 1).toNat = x.1.toNat - 1 := by omega
  rw [e1] at h2
  refine ⟨h1, by omega, fun q hq hd hc => ?_⟩
  have hd' : (q : Int) ∣ x.1 - 1 := by
    have : (q : Int) ∣ ((x.1.toNat - 1 : Nat) : Int) := Int.natCast_dvd_natCast.2 hd
    have e : ((x.1.toNat - 1 : Nat) : Int) = x.1 - 1 := by omega
    rwa [e] at this
  obtain ⟨y, hy, hqy⟩ := pl_dvd hq _ _ hp hd'
  have h4 := h3 y hy
  rw [Bool.and_eq_true] at h4
  have hpy := hkn _ h4.1
  have hqe : q = y.1.toNat := by
    have : q ∣ y.1.toNat := by
      rw [Int.ofNat_dvd_left] at hqy
      have : y.1.natAbs = y.1.toNat := by have := hpy.1; omega
      rwa [this] at hqy
    rcases hpy.2.2 q this with e | e
    · have := hq.1; omega
    · exact e
  have h5 : ¬ pw x.1 x.2.1 ((x.1 - 1) / y.1) = 1 := fun h => by
    rw [beq_iff_eq.2 h] at h4
    simp at h4
  apply h5
  rw [pw_nat (by omega) (by omega)]
  have hpy1 := hpy.1
  have e2 : ((x.1 - 1) / y.1).toNat = (x.1.toNat - 1) / q := by
    have : (x.1 - 1) / y.1 = (((x.1.toNat - 1) / q : Nat) : Int) := by
      rw [Int.natCast_ediv, hqe, Int.toNat_of_nonneg (by omega)]
      congr 1
      omega
    rw [this, Int.toNat_natCast]
  rw [e2]
  omega
theorem shows_prime {kn : Int → Bool} (hkn : ∀ y, kn y = true → PrI y) {x : Int × Int × List (Int × Int)} (h : showsK kn x = true) : PrI x.1 := by
  obtain ⟨h1, h2, h3⟩ := shows_root hkn h
  obtain ⟨⟨a1, a2, a3, a4, a5, a6⟩, _, hp⟩ := form_facts h1
  exact ⟨by omega, root_prime (by omega) h2 h3⟩

theorem firstFrom_le : ∀ (l : List (Int × Int × List (Int × Int))) (i : Nat) (last : Int) (m : List (Unit × Int × Bool)), i ≤ firstFrom i last l m ∧ firstFrom i last l m ≤ i + l.length
  | [], i, last, m => by rw [firstFrom]; simp
  | x :: r, i, last, m => by
    rw [firstFrom]
    have := firstFrom_le r (i + 1) x.1 (mset m x.1 true)
    rw [List.length_cons]
    cases decide (i < 200) && (decide (i = 0 ∨ last < x.1) && showsB m x)
    · rw [cond_false]; omega
    · rw [cond_true]; omega
theorem firstFrom_cons {x : Int × Int × List (Int × Int)} {r : List (Int × Int × List (Int × Int))} {i : Nat} {last : Int} {m : List (Unit × Int × Bool)} (h : firstFrom i last (x :: r) m = i + (x :: r).length) :
    i < 200 ∧ (i = 0 ∨ last < x.1) ∧ showsB m x = true ∧ firstFrom (i + 1) x.1 r (mset m x.1 true) = (i + 1) + r.length := by
  rw [firstFrom, List.length_cons] at h
  cases hc : decide (i < 200) && (decide (i = 0 ∨ last < x.1) && showsB m x) with
  | false => rw [hc, cond_false] at h; omega
  | true =>
    rw [hc, cond_true] at h
    rw [Bool.and_eq_true, Bool.and_eq_true] at hc
    exact ⟨of_decide_eq_true hc.1, of_decide_eq_true hc.2.1, hc.2.2, by omega⟩
/-- All that a list shows is prime. -/
theorem first_prime : ∀ (l : List (Int × Int × List (Int × Int))) (i : Nat) (last : Int) (m : List (Unit × Int × Bool)), (∀ y, mget false m y = true → PrI y) → firstFrom i last l m = i + l.length →
    ∀ x ∈ l, PrI x.1 ∧ formB x = true ∧ x.2.1.toNat ^ (x.1.toNat - 1) % x.1.toNat = 1 ∧ ∀ q, Pr q → q ∣ x.1.toNat - 1 → x.2.1.toNat ^ ((x.1.toNat - 1) / q) % x.1.toNat ≠ 1
  | [], i, last, m, hm, h, x, hx => by cases hx
  | y :: r, i, last, m, hm, h, x, hx => by
    obtain ⟨_, _, h1, h2⟩ := firstFrom_cons h
    rw [showsB_K] at h1
    have hp := shows_prime hm h1
    rcases List.mem_cons.1 hx with rfl | hx
    · exact ⟨hp, shows_root hm h1⟩
    · refine first_prime r (i + 1) y.1 _ (fun z hz => ?_) h2 x hx
      rw [mget_mset] at hz
      split at hz
      · rename_i e; rw [← e]; exact hp
      · exact hm z hz
theorem two_prime : PrI 2 := ⟨by omega, Fp.trialB_spec (n := 2) (by decide)⟩
theorem known_two : ∀ y, mget false (mset [] 2 true) y = true → PrI y := by
  intro y hy
  rw [mget_mset] at hy
  split at hy
  · rename_i e; rw [← e]; exact two_prime
  · simp [mget] at hy
theorem list_prime {l : List (Int × Int × List (Int × Int))} (h : firstN l = l.length) : ∀ x ∈ l, PrI x.1 ∧ formB x = true ∧ x.2.1.toNat ^ (x.1.toNat - 1) % x.1.toNat = 1 ∧ ∀ q, Pr q → q ∣ x.1.toNat - 1 → x.2.1.toNat ^ ((x.1.toNat - 1) / q) % x.1.toNat ≠ 1 :=
  first_prime l 0 0 _ known_two (by rw [Nat.zero_add]; exact h)
theorem first_take : ∀ (l : List (Int × Int × List (Int × Int))) (j i : Nat) (last : Int) (m : List (Unit × Int × Bool)), firstFrom i last l m = i + l.length → firstFrom i last (l.take j) m = i + (l.take j).length
  | [], j, i, last, m, h => by rw [List.take_nil]; exact h
  | x :: r, 0, i, last, m, h => by rw [List.take_zero, firstFrom]; rfl
  | x :: r, j + 1, i, last, m, h => by
    obtain ⟨h1, h2, h3, h4⟩ := firstFrom_cons h
    rw [List.take_succ_cons, firstFrom, decide_eq_true h1, decide_eq_true h2, h3, Bool.true_and, Bool.true_and, cond_true, first_take r j _ _ _ h4, List.length_cons]
    omega
theorem list_take {l : List (Int × Int × List (Int × Int))} (h : firstN l = l.length) (j : Nat) : firstN (l.take j) = (l.take j).length := by
  have := first_take l j 0 0 _ (by rw [Nat.zero_add]; exact h)
  rwa [Nat.zero_add] at this
/-- Fermat: of a number of a list each power N - 1 is 1. -/
theorem fermat {g N : Nat} (hN : 2 ≤ N) (h1 : g ^ (N - 1) % N = 1) (hq : ∀ q, Pr q → q ∣ N - 1 → g ^ ((N - 1) / q) % N ≠ 1) (a : Nat) (ha0 : 0 < a) (ha : a < N) : a ^ (N - 1) % N = 1 := by
  obtain ⟨i, _, hi⟩ := root_all hN h1 hq a ha0 ha
  rw [← hi, ← Nat.pow_mod, ← Nat.pow_mul, Nat.mul_comm, Nat.pow_mul, Nat.pow_mod, h1, Nat.one_pow, Nat.mod_eq_of_lt (by omega)]
theorem pr_coprime {p a : Nat} (hp : Pr p) (h0 : 0 < a) (h1 : a < p) : Nat.gcd p a = 1 := by
  rw [Nat.gcd_comm]
  exact hp.coprime fun h => by have := Nat.le_of_dvd h0 h; omega
end Go.Proofs.Ytanpdkllnmeenaa.M

/- Primes: plain laws, no program. -/
import Derived.Test.YtanpdkllnmeenaaAmNum
set_option linter.unusedVariables false
namespace Fp
theorem least (P : Nat → Prop) (h : ∃ n, P n) : ∃ n, P n ∧ ∀ m, m < n → ¬ P m := by
  obtain ⟨n, hn⟩ := h
  induction n using Nat.strongRecOn with
  | _ n ih =>
    by_cases h : ∃ m, m < n ∧ P m
    · obtain ⟨m, hm, hP⟩ := h
      exact ih m hm hP
    · exact ⟨n, hn, fun m hm hP => h ⟨m, hm, hP⟩⟩

/-- A prime. -/
def Pr (n : Nat) : Prop := 2 ≤ n ∧ ∀ d, d ∣ n → d = 1 ∨ d = n
theorem bez (m n : Nat) : ∃ x y : Int, (m : Int) * x + n * y = (Nat.gcd m n : Int) := by
  induction m, n using Nat.gcd.induction with
  | H0 n => exact ⟨0, 1, by rw [Nat.gcd_zero_left]; omega⟩
  | H1 m n hm ih =>
    obtain ⟨x, y, h⟩ := ih
    refine ⟨y - (n / m : Nat) * x, x, ?_⟩
    rw [Nat.gcd_rec, ← h]
    have e : (n : Int) = (m : Int) * ((n / m : Nat) : Int) + ((n % m : Nat) : Int) := by
      have := Nat.div_add_mod n m
      exact_mod_cast this.symm
    generalize (n / m : Nat) = q at e ⊢
    generalize (n % m : Nat) = r at e ⊢
    rw [e]
    grind
theorem Pr.coprime {p a : Nat} (hp : Pr p) (h : ¬ p ∣ a) : Nat.gcd a p = 1 := by
  rcases hp.2 _ (Nat.gcd_dvd_right a p) with e | e
  · exact e
  · exact absurd (by rw [← e]; exact Nat.gcd_dvd_left a p) h
theorem Pr.mul {q a b : Nat} (hq : Pr q) (h : q ∣ a * b) : q ∣ a ∨ q ∣ b := by
  by_cases c : q ∣ a
  · exact .inl c
  · have h1 : Nat.Coprime q a := by
      have := hq.coprime c
      rw [Nat.gcd_comm] at this
      exact this
    exact .inr (h1.dvd_of_dvd_mul_left h)
theorem Pr.fac : ∀ n, 2 ≤ n → ∃ q, Pr q ∧ q ∣ n := by
  intro n
  induction n using Nat.strongRecOn with
  | ind n ih =>
    intro h
    by_cases hp : Pr n
    · exact ⟨n, hp, Nat.dvd_refl n⟩
    · have : ∃ d, d ∣ n ∧ d ≠ 1 ∧ d ≠ n := by
        apply Classical.byContradiction
        intro hc
        apply hp
        refine ⟨h, fun d hd => ?_⟩
        by_cases h1 : d = 1
        · exact .inl h1
        · exact .inr (Classical.byContradiction fun h2 => hc ⟨d, hd, h1, h2⟩)
      obtain ⟨d, hd, h1, h2⟩ := this
      have hle := Nat.le_of_dvd (by omega) hd
      have hd0 : d ≠ 0 := by
        rintro rfl
        have := Nat.eq_zero_of_zero_dvd hd
        omega
      obtain ⟨q, hq, hqd⟩ := ih d (by omega) (by omega)
      exact ⟨q, hq, Nat.dvd_trans hqd hd⟩
/-- No divisor up to the root: a prime. -/
theorem Pr.trial {n : Nat} (h2 : 2 ≤ n) (h : ∀ d, 2 ≤ d → d * d ≤ n → n % d ≠ 0) : Pr n := by
  refine ⟨h2, fun d hd => ?_⟩
  obtain ⟨e, he⟩ := hd
  by_cases h1 : d = 1
  · exact .inl h1
  · right
    apply Classical.byContradiction
    intro hn
    have hd0 : d ≠ 0 := by rintro rfl; omega
    have he0 : e ≠ 0 := by rintro rfl; omega
    have he1 : e ≠ 1 := by rintro rfl; omega
    rcases Nat.le_total d e with hle | hle
    · exact h d (by omega) (by rw [he]; exact Nat.mul_le_mul_left d hle) (by rw [he]; exact Nat.mul_mod_right d e)
    · exact h e (by omega) (by rw [he]; exact Nat.mul_le_mul_right e hle) (by rw [he]; exact Nat.mul_mod_left d e)
theorem Pr.no {n d : Nat} (hp : Pr n) (h2 : 2 ≤ d) (hd : d * d ≤ n) : n % d ≠ 0 := by
  intro h
  rcases hp.2 d (Nat.dvd_of_mod_eq_zero h) with e | e
  · omega
  · subst e
    have := Nat.mul_le_mul_left d h2
    omega

/-- Modulo a prime each number but 0 has an inverse. -/
theorem pigeon : ∀ (n : Nat) (f : Nat → Nat), (∀ i, i < n → f i < n) → (∀ i j, i < n → j < n → f i = f j → i = j) → ∀ v, v < n → ∃ i, i < n ∧ f i = v := by
  intro n
  induction n with
  | zero => intro f _ _ v hv; omega
  | succ n ih =>
    intro f hr hi v hv
    have hw := hr n (by omega)
    have h1 : ∀ i, i < n → (if f i = n then f n else f i) < n := by
      intro i hlt
      have h2 := hr i (by omega)
      split
      · rename_i hc
        have : f n ≠ n := fun h => by have := hi i n (by omega) (by omega) (hc.trans h.symm); omega
        omega
      · rename_i hc
        omega
    have h2 : ∀ i j, i < n → j < n → (if f i = n then f n else f i) = (if f j = n then f n else f j) → i = j := by
      intro i j hil hjl h
      split at h
      · rename_i c1
        split at h
        · rename_i c2
          exact hi i j (by omega) (by omega) (c1.trans c2.symm)
        · have := hi n j (by omega) (by omega) h
          omega
      · split at h
        · have := hi i n (by omega) (by omega) h
          omega
        · exact hi i j (by omega) (by omega) h
    have hih := ih (fun i => if f i = n then f n else f i) h1 h2
    by_cases c : v = f n
    · exact ⟨n, by omega, c.symm⟩
    · by_cases c2 : v < n
      · obtain ⟨i, hil, h⟩ := hih v c2
        by_cases c3 : f i = n
        · simp only [if_pos c3] at h
          exact absurd h.symm c
        · simp only [if_neg c3] at h
          exact ⟨i, by omega, h⟩
      · have hv' : v = n := by omega
        have hlt : f n < n := by omega
        obtain ⟨i, hil, h⟩ := hih (f n) hlt
        by_cases c3 : f i = n
        · exact ⟨i, by omega, by omega⟩
        · simp only [if_neg c3] at h
          have := hi i n (by omega) (by omega) h
          omega
theorem pow_mod_mod (g N i : Nat) (hN : 1 < N) : (g ^ (i + 1)) % N = (g ^ i % N * g) % N := by rw [Nat.pow_succ, Nat.mod_mul_mod]
/-- The least power that is 1 divides each that is. -/
theorem ord_dvd {g N d m : Nat} (hN : 1 < N) (hd : g ^ d % N = 1) (hd0 : 0 < d) (hmin : ∀ e, 0 < e → e < d → g ^ e % N ≠ 1) (hm : g ^ m % N = 1) : d ∣ m := by
  have e := Nat.div_add_mod m d
  have h1 : g ^ (m % d) % N = 1 := by
    rw [← e, Nat.pow_add, Nat.pow_mul, Nat.mul_mod, Nat.pow_mod, hd, Nat.one_pow, Nat.mod_eq_of_lt hN, Nat.one_mul, Nat.mod_mod] at hm
    exact hm
  by_cases c : m % d = 0
  · exact Nat.dvd_of_mod_eq_zero c
  · exact absurd h1 (hmin _ (by omega) (Nat.mod_lt _ hd0))
theorem root_inj {g N : Nat} (hN : 2 ≤ N) (h1 : g ^ (N - 1) % N = 1) (hq : ∀ q, Pr q → q ∣ N - 1 → g ^ ((N - 1) / q) % N ≠ 1) (d : Nat) (hd0 : 0 < d) (hd : g ^ d % N = 1) : N - 1 ≤ d := by
  obtain ⟨m, ⟨hm0, hm⟩, hmin⟩ := least (fun d => 0 < d ∧ g ^ d % N = 1) ⟨d, hd0, hd⟩
  have hmd : m ≤ d := Nat.le_of_not_lt fun h => hmin d h ⟨hd0, hd⟩
  have hdvd := ord_dvd (by omega) hm hm0 (fun e h0 hlt he => hmin e hlt ⟨h0, he⟩) h1
  obtain ⟨c, hc⟩ := hdvd
  by_cases hc1 : c = 1
  · subst hc1; omega
  · exfalso
    have hc0 : c ≠ 0 := by rintro rfl; omega
    obtain ⟨q, hqp, ⟨e, he⟩⟩ := Pr.fac c (by omega)
    have hqd : q ∣ N - 1 := ⟨m * e, by rw [hc, he]; grind⟩
    apply hq q hqp hqd
    have : (N - 1) / q = m * e := by
      rw [hc, he]
      have : m * (q * e) = q * (m * e) := by grind
      rw [this]
      exact Nat.mul_div_cancel_left _ (by have := hqp.1; omega)
    rw [this, Nat.pow_mul, Nat.pow_mod, hm, Nat.one_pow, Nat.mod_eq_of_lt (by omega)]
theorem root_all {g N : Nat} (hN : 2 ≤ N) (h1 : g ^ (N - 1) % N = 1) (hq : ∀ q, Pr q → q ∣ N - 1 → g ^ ((N - 1) / q) % N ≠ 1) (a : Nat) (ha0 : 0 < a) (ha : a < N) : ∃ i, i < N - 1 ∧ g ^ i % N = a := by
  have hmul : ∀ i j, g ^ (i + j) % N = (g ^ i % N) * (g ^ j % N) % N := fun i j => by rw [Nat.pow_add, Nat.mul_mod]
  have hpos : ∀ i, i < N - 1 → 0 < g ^ i % N := by
    intro i hi
    apply Nat.pos_of_ne_zero
    intro h
    have h2 := hmul i (N - 1 - i)
    rw [h, Nat.zero_mul, Nat.zero_mod, show i + (N - 1 - i) = N - 1 by omega, h1] at h2
    omega
  have hinj : ∀ i j, i ≤ j → j < N - 1 → g ^ i % N = g ^ j % N → i = j := by
    intro i j hij hj h
    apply Classical.byContradiction
    intro hne
    have h3 : g ^ (j - i) % N = 1 := by
      have e1 := hmul j (N - 1 - i)
      have e2 := hmul i (N - 1 - i)
      rw [← h, ← e2, show i + (N - 1 - i) = N - 1 by omega, h1, show j + (N - 1 - i) = (N - 1) + (j - i) by omega, hmul, h1, Nat.one_mul, Nat.mod_mod] at e1
      exact e1
    have := root_inj hN h1 hq (j - i) (by omega) h3
    omega
  obtain ⟨i, hi, h⟩ := pigeon (N - 1) (fun i => g ^ i % N - 1) (fun i hi => by have := Nat.mod_lt (g ^ i) (show 0 < N by omega); have := hpos i hi; show g ^ i % N - 1 < N - 1; omega)
    (fun i j hi hj h => by
      have := hpos i hi
      have := hpos j hj
      have h' : g ^ i % N - 1 = g ^ j % N - 1 := h
      rcases Nat.le_total i j with c | c
      · exact hinj i j c hj (by omega)
      · exact (hinj j i c hi (by omega)).symm) (a - 1) (by omega)
  refine ⟨i, hi, ?_⟩
  have := hpos i hi
  have h' : g ^ i % N - 1 = a - 1 := h
  omega
theorem root_prime {g N : Nat} (hN : 2 ≤ N) (h1 : g ^ (N - 1) % N = 1) (hq : ∀ q, Pr q → q ∣ N - 1 → g ^ ((N - 1) / q) % N ≠ 1) : Pr N := by
  refine ⟨hN, fun d hd => ?_⟩
  obtain ⟨e, he⟩ := hd
  by_cases hdN : d = N
  · exact .inr hdN
  · left
    have hd0 : 0 < d := Nat.pos_of_ne_zero (by rintro rfl; omega)
    have he0 : 0 < e := Nat.pos_of_ne_zero (by rintro rfl; omega)
    have he1 : e ≠ 1 := by rintro rfl; omega
    have hlt : d < N := by rw [he]; exact (Nat.lt_mul_iff_one_lt_right hd0).2 (by omega)
    obtain ⟨i, hi, h⟩ := root_all hN h1 hq d hd0 hlt
    -- d times something is 1
    have h2 : (d * (g ^ (N - 1 - i) % N)) % N = 1 := by
      rw [← h, ← Nat.mul_mod, ← Nat.pow_add, show i + (N - 1 - i) = N - 1 by omega, h1]
    have h3 : d ∣ 1 := by
      have h4 := Nat.div_add_mod (d * (g ^ (N - 1 - i) % N)) N
      rw [h2] at h4
      have h5 : d ∣ N * (d * (g ^ (N - 1 - i) % N) / N) := ⟨e * (d * (g ^ (N - 1 - i) % N) / N), by rw [← Nat.mul_assoc, ← he]⟩
      have h6 : d ∣ N * (d * (g ^ (N - 1 - i) % N) / N) + 1 := by rw [h4]; exact Nat.dvd_mul_right _ _
      exact (Nat.dvd_add_right h5).1 h6
    exact Nat.dvd_one.1 h3

/-! ### Told by a list of primes -/
/-- A power, modulo N, by squares. -/
def pm (N : Nat) : Nat → Nat → Nat → Nat
  | 0, _, _ => 1 % N
  | f + 1, g, e => if e = 0 then 1 % N else if e % 2 = 1 then (g * pm N f (g * g % N) (e / 2)) % N else pm N f (g * g % N) (e / 2)
theorem pm_eq (N : Nat) : ∀ f g e, e < 2 ^ f → pm N f g e = g ^ e % N := by
  intro f
  induction f with
  | zero =>
    intro g e h
    have : e = 0 := by simpa using h
    subst this
    rfl
  | succ f ih =>
    intro g e h
    unfold pm
    by_cases c : e = 0
    · rw [if_pos c, c]
      rfl
    · rw [if_neg c]
      have hlt : e / 2 < 2 ^ f := by rw [Nat.pow_succ] at h; omega
      have e1 := Nat.div_add_mod e 2
      have sq : (g * g) ^ (e / 2) = g ^ (2 * (e / 2)) := by rw [Nat.pow_mul, Nat.pow_two]
      by_cases c2 : e % 2 = 1
      · rw [if_pos c2, ih _ _ hlt, ← Nat.pow_mod, sq, Nat.mul_mod_mod, ← Nat.pow_succ']
        congr 2
        omega
      · rw [if_neg c2, ih _ _ hlt, ← Nat.pow_mod, sq]
        congr 2
        omega
def trialB (n : Nat) : Bool := decide (2 ≤ n) && (List.range n).all fun d => decide (d < 2) || decide (n < d * d) || decide (n % d ≠ 0)
theorem trialB_spec {n : Nat} (h : trialB n = true) : Pr n := by
  unfold trialB at h
  simp only [Bool.and_eq_true, Bool.or_eq_true, decide_eq_true_eq, List.all_eq_true, List.mem_range] at h
  refine Pr.trial h.1 fun d h2 hd => ?_
  have hdn : d < n := by
    have := Nat.mul_le_mul_left d h2
    omega
  rcases h.2 d hdn with (c | c) | c
  · omega
  · omega
  · exact c
theorem prime_in_prod {q : Nat} (hq : Pr q) : ∀ (fs : List Nat), (∀ f ∈ fs, Pr f) → q ∣ fs.foldr (· * ·) 1 → q ∈ fs
  | [], _, h => by
    have := Nat.dvd_one.1 h
    have := hq.1
    omega
  | f :: fs, hp, h => by
    rcases hq.mul h with h1 | h1
    · rcases (hp f List.mem_cons_self).2 q h1 with e | e
      · have := hq.1; omega
      · subst e; exact List.mem_cons_self
    · exact List.mem_cons_of_mem _ (prime_in_prod hq fs (fun f hf => hp f (List.mem_cons_of_mem _ hf)) h1)
def certB (N g : Nat) (fs : List Nat) : Bool := decide (2 ≤ N) && decide (N < 2 ^ 64) && decide (fs.foldr (· * ·) 1 = N - 1) && fs.all trialB && decide (pm N 64 g (N - 1) = 1) && fs.all fun q => decide (pm N 64 g ((N - 1) / q) ≠ 1)
theorem certB_spec {N g : Nat} {fs : List Nat} (h : certB N g fs = true) : Pr N := by
  unfold certB at h
  simp only [Bool.and_eq_true, decide_eq_true_eq, List.all_eq_true] at h
  obtain ⟨⟨⟨⟨⟨h1, h2⟩, h3⟩, h4⟩, h5⟩, h6⟩ := h
  rw [pm_eq _ _ _ _ (by omega)] at h5
  refine root_prime h1 h5 fun q hq hd => ?_
  have hm := prime_in_prod hq fs (fun f hf => trialB_spec (h4 f hf)) (by rw [h3]; exact hd)
  have := h6 q hm
  rwa [pm_eq _ _ _ _ (by have := Nat.div_le_self (N - 1) q; omega)] at this
end Fp

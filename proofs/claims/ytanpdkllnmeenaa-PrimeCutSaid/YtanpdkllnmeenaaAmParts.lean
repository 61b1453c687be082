/- Parts: a number's primes. The program's, and the reference's. -/
import Derived.Test.YtanpdkllnmeenaaAmForm
namespace Go.Proofs.Ytanpdkllnmeenaa.Am
set_option linter.unusedVariables false
/-- How often q goes into n, and what is left. -/
def strip (q : Int) : Nat → Int → Nat × Int
  | 0, n => (0, n)
  | f + 1, n => if n % q = 0 then ((strip q f (n / q)).1 + 1, (strip q f (n / q)).2) else (0, n)
def cons0 (q : Int) (t : Nat) (l : List (Int × Int)) : List (Int × Int) := bif decide (0 < t) then (q, (t : Int)) :: l else l
/-- The parts from q on, d numbers at most; and what is left. -/
def facs : Nat → Int → Int → List (Int × Int) × Int
  | 0, _, n => ([], n)
  | d + 1, q, n => bif decide (q * q ≤ n) then (cons0 q (strip q 63 n).1 (facs d (q + 1) (strip q 63 n).2).1, (facs d (q + 1) (strip q 63 n).2).2) else ([], n)

theorem strip_spec {q : Int} (hq : 2 ≤ q) : ∀ (f : Nat) (n : Int), 1 ≤ n → n < 2 ^ f → dv q (strip q f n).1 n = some (strip q f n).2 ∧ (strip q f n).2 % q ≠ 0 ∧ 1 ≤ (strip q f n).2 ∧ (strip q f n).2 ≤ n ∧ (strip q f n).2 ∣ n ∧ (0 < (strip q f n).1 → n % q = 0) ∧ (strip q f n).1 ≤ f
  | 0, n, h1, h2 => by simp at h2; omega
  | f + 1, n, h1, h2 => by
    unfold strip
    by_cases h : n % q = 0
    · obtain ⟨a1, a2, _, a3⟩ := div_half hq h1 h2 h
      obtain ⟨b1, b2, b3, b4, b5, b6, b7⟩ := strip_spec hq f (n / q) a1 (by simpa using a2)
      rw [if_pos h]
      refine ⟨?_, b2, b3, by omega, ?_, fun _ => h, by omega⟩
      · rw [dv, if_pos h]; exact b1
      · exact Int.dvd_trans b5 ⟨q, (Int.ediv_mul_cancel (Int.dvd_of_emod_eq_zero h)).symm⟩
    · rw [if_neg h]
      exact ⟨rfl, h, h1, Int.le_refl _, Int.dvd_refl _, fun h => absurd h (by simp), by simp⟩

/-- No number from 2 to below q goes into n. -/
def Free (q n : Int) : Prop := ∀ e, 2 ≤ e → e < q → n % e ≠ 0
/-- Prime. -/
def isB (n : Int) : Prop := 2 ≤ n ∧ ∀ e, 2 ≤ e → e * e ≤ n → n % e ≠ 0
theorem Free.dvd {q n m : Int} (h : Free q n) (hd : m ∣ n) : Free q m := fun e h2 h3 h4 => h e h2 h3 (Int.emod_eq_zero_of_dvd (Int.dvd_trans (Int.dvd_of_emod_eq_zero h4) hd))
theorem Free.next {q n : Int} (h : Free q n) (hq : n % q ≠ 0) : Free (q + 1) n := fun e h2 h3 => by
  by_cases he : e = q
  · rw [he]; exact hq
  · exact h e h2 (by omega)
/-- A number into which q goes, the first one, is prime: q. -/
theorem Free.isB {q n : Int} (h : Free q n) (hq : 2 ≤ q) (hd : n % q = 0) : isB q := ⟨hq, fun e h2 h3 h4 => by
  have hlt : e < q := by
    have : 2 * e ≤ e * e := Int.mul_le_mul_of_nonneg_right h2 (by omega)
    omega
  exact h e h2 hlt (Int.emod_eq_zero_of_dvd (Int.dvd_trans (Int.dvd_of_emod_eq_zero h4) (Int.dvd_of_emod_eq_zero hd)))⟩
theorem Free.last {q n : Int} (h : Free q n) (hn : 2 ≤ n) (hq : n < q * q) (hq0 : 0 ≤ q) : Am.isB n ∧ q ≤ n := by
  refine ⟨⟨hn, fun e h2 h3 => h e h2 ?_⟩, ?_⟩
  · apply Classical.byContradiction
    intro hlt
    have : q * q ≤ e * e := Int.mul_le_mul (by omega) (by omega) hq0 (by omega)
    omega
  · apply Classical.byContradiction
    intro hlt
    exact h n hn (by omega) (Int.emod_self)

/-- What the parts are. -/
theorem facs_spec : ∀ (d : Nat) (q n : Int), 2 ≤ q → 1 ≤ n → n < 9223372036854775808 → Free q n →
    (∀ v, pl (facs d q n).1 n = some v ↔ v = (facs d q n).2) ∧ (∀ y ∈ (facs d q n).1, q ≤ y.1 ∧ y.1 < q + d ∧ 1 ≤ y.2 ∧ y.2 ≤ 63 ∧ isB y.1) ∧ inc (facs d q n).1 = true ∧ 1 ≤ (facs d q n).2 ∧ (facs d q n).2 ≤ n ∧ (2 ≤ (facs d q n).2 → (∃ e, Free e (facs d q n).2 ∧ q ≤ e ∧ (∀ y ∈ (facs d q n).1, y.1 < e) ∧ (e = q + d ∨ (facs d q n).2 < e * e))) ∧ (facs d q n).1.length ≤ d
  | 0, q, n, hq, h1, h2, hf => by
    refine ⟨fun v => ?_, fun y hy => (by cases hy), rfl, h1, Int.le_refl _, fun h => ⟨q, hf, Int.le_refl _, fun y hy => (by cases hy), .inl (by simp)⟩, by simp [facs]⟩
    simp only [facs, pl]
    exact ⟨fun h => (Option.some.inj h).symm, fun h => by rw [h]⟩
  | d + 1, q, n, hq, h1, h2, hf => by
    rw [facs]
    by_cases c : q * q ≤ n
    · rw [dT c]
      obtain ⟨b1, b2, b3, b4, b5, b6, b7⟩ := strip_spec hq 63 n h1 (by simpa using h2)
      obtain ⟨c1, c2, c3, c4, c5, c6, c7⟩ := facs_spec d (q + 1) (strip q 63 n).2 (by omega) b3 (by omega) ((hf.dvd b5).next b2)
      generalize facs d (q + 1) (strip q 63 n).2 = F at c1 c2 c3 c4 c5 c6 c7 ⊢
      by_cases ht : 0 < (strip q 63 n).1
      · have e : cons0 q (strip q 63 n).1 F.1 = (q, ((strip q 63 n).1 : Int)) :: F.1 := by unfold cons0; rw [dT ht]
        simp only [e]
        refine ⟨fun v => ?_, fun y hy => ?_, ?_, c4, by omega, fun h => ?_, by simp; omega⟩
        · rw [pl, dT ⟨hq, by simp; omega⟩, Int.toNat_natCast, b1, Option.bind_some]; exact c1 v
        · cases hy with
          | head => exact ⟨by simp, by simp; omega, by simp; omega, by simp; omega, hf.isB hq (b6 ht)⟩
          | tail _ hy => have := c2 y hy; exact ⟨by omega, by omega, this.2.2.1, this.2.2.2.1, this.2.2.2.2⟩
        · cases hF : F.1 with
          | nil => rfl
          | cons y r =>
            rw [inc, ← hF, c3, Bool.and_true]
            have := c2 y (by rw [hF]; exact List.mem_cons_self ..)
            exact decide_eq_true (by simp; omega)
        · obtain ⟨e, e1, e2, e3, e4⟩ := c6 h
          refine ⟨e, e1, by omega, fun y hy => ?_, ?_⟩
          · cases hy with
            | head => simp; omega
            | tail _ hy => exact e3 y hy
          · rcases e4 with e4 | e4
            · exact .inl (by simp; omega)
            · exact .inr e4
      · have e : cons0 q (strip q 63 n).1 F.1 = F.1 := by unfold cons0; rw [dF ht]
        have e0 : (strip q 63 n).1 = 0 := by omega
        rw [e0] at b1
        have e2 : (strip q 63 n).2 = n := by simpa [dv] using b1.symm
        simp only [e]
        refine ⟨fun v => ?_, fun y hy => ?_, c3, c4, by omega, fun h => ?_, by omega⟩
        · rw [← e2]; exact c1 v
        · have := c2 y hy; exact ⟨by omega, by omega, this.2.2.1, this.2.2.2.1, this.2.2.2.2⟩
        · obtain ⟨e, e1, e2, e3, e4⟩ := c6 h
          refine ⟨e, e1, by omega, e3, ?_⟩
          rcases e4 with e4 | e4
          · exact .inl (by simp; omega)
          · exact .inr e4
    · rw [dF c]
      refine ⟨fun v => ?_, fun y hy => (by cases hy), rfl, h1, Int.le_refl _, fun h => ⟨q, hf, Int.le_refl _, fun y hy => (by cases hy), .inr (by simp; omega)⟩, by simp⟩
      simp only [pl]
      exact ⟨fun h => (Option.some.inj h).symm, fun h => by rw [h]⟩
/-- A prime has no parts ahead of itself. -/
theorem facs_prime {n : Int} (hn : isB n) : ∀ (d : Nat) (q : Int), 2 ≤ q → facs d q n = ([], n)
  | 0, q, hq => rfl
  | d + 1, q, hq => by
    rw [facs]
    by_cases c : q * q ≤ n
    · have h := hn.2 q hq c
      have e : strip q 63 n = (0, n) := by show strip q (62 + 1) n = _; rw [strip, if_neg h]
      rw [dT c, e, facs_prime hn d (q + 1) (by omega)]
      rfl
    · rw [dF c]
end Go.Proofs.Ytanpdkllnmeenaa.Am

/- Numbers of the machine: plain laws, no program. -/
import Derived.Laws.BitsLemmas
import Derived.Test.YtanpdkllnmeenaaAmCore
namespace Go.Proofs.Ytanpdkllnmeenaa.Am
set_option linter.unusedVariables false
open Go

section
variable {α : Type} {a b : α}
theorem dT {p : Prop} [Decidable p] (h : p) : (bif decide p then a else b) = a := by rw [decide_eq_true h]; rfl
theorem dF {p : Prop} [Decidable p] (h : ¬ p) : (bif decide p then a else b) = b := by rw [decide_eq_false h]; rfl
theorem eT {x y : Int} (h : x = y) : (bif x == y then a else b) = a := by subst h; simp
theorem eF {x y : Int} (h : x ≠ y) : (bif x == y then a else b) = b := by rw [beq_eq_false_iff_ne.2 h]; rfl
theorem nT {x y : Int} (h : x ≠ y) : (bif x != y then a else b) = a := by rw [bne_iff_ne.2 h]; rfl
theorem nF {x y : Int} (h : x = y) : (bif x != y then a else b) = b := by rw [bne_eq_false_iff_eq.2 h]; rfl
theorem aT {p q : Prop} [Decidable p] [Decidable q] (h : p ∧ q) : (bif decide p && decide q then a else b) = a := by simp [h.1, h.2]
end

theorem shr32 (x : Int) : Int.fdiv x (2 ^ (min (32 : Int).toNat (IntKind.bits .u64))) = x / 4294967296 := Int.fdiv_eq_ediv_of_nonneg _ (by decide)
theorem shr16 (x : Int) : Int.fdiv x (2 ^ (min (16 : Int).toNat (IntKind.bits .u64))) = x / 65536 := Int.fdiv_eq_ediv_of_nonneg _ (by decide)
theorem shr8 (x : Int) : Int.fdiv x (2 ^ (min (8 : Int).toNat (IntKind.bits .u64))) = x / 256 := Int.fdiv_eq_ediv_of_nonneg _ (by decide)
theorem shr1 (x : Int) : Int.fdiv x (2 ^ (min (1 : Int).toNat (IntKind.bits .u64))) = x / 2 := Int.fdiv_eq_ediv_of_nonneg _ (by decide)
theorem shr_rest {X : Int} {s : Int} {n : Nat} (hs : s = n) (hn : n ≤ 64) : Int.fdiv X (2 ^ (min s.toNat (IntKind.bits .u64))) = X / 2 ^ n := by
  subst hs
  have : min ((n : Int)).toNat IntKind.u64.bits = n := by
    show min ((n : Int)).toNat 64 = n
    omega
  rw [this]
  exact Int.fdiv_eq_ediv_of_nonneg _ (Int.le_of_lt (Int.pow_pos (by omega)))
theorem wu (n : Int) : IntKind.wrap .u64 n = n % 18446744073709551616 := by
  simp only [IntKind.wrap, IntKind.signed, IntKind.bits]
  simp
theorem wu_in {n : Int} (h0 : 0 ≤ n) (h1 : n < 18446744073709551616) : IntKind.wrap .u64 n = n := by rw [wu]; omega

theorem len_of {y : Int} {e t : Nat} (h1 : 1 ≤ t) (hlo : (2 : Int) ^ (t - 1) ≤ y / 2 ^ e) (hhi : y / 2 ^ e < (2 : Int) ^ t) : (2 : Int) ^ (t + e - 1) ≤ y ∧ y < (2 : Int) ^ (t + e) := by
  have hp : (0 : Int) < 2 ^ e := Int.pow_pos (by omega)
  constructor
  · have := (Int.le_ediv_iff_mul_le hp).1 hlo
    rw [← Int.pow_add] at this
    have e1 : t - 1 + e = t + e - 1 := by omega
    rwa [e1] at this
  · have := (Int.ediv_lt_iff_lt_mul hp).1 hhi
    rwa [← Int.pow_add] at this

theorem w64_in {n : Int} (h0 : -9223372036854775808 ≤ n) (h1 : n < 9223372036854775808) : IntKind.wrap .i64 n = n := by rw [IntKind.wrap_i64]; omega
def tab : ByteArray := ⟨#[0, 1, 2, 2, 3, 3, 3, 3, 4, 4, 4, 4, 4, 4, 4, 4, 5, 5, 5, 5, 5, 5, 5, 5, 5, 5, 5, 5, 5, 5, 5, 5, 6, 6, 6, 6, 6, 6, 6, 6, 6, 6, 6, 6, 6, 6, 6, 6, 6, 6, 6, 6, 6, 6, 6, 6, 6, 6, 6, 6, 6, 6, 6, 6, 7, 7, 7, 7, 7, 7, 7, 7, 7, 7, 7, 7, 7, 7, 7, 7, 7, 7, 7, 7, 7, 7, 7, 7, 7, 7, 7, 7, 7, 7, 7, 7, 7, 7, 7, 7, 7, 7, 7, 7, 7, 7, 7, 7, 7, 7, 7, 7, 7, 7, 7, 7, 7, 7, 7, 7, 7, 7, 7, 7, 7, 7, 7, 7, 8, 8, 8, 8, 8, 8, 8, 8, 8, 8, 8, 8, 8, 8, 8, 8, 8, 8, 8, 8, 8, 8, 8, 8, 8, 8, 8, 8, 8, 8, 8, 8, 8, 8, 8, 8, 8, 8, 8, 8, 8, 8, 8, 8, 8, 8, 8, 8, 8, 8, 8, 8, 8, 8, 8, 8, 8, 8, 8, 8, 8, 8, 8, 8, 8, 8, 8, 8, 8, 8, 8, 8, 8, 8, 8, 8, 8, 8, 8, 8, 8, 8, 8, 8, 8, 8, 8, 8, 8, 8, 8, 8, 8, 8, 8, 8, 8, 8, 8, 8, 8, 8, 8, 8, 8, 8, 8, 8, 8, 8, 8, 8, 8, 8, 8, 8, 8, 8, 8, 8, 8, 8, 8, 8, 8, 8, 8, 8]⟩
theorem tab_all : ∀ c : Fin 256, (0 ≤ byteAt tab c.val ∧ byteAt tab c.val ≤ 8) ∧ (c.val : Int) < (2 : Int) ^ (byteAt tab c.val).toNat ∧ (0 < c.val → 1 ≤ (byteAt tab c.val).toNat ∧ (2 : Int) ^ ((byteAt tab c.val).toNat - 1) ≤ (c.val : Int)) := by decide +kernel
theorem tab_spec {c : Int} (h0 : 0 < c) (h1 : c < 256) : ∃ t : Nat, byteAt tab c.toNat = (t : Int) ∧ 1 ≤ t ∧ t ≤ 8 ∧ c < (2 : Int) ^ t ∧ (2 : Int) ^ (t - 1) ≤ c := by
  have h := tab_all ⟨c.toNat, by omega⟩
  have e : ((c.toNat : Nat) : Int) = c := Int.toNat_of_nonneg (by omega)
  simp only [e] at h
  obtain ⟨⟨h2, h3⟩, h4, h5⟩ := h
  obtain ⟨h6, h7⟩ := h5 (by omega)
  exact ⟨(byteAt tab c.toNat).toNat, by omega, h6, by omega, h4, h7⟩
/-- One digit of the quotient, being found: what holds at each round. -/
structure Digit (Y v1 v0 u d q r : Int) : Prop where
  hY : Y = v1 * 4294967296 + v0
  h1 : 2147483648 ≤ v1
  h2 : v1 < 4294967296
  h3 : 0 ≤ v0
  h4 : v0 < 4294967296
  h5 : 0 ≤ u
  h6 : u < Y
  h7 : 0 ≤ d
  h8 : d < 4294967296
  h9 : 0 ≤ q
  ha : 0 ≤ r
  hb : r < 4294967296
  hc : u = q * v1 + r
  hd : u * 4294967296 + d < (q + 1) * Y

theorem Digit.prod {Y v1 v0 u d q r : Int} (h : Digit Y v1 v0 u d q r) : q * Y = (u - r) * 4294967296 + q * v0 := by
  have e : u - r = q * v1 := by have := h.hc; omega
  rw [e, h.hY, Int.mul_add, Int.mul_assoc]

/-- The digit is too great. -/
theorem Digit.great {Y v1 v0 u d q r : Int} (h : Digit Y v1 v0 u d q r) (ht : 4294967296 ≤ q ∨ 4294967296 * r + d < q * v0) : u * 4294967296 + d < q * Y := by
  have hp := h.prod
  rcases ht with ht | ht
  · have h6 := h.h6
    have h8 := h.h8
    have hle : 4294967296 * Y ≤ q * Y := Int.mul_le_mul_of_nonneg_right ht (by have := h.h5; omega)
    omega
  · omega
theorem Digit.less {Y v1 v0 u d q r : Int} (h : Digit Y v1 v0 u d q r) (ht : u * 4294967296 + d < q * Y) (hr : r + v1 < 4294967296) : Digit Y v1 v0 u d (q - 1) (r + v1) := by
  have h9 : 0 < q := by
    apply Classical.byContradiction
    intro hn
    have := h.h9
    have : q = 0 := by omega
    rw [this] at ht
    have := h.h5; have := h.h7
    omega
  have hc := h.hc
  have ha := h.ha
  have h1 := h.h1
  exact { h with h9 := by omega, ha := by omega, hb := hr, hc := by rw [Int.sub_mul]; omega, hd := by rw [Int.sub_add_cancel]; exact ht }
/-- The right digit: the rest. -/
theorem Digit.ends {Y v1 v0 u d q r : Int} (h : Digit Y v1 v0 u d q r) (h1 : q < 4294967296) (h2 : q * v0 ≤ 4294967296 * r + d) : q * Y ≤ u * 4294967296 + d := by
  have hp := h.prod
  omega
/-- The round that goes beyond: it is the right one. -/
theorem Digit.breaks {Y v1 v0 u d q r : Int} (h : Digit Y v1 v0 u d q r) (ht : u * 4294967296 + d < q * Y) (hr : 4294967296 ≤ r + v1) :
    0 ≤ q - 1 ∧ q - 1 < 4294967296 ∧ (q - 1) * Y ≤ u * 4294967296 + d ∧ u * 4294967296 + d < (q - 1) * Y + Y := by
  have h9 : 0 < q := by
    apply Classical.byContradiction
    intro hn
    have := h.h9
    have : q = 0 := by omega
    rw [this] at ht
    have := h.h5; have := h.h7
    omega
  have hc : u = (q - 1) * v1 + (r + v1) := by have := h.hc; rw [Int.sub_mul]; omega
  have hlt : q - 1 < 4294967296 := by
    apply Classical.byContradiction
    intro hn
    have hle : 4294967296 * v1 ≤ (q - 1) * v1 := Int.mul_le_mul_of_nonneg_right (by omega) (by have := h.h1; omega)
    have := h.h6; have := h.hY; have := h.h4
    omega
  have hp : (q - 1) * Y = (u - (r + v1)) * 4294967296 + (q - 1) * v0 := by
    have e : u - (r + v1) = (q - 1) * v1 := by omega
    rw [e, h.hY, Int.mul_add, Int.mul_assoc]
  have hv : (q - 1) * v0 ≤ 4294967295 * 4294967295 := by
    have := h.h4; have := h.h3
    exact Int.mul_le_mul (by omega) (by omega) h.h3 (by omega)
  refine ⟨by omega, hlt, ?_, ?_⟩
  · have := h.h7
    omega
  · have e : (q - 1) * Y + Y = q * Y := by rw [Int.sub_mul]; omega
    omega

theorem rest_of {A Y q : Int} (h1 : q * Y ≤ A) (h2 : A < q * Y + Y) : A - q * Y = A % Y := by
  have e : A = (A - q * Y) + q * Y := by omega
  have : A % Y = (A - q * Y) % Y := by
    conv => lhs; rw [e]
    rw [Int.add_mul_emod_self_right]
  rw [this]
  exact (Int.emod_eq_of_lt (by omega) (by omega)).symm

/-- What is left, as the machine reckons it. -/
theorem left_of {A B d M : Int} (hM : M = 18446744073709551616) (h0 : 0 ≤ A + d - B) (h1 : A + d - B < M) (hd : 0 ≤ d) : (((A % M) + d) % M - B % M) % M = A + d - B := by
  subst hM
  omega

theorem m_mask {x : Int} (h0 : 0 ≤ x) (h1 : x < 18446744073709551616) : IntKind.wrap .u64 (BitVec.ofInt (IntKind.bits .u64) x &&& BitVec.ofInt (IntKind.bits .u64) 4294967295).toNat = x % 4294967296 :=
  bits_mask .u64 64 (by decide) (fun n a b => wu_in a (by simpa using b)) 32 (by decide) x h0 (by simpa using h1)
theorem m_one {x : Int} (h0 : 0 ≤ x) (h1 : x < 18446744073709551616) : IntKind.wrap .u64 (BitVec.ofInt (IntKind.bits .u64) x &&& BitVec.ofInt (IntKind.bits .u64) 1).toNat = x % 2 :=
  bits_mask .u64 64 (by decide) (fun n a b => wu_in a (by simpa using b)) 1 (by decide) x h0 (by simpa using h1)
theorem m_or {x y : Int} (i : Nat) (hx₀ : 0 ≤ x) (hx : x % 2 ^ i = 0) (hx₁ : x < 18446744073709551616) (hy₀ : 0 ≤ y) (hy : y < 2 ^ i) (hy₁ : y < 18446744073709551616) : IntKind.wrap .u64 (BitVec.ofInt (IntKind.bits .u64) x ||| BitVec.ofInt (IntKind.bits .u64) y).toNat = x + y :=
  bits_join .u64 64 (by decide) (fun n a b => wu_in a (by simpa using b)) i x y hx₀ hx (by simpa using hx₁) hy₀ hy (by simpa using hy₁)
/-- Euclid's rule, at each round: of p and a. x and y turn their signs by turns. -/
structure Eu (p a r s x y X Y : Int) : Prop where
  h1 : 0 ≤ s
  h2 : s < r
  h3 : 0 ≤ X
  h4 : 0 ≤ Y
  h5 : x = X ∧ y = -Y ∨ x = -X ∧ y = Y
  h6 : X * s + Y * r = p
  h7 : X ≤ p
  h8 : ∃ c, x * a = r + c * p
  h9 : ∃ c, y * a = s + c * p
  ha : ∀ d, d ∣ r → d ∣ s → d ∣ p ∧ d ∣ a

theorem Eu.next {p a r s x y X Y : Int} (hp : p < 9223372036854775808) (h : Eu p a r s x y X Y) (hs : s ≠ 0) :
    Eu p a s (r - r / s * s) y (x - r / s * y) Y (X + r / s * Y) ∧ 0 ≤ r / s ∧ 0 ≤ r / s * s ∧ r / s * s ≤ r ∧ 0 ≤ r / s * Y ∧ X + r / s * Y ≤ p ∧ r ≤ p + r ∧ r - r / s * s = r % s := by
  have h1 := h.h1; have h2 := h.h2; have h3 := h.h3; have h4 := h.h4; have h6 := h.h6; have h7 := h.h7
  have hq : 0 ≤ r / s := Int.ediv_nonneg (by omega) h1
  have hm : r / s * s + r % s = r := Int.ediv_mul_add_emod r s
  have hm0 : 0 ≤ r % s := Int.emod_nonneg _ hs
  have hm1 : r % s < s := Int.emod_lt_of_pos _ (by omega)
  have hqY : 0 ≤ r / s * Y := Int.mul_nonneg hq h4
  have hqs : 0 ≤ r / s * s := Int.mul_nonneg hq h1
  have hYr : 0 ≤ Y * r := Int.mul_nonneg h4 (by omega)
  have hXs : 0 ≤ X * s := Int.mul_nonneg h3 h1
  have h6' : Y * (r - r / s * s) + (X + r / s * Y) * s = p := by
    rw [← h6]; grind
  have hYm : 0 ≤ Y * (r - r / s * s) := Int.mul_nonneg h4 (by omega)
  have hle : X + r / s * Y ≤ p := by
    have h0 : 0 ≤ X + r / s * Y := by omega
    have : (X + r / s * Y) * 1 ≤ (X + r / s * Y) * s := Int.mul_le_mul_of_nonneg_left (by omega) h0
    omega
  have hYp : Y ≤ p := by
    have : Y * 1 ≤ Y * r := Int.mul_le_mul_of_nonneg_left (by omega) h4
    omega
  refine ⟨{ h1 := by omega, h2 := by omega, h3 := h4, h4 := by omega, h5 := ?_, h6 := h6', h7 := hYp, h8 := h.h9, h9 := ?_, ha := ?_ }, hq, hqs, by omega, hqY, hle, by omega, by omega⟩
  · rcases h.h5 with ⟨e1, e2⟩ | ⟨e1, e2⟩
    · right; rw [e1, e2]; exact ⟨rfl, by grind⟩
    · left; rw [e1, e2]; exact ⟨rfl, by grind⟩
  · obtain ⟨c, hc⟩ := h.h8
    obtain ⟨d, hd⟩ := h.h9
    refine ⟨c - r / s * d, ?_⟩
    have e : (x - r / s * y) * a = x * a - r / s * (y * a) := by grind
    rw [e, hc, hd]; grind
  · intro d hd1 hd2
    refine h.ha d ?_ hd1
    have e : r = (r - r / s * s) + r / s * s := by omega
    rw [e]
    exact Int.dvd_add hd2 (Int.dvd_mul_of_dvd_right hd1)

end Go.Proofs.Ytanpdkllnmeenaa.Am

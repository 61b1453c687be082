/- Numbers of the machine: plain laws, no program. -/
import Derived.Laws.BitsLemmas
import Derived.Test.YtanpdkllnmeenaaAma
import Derived.Test.YtanpdkllnmeenaaFnb
import Derived.Test.YtanpdkllnmeenaaCxa
import Derived.Test.YtanpdkllnmeenaaAmc
import Derived.Ground.SlsfProg
import Derived.Shelf.SlGeneric
import Derived.WalkKit
import Derived.Lib.Walk
namespace Go.Proofs.Ytanpdkllnmeenaa.Am
set_option linter.unusedVariables false
open Go

section
variable {α : Type} {a b : α}
theorem dT {p : Prop} [Decidable p] (h : p) : (bif decide p then a else b) = a := by rw [decide_eq_true h]; rfl
theorem dF {p : Prop} [Decidable p] (h : ¬ p) : (bif decide p then a else b) = b := by rw [decide_eq_false h]; rfl
theorem eT {x y : Int} (h : x = y) : (bif x == y then a else b) = a := by subst h; simp
theorem eF {x y : Int} (h : x ≠ y) : (bif x == y then a else b) = b := by rw [beq_eq_false_iff_ne.2 h]; rfl
theorem nT {x y : Int} (h : x ≠ y) : (bif x != y then a else b) = a := by rw [bne_iff_ne.2 h]; rfl
theorem nF {x y : Int} (h : x = y) : (bif x != y then a else b) = b := by rw [bne_eq_false_iff_eq.2 h]; rfl
theorem aT {p q : Prop} [Decidable p] [Decidable q] (h : p ∧ q) : (bif decide p && decide q then a else b) = a := by simp [h.1, h.2]
end

theorem shr32 (x : Int) : Int.fdiv x (2 ^ (min (32 : Int).toNat (IntKind.bits .u64))) = x / 4294967296 := Int.fdiv_eq_ediv_of_nonneg _ (by decide)
theorem shr16 (x : Int) : Int.fdiv x (2 ^ (min (16 : Int).toNat (IntKind.bits .u64))) = x / 65536 := Int.fdiv_eq_ediv_of_nonneg _ (by decide)
theorem shr8 (x : Int) : Int.fdiv x (2 ^ (min (8 : Int).toNat (IntKind.bits .u64))) = x / 256 := Int.fdiv_eq_ediv_of_nonneg _ (by decide)
theorem shr1 (x : Int) : Int.fdiv x (2 ^ (min (1 : Int).toNat (IntKind.bits .u64))) = x / 2 := Int.fdiv_eq_ediv_of_nonneg _ (by decide)
theorem shr_rest {X : Int} {s : Int} {n : Nat} (hs : s = n) (hn : n ≤ 64) : Int.fdiv X (2 ^ (min s.toNat (IntKind.bits .u64))) = X / 2 ^ n := by
  subst hs
  have : min ((n : Int)).toNat IntKind.u64.bits = n := by
    show min ((n : Int)).toNat 64 = n
    omega
  rw [this]
  exact Int.fdiv_eq_ediv_of_nonneg _ (Int.le_of_lt (Int.pow_pos (by omega)))
theorem wu (n : Int) : IntKind.wrap .u64 n = n % 18446744073709551616 := by
  simp only [IntKind.wrap, IntKind.signed, IntKind.bits]
  simp
theorem wu_in {n : Int} (h0 : 0 ≤ n) (h1 : n < 18446744073709551616) : IntKind.wrap .u64 n = n := by rw [wu]; omega

theorem len_of {y : Int} {e t : Nat} (h1 : 1 ≤ t) (hlo : (2 : Int) ^ (t - 1) ≤ y / 2 ^ e) (hhi : y / 2 ^ e < (2 : Int) ^ t) : (2 : Int) ^ (t + e - 1) ≤ y ∧ y < (2 : Int) ^ (t + e) := by
  have hp : (0 : Int) < 2 ^ e := Int.pow_pos (by omega)
  constructor
  · have := (Int.le_ediv_iff_mul_le hp).1 hlo
    rw [← Int.pow_add] at this
    have e1 : t - 1 + e = t + e - 1 := by omega
    rwa [e1] at this
  · have := (Int.ediv_lt_iff_lt_mul hp).1 hhi
    rwa [← Int.pow_add] at this

theorem w64_in {n : Int} (h0 : -9223372036854775808 ≤ n) (h1 : n < 9223372036854775808) : IntKind.wrap .i64 n = n := by rw [IntKind.wrap_i64]; omega
def tab : ByteArray := ⟨#[0, 1, 2, 2, 3, 3, 3, 3, 4, 4, 4, 4, 4, 4, 4, 4, 5, 5, 5, 5, 5, 5, 5, 5, 5, 5, 5, 5, 5, 5, 5, 5, 6, 6, 6, 6, 6, 6, 6, 6, 6, 6, 6, 6, 6, 6, 6, 6, 6, 6, 6, 6, 6, 6, 6, 6, 6, 6, 6, 6, 6, 6, 6, 6, 7, 7, 7, 7, 7, 7, 7, 7, 7, 7, 7, 7, 7, 7, 7, 7, 7, 7, 7, 7, 7, 7, 7, 7, 7, 7, 7, 7, 7, 7, 7, 7, 7, 7, 7, 7, 7, 7, 7, 7, 7, 7, 7, 7, 7, 7, 7, 7, 7, 7, 7, 7, 7, 7, 7, 7, 7, 7, 7, 7, 7, 7, 7, 7, 8, 8, 8, 8, 8, 8, 8, 8, 8, 8, 8, 8, 8, 8, 8, 8, 8, 8, 8, 8, 8, 8, 8, 8, 8, 8, 8, 8, 8, 8, 8, 8, 8, 8, 8, 8, 8, 8, 8, 8, 8, 8, 8, 8, 8, 8, 8, 8, 8, 8, 8, 8, 8, 8, 8, 8, 8, 8, 8, 8, 8, 8, 8, 8, 8, 8, 8, 8, 8, 8, 8, 8, 8, 8, 8, 8, 8, 8, 8, 8, 8, 8, 8, 8, 8, 8, 8, 8, 8, 8, 8, 8, 8, 8, 8, 8, 8, 8, 8, 8, 8, 8, 8, 8, 8, 8, 8, 8, 8, 8, 8, 8, 8, 8, 8, 8, 8, 8, 8, 8, 8, 8, 8, 8, 8, 8, 8, 8]⟩
theorem tab_all : ∀ c : Fin 256, (0 ≤ byteAt tab c.val ∧ byteAt tab c.val ≤ 8) ∧ (c.val : Int) < (2 : Int) ^ (byteAt tab c.val).toNat ∧ (0 < c.val → 1 ≤ (byteAt tab c.val).toNat ∧ (2 : Int) ^ ((byteAt tab c.val).toNat - 1) ≤ (c.val : Int)) := by decide +kernel
theorem tab_spec {c : Int} (h0 : 0 < c) (h1 : c < 256) : ∃ t : Nat, byteAt tab c.toNat = (t : Int) ∧ 1 ≤ t ∧ t ≤ 8 ∧ c < (2 : Int) ^ t ∧ (2 : Int) ^ (t - 1) ≤ c := by
  have h := tab_all ⟨c.toNat, by omega⟩
  have e : ((c.toNat : Nat) : Int) = c := Int.toNat_of_nonneg (by omega)
  simp only [e] at h
  obtain ⟨⟨h2, h3⟩, h4, h5⟩ := h
  obtain ⟨h6, h7⟩ := h5 (by omega)
  exact ⟨(byteAt tab c.toNat).toNat, by omega, h6, by omega, h4, h7⟩
/-- One digit of the quotient, being found: what holds at each round. -/
structure Digit (Y v1 v0 u d q r : Int) : Prop where
  hY : Y = v1 * 4294967296 + v0
  h1 : 2147483648 ≤ v1
  h2 : v1 < 4294967296
  h3 : 0 ≤ v0
  h4 : v0 < 4294967296
  h5 : 0 ≤ u
  h6 : u < Y
  h7 : 0 ≤ d
  h8 : d < 4294967296
  h9 : 0 ≤ q
  ha : 0 ≤ r
  hb : r < 4294967296
  hc : u = q * v1 + r
  hd : u * 4294967296 + d < (q + 1) * Y

theorem Digit.prod {Y v1 v0 u d q r : Int} (h : Digit Y v1 v0 u d q r) : q * Y = (u - r) * 4294967296 + q * v0 := by
  have e : u - r = q * v1 := by have := h.hc; omega
  rw [e, h.hY, Int.mul_add, Int.mul_assoc]

/-- The digit is too great. -/
theorem Digit.great {Y v1 v0 u d q r : Int} (h : Digit Y v1 v0 u d q r) (ht : 4294967296 ≤ q ∨ 4294967296 * r + d < q * v0) : u * 4294967296 + d < q * Y := by
  have hp := h.prod
  rcases ht with ht | ht
  · have h6 := h.h6
    have h8 := h.h8
    have hle : 4294967296 * Y ≤ q * Y := Int.mul_le_mul_of_nonneg_right ht (by have := h.h5; omega)
    omega
  · omega
theorem Digit.less {Y v1 v0 u d q r : Int} (h : Digit Y v1 v0 u d q r) (ht : u * 4294967296 + d < q * Y) (hr : r + v1 < 4294967296) : Digit Y v1 v0 u d (q - 1) (r + v1) := by
  have h9 : 0 < q := by
    apply Classical.byContradiction
    intro hn
    have := h.h9
    have : q = 0 := by omega
    rw [this] at ht
    have := h.h5; have := h.h7
    omega
  have hc := h.hc
  have ha := h.ha
  have h1 := h.h1
  exact { h with h9 := by omega, ha := by omega, hb := hr, hc := by rw [Int.sub_mul]; omega, hd := by rw [Int.sub_add_cancel]; exact ht }
/-- The right digit: the rest. -/
theorem Digit.ends {Y v1 v0 u d q r : Int} (h : Digit Y v1 v0 u d q r) (h1 : q < 4294967296) (h2 : q * v0 ≤ 4294967296 * r + d) : q * Y ≤ u * 4294967296 + d := by
  have hp := h.prod
  omega
/-- The round that goes beyond: it is the right one. -/
theorem Digit.breaks {Y v1 v0 u d q r : Int} (h : Digit Y v1 v0 u d q r) (ht : u * 4294967296 + d < q * Y) (hr : 4294967296 ≤ r + v1) :
    0 ≤ q - 1 ∧ q - 1 < 4294967296 ∧ (q - 1) * Y ≤ u * 4294967296 + d ∧ u * 4294967296 + d < (q - 1) * Y + Y := by
  have h9 : 0 < q := by
    apply Classical.byContradiction
    intro hn
    have := h.h9
    have : q = 0 := by omega
    rw [this] at ht
    have := h.h5; have := h.h7
    omega
  have hc : u = (q - 1) * v1 + (r + v1) := by have := h.hc; rw [Int.sub_mul]; omega
  have hlt : q - 1 < 4294967296 := by
    apply Classical.byContradiction
    intro hn
    have hle : 4294967296 * v1 ≤ (q - 1) * v1 := Int.mul_le_mul_of_nonneg_right (by omega) (by have := h.h1; omega)
    have := h.h6; have := h.hY; have := h.h4
    omega
  have hp : (q - 1) * Y = (u - (r + v1)) * 4294967296 + (q - 1) * v0 := by
    have e : u - (r + v1) = (q - 1) * v1 := by omega
    rw [e, h.hY, Int.mul_add, Int.mul_assoc]
  have hv : (q - 1) * v0 ≤ 4294967295 * 4294967295 := by
    have := h.h4; have := h.h3
    exact Int.mul_le_mul (by omega) (by omega) h.h3 (by omega)
  refine ⟨by omega, hlt, ?_, ?_⟩
  · have := h.h7
    omega
  · have e : (q - 1) * Y + Y = q * Y := by rw [Int.sub_mul]; omega
    omega

theorem rest_of {A Y q : Int} (h1 : q * Y ≤ A) (h2 : A < q * Y + Y) : A - q * Y = A % Y := by
  have e : A = (A - q * Y) + q * Y := by omega
  have : A % Y = (A - q * Y) % Y := by
    conv => lhs; rw [e]
    rw [Int.add_mul_emod_self_right]
  rw [this]
  exact (Int.emod_eq_of_lt (by omega) (by omega)).symm

/-- What is left, as the machine reckons it. -/
theorem left_of {A B d M : Int} (hM : M = 18446744073709551616) (h0 : 0 ≤ A + d - B) (h1 : A + d - B < M) (hd : 0 ≤ d) : (((A % M) + d) % M - B % M) % M = A + d - B := by
  subst hM
  omega

theorem m_mask {x : Int} (h0 : 0 ≤ x) (h1 : x < 18446744073709551616) : IntKind.wrap .u64 (BitVec.ofInt (IntKind.bits .u64) x &&& BitVec.ofInt (IntKind.bits .u64) 4294967295).toNat = x % 4294967296 :=
  bits_mask .u64 64 (by decide) (fun n a b => wu_in a (by simpa using b)) 32 (by decide) x h0 (by simpa using h1)
theorem m_one {x : Int} (h0 : 0 ≤ x) (h1 : x < 18446744073709551616) : IntKind.wrap .u64 (BitVec.ofInt (IntKind.bits .u64) x &&& BitVec.ofInt (IntKind.bits .u64) 1).toNat = x % 2 :=
  bits_mask .u64 64 (by decide) (fun n a b => wu_in a (by simpa using b)) 1 (by decide) x h0 (by simpa using h1)
theorem m_or {x y : Int} (i : Nat) (hx₀ : 0 ≤ x) (hx : x % 2 ^ i = 0) (hx₁ : x < 18446744073709551616) (hy₀ : 0 ≤ y) (hy : y < 2 ^ i) (hy₁ : y < 18446744073709551616) : IntKind.wrap .u64 (BitVec.ofInt (IntKind.bits .u64) x ||| BitVec.ofInt (IntKind.bits .u64) y).toNat = x + y :=
  bits_join .u64 64 (by decide) (fun n a b => wu_in a (by simpa using b)) i x y hx₀ hx (by simpa using hx₁) hy₀ hy (by simpa using hy₁)
/-- Euclid's rule, at each round: of p and a. x and y turn their signs by turns. -/
structure Eu (p a r s x y X Y : Int) : Prop where
  h1 : 0 ≤ s
  h2 : s < r
  h3 : 0 ≤ X
  h4 : 0 ≤ Y
  h5 : x = X ∧ y = -Y ∨ x = -X ∧ y = Y
  h6 : X * s + Y * r = p
  h7 : X ≤ p
  h8 : ∃ c, x * a = r + c * p
  h9 : ∃ c, y * a = s + c * p
  ha : ∀ d, d ∣ r → d ∣ s → d ∣ p ∧ d ∣ a

theorem Eu.next {p a r s x y X Y : Int} (hp : p < 9223372036854775808) (h : Eu p a r s x y X Y) (hs : s ≠ 0) :
    Eu p a s (r - r / s * s) y (x - r / s * y) Y (X + r / s * Y) ∧ 0 ≤ r / s ∧ 0 ≤ r / s * s ∧ r / s * s ≤ r ∧ 0 ≤ r / s * Y ∧ X + r / s * Y ≤ p ∧ r ≤ p + r ∧ r - r / s * s = r % s := by
  have h1 := h.h1; have h2 := h.h2; have h3 := h.h3; have h4 := h.h4; have h6 := h.h6; have h7 := h.h7
  have hq : 0 ≤ r / s := Int.ediv_nonneg (by omega) h1
  have hm : r / s * s + r % s = r := Int.ediv_mul_add_emod r s
  have hm0 : 0 ≤ r % s := Int.emod_nonneg _ hs
  have hm1 : r % s < s := Int.emod_lt_of_pos _ (by omega)
  have hqY : 0 ≤ r / s * Y := Int.mul_nonneg hq h4
  have hqs : 0 ≤ r / s * s := Int.mul_nonneg hq h1
  have hYr : 0 ≤ Y * r := Int.mul_nonneg h4 (by omega)
  have hXs : 0 ≤ X * s := Int.mul_nonneg h3 h1
  have h6' : Y * (r - r / s * s) + (X + r / s * Y) * s = p := by
    rw [← h6]; grind
  have hYm : 0 ≤ Y * (r - r / s * s) := Int.mul_nonneg h4 (by omega)
  have hle : X + r / s * Y ≤ p := by
    have h0 : 0 ≤ X + r / s * Y := by omega
    have : (X + r / s * Y) * 1 ≤ (X + r / s * Y) * s := Int.mul_le_mul_of_nonneg_left (by omega) h0
    omega
  have hYp : Y ≤ p := by
    have : Y * 1 ≤ Y * r := Int.mul_le_mul_of_nonneg_left (by omega) h4
    omega
  refine ⟨{ h1 := by omega, h2 := by omega, h3 := h4, h4 := by omega, h5 := ?_, h6 := h6', h7 := hYp, h8 := h.h9, h9 := ?_, ha := ?_ }, hq, hqs, by omega, hqY, hle, by omega, by omega⟩
  · rcases h.h5 with ⟨e1, e2⟩ | ⟨e1, e2⟩
    · right; rw [e1, e2]; exact ⟨rfl, by grind⟩
    · left; rw [e1, e2]; exact ⟨rfl, by grind⟩
  · obtain ⟨c, hc⟩ := h.h8
    obtain ⟨d, hd⟩ := h.h9
    refine ⟨c - r / s * d, ?_⟩
    have e : (x - r / s * y) * a = x * a - r / s * (y * a) := by grind
    rw [e, hc, hd]; grind
  · intro d hd1 hd2
    refine h.ha d ?_ hd1
    have e : r = (r - r / s * s) + r / s * s := by omega
    rw [e]
    exact Int.dvd_add hd2 (Int.dvd_mul_of_dvd_right hd1)

end Go.Proofs.Ytanpdkllnmeenaa.Am
namespace Go.Proofs.Ytanpdkllnmeenaa.M
set_option linter.unusedVariables false
set_option maxRecDepth 100000
open Go Go.RowKit Go.Proofs Go.Proofs.Ytanpdkllnmeenaa.Am

theorem str0_tab : str0 = tab := rfl
theorem tab_size : tab.size = 256 := rfl

theorem leaf {x c E : Int} (e : Nat) (hE : E = e) (he : e ≤ 56) (hc : c = x / 2 ^ e) (h0 : 0 < c) (h1 : c < 256) :
    ∃ n : Nat, IntKind.wrap .i64 (E + IntKind.wrap .i64 (byteAt str0 (IntKind.wrap .u8 c).toNat)) = n ∧ (0 ≤ IntKind.wrap .u8 c ∧ IntKind.wrap .u8 c < (str0.size : Int)) ∧ 1 ≤ n ∧ n ≤ 64 ∧ (2 : Int) ^ (n - 1) ≤ x ∧ x < (2 : Int) ^ n := by
  rw [show (str0 : ByteArray) = tab from rfl]
  have hw : IntKind.wrap .u8 c = c := by rw [IntKind.wrap_u8]; omega
  obtain ⟨t, ht, a1, a2, a3, a4⟩ := tab_spec h0 h1
  subst hc
  obtain ⟨b1, b2⟩ := len_of (y := x) (e := e) a1 a4 a3
  refine ⟨t + e, ?_, ?_, by omega, by omega, b1, b2⟩
  · rw [hw, ht, w64_in (n := (t : Int)) (by omega) (by omega), hE, w64_in (by omega) (by omega)]; omega
  · rw [hw, tab_size]; omega

theorem len64_spec {k : Nat} (hk : 1 ≤ k) {y : Int} (h0 : 0 < y) (h1 : y < 18446744073709551616) :
    ∃ n : Nat, (∀ {R : Type} (ret : Int → Option R), bits_Len64.f k y ret = ret n) ∧ 1 ≤ n ∧ n ≤ 64 ∧ (2 : Int) ^ (n - 1) ≤ y ∧ y < (2 : Int) ^ n := by
  obtain ⟨k, rfl⟩ : ∃ m, k = m + 1 := ⟨k - 1, by omega⟩
  simp only [bits_Len64.f, shr32, shr16, shr8]
  by_cases c : y ≥ 4294967296
  · by_cases c1 : y / 4294967296 ≥ 65536
    · by_cases c2 : y / 4294967296 / 65536 ≥ 256
      · obtain ⟨n, e, b, h⟩ := leaf (x := y) (c := y / 4294967296 / 65536 / 256) (E := IntKind.wrap .i64 ((IntKind.wrap .i64 ((32 : Int) + 16)) + 8)) 56 rfl (by omega) (by omega) (by omega) (by omega)
        refine ⟨n, fun ret => ?_, h⟩
        rw [dT c, dT (by omega), dT c1, dT (by omega), dT c2, dT (by omega), aT b, e]
      · obtain ⟨n, e, b, h⟩ := leaf (x := y) (c := y / 4294967296 / 65536) (E := IntKind.wrap .i64 ((32 : Int) + 16)) 48 rfl (by omega) (by omega) (by omega) (by omega)
        refine ⟨n, fun ret => ?_, h⟩
        rw [dT c, dT (by omega), dT c1, dT (by omega), dF c2, aT b, e]
    · by_cases c2 : y / 4294967296 ≥ 256
      · obtain ⟨n, e, b, h⟩ := leaf (x := y) (c := y / 4294967296 / 256) (E := IntKind.wrap .i64 ((32 : Int) + 8)) 40 rfl (by omega) (by omega) (by omega) (by omega)
        refine ⟨n, fun ret => ?_, h⟩
        rw [dT c, dT (by omega), dF c1, dT c2, dT (by omega), aT b, e]
      · obtain ⟨n, e, b, h⟩ := leaf (x := y) (c := y / 4294967296) (E := (32 : Int)) 32 rfl (by omega) (by omega) (by omega) (by omega)
        refine ⟨n, fun ret => ?_, h⟩
        rw [dT c, dT (by omega), dF c1, dF c2, aT b, e]
  · by_cases c1 : y ≥ 65536
    · by_cases c2 : y / 65536 ≥ 256
      · obtain ⟨n, e, b, h⟩ := leaf (x := y) (c := y / 65536 / 256) (E := IntKind.wrap .i64 ((IntKind.wrap .i64 ((0 : Int) + 16)) + 8)) 24 rfl (by omega) (by omega) (by omega) (by omega)
        refine ⟨n, fun ret => ?_, h⟩
        rw [dF c, dT c1, dT (by omega), dT c2, dT (by omega), aT b, e]
      · obtain ⟨n, e, b, h⟩ := leaf (x := y) (c := y / 65536) (E := IntKind.wrap .i64 ((0 : Int) + 16)) 16 rfl (by omega) (by omega) (by omega) (by omega)
        refine ⟨n, fun ret => ?_, h⟩
        rw [dF c, dT c1, dT (by omega), dF c2, aT b, e]
    · by_cases c2 : y ≥ 256
      · obtain ⟨n, e, b, h⟩ := leaf (x := y) (c := y / 256) (E := IntKind.wrap .i64 ((0 : Int) + 8)) 8 rfl (by omega) (by omega) (by omega) (by omega)
        refine ⟨n, fun ret => ?_, h⟩
        rw [dF c, dF c1, dT c2, dT (by omega), aT b, e]
      · obtain ⟨n, e, b, h⟩ := leaf (x := y) (c := y) (E := (0 : Int)) 0 rfl (by omega) (by omega) (by omega) (by omega)
        refine ⟨n, fun ret => ?_, h⟩
        rw [dF c, dF c1, dF c2, aT b, e]

/-- The second digit, and the end. -/
theorem d_l2 {Y v1 v0 u d : Int} (hY64 : Y < 18446744073709551616) (q1 : Int) (n : Nat) : ∀ (m : Nat) (q r : Int), n + 1 ≤ m → 4294967296 - r ≤ n * 2147483648 → Digit Y v1 v0 u d q r →
    ∃ q', 0 ≤ q' ∧ q' * Y ≤ u * 4294967296 + d ∧ u * 4294967296 + d < q' * Y + Y ∧ ∀ (k : Nat) {R : Type} (x0 : Int → Int → Int → Int → Int → Int → Option R) (s : Int), bits_Div64.L2 k x0 m Y s v1 v0 d q1 r u q = x0 Y s d q1 u q' := by
  induction n with
  | zero =>
    intro m q r hk hn h
    have := h.hb
    omega
  | succ n ih =>
    intro m q r hk hn h
    obtain ⟨m, rfl⟩ : ∃ j, m = j + 1 := ⟨m - 1, by omega⟩
    have h1 := h.h1; have h2 := h.h2; have h3 := h.h3; have h4 := h.h4; have h5 := h.h5; have h6 := h.h6; have h7 := h.h7; have h8 := h.h8; have h9 := h.h9; have ha := h.ha; have hb := h.hb
    simp only [bits_Div64.L2, bits_Div64.B2]
    have hgo : ∀ _ : u * 4294967296 + d < q * Y, ∃ q', 0 ≤ q' ∧ q' * Y ≤ u * 4294967296 + d ∧ u * 4294967296 + d < q' * Y + Y ∧ ∀ (k : Nat) {R : Type} (x0 : Int → Int → Int → Int → Int → Int → Option R) (s : Int), (bif (decide ((IntKind.wrap .u64 (r + v1)) ≥ 4294967296)) then
      (x0 Y s d q1 u (IntKind.wrap .u64 (q - 1)))
    else
      (bits_Div64.L2 k x0 m Y s v1 v0 d q1 (IntKind.wrap .u64 (r + v1)) u (IntKind.wrap .u64 (q - 1)))) = x0 Y s d q1 u q' := by
      intro ht
      rw [wu_in (n := r + v1) (by omega) (by omega)]
      by_cases c : r + v1 ≥ 4294967296
      · obtain ⟨e0, e1, e2, e3⟩ := h.breaks ht c
        rw [wu_in (n := q - 1) (by omega) (by omega)]
        exact ⟨q - 1, e0, e2, e3, fun k {R} x0 s => by rw [dT c]⟩
      · have h' := h.less ht (by omega)
        have h9' := h'.h9
        have hle : q - 1 < 18446744073709551616 := by
          have := h'.hc
          apply Classical.byContradiction
          intro hnn
          have hle : 18446744073709551616 * v1 ≤ (q - 1) * v1 := Int.mul_le_mul_of_nonneg_right (by omega) (by omega)
          have := h'.ha
          omega
        rw [wu_in (n := q - 1) h9' hle]
        obtain ⟨q', b0, b1, b2, b3⟩ := ih m (q - 1) (r + v1) (by omega) (by omega) h'
        exact ⟨q', b0, b1, b2, fun k {R} x0 s => by rw [dF c, b3]⟩
    by_cases c1 : q ≥ 4294967296
    · obtain ⟨q', b0, b1, b2, b3⟩ := hgo (h.great (.inl c1))
      exact ⟨q', b0, b1, b2, fun k {R} x0 s => by rw [dT c1, b3]⟩
    · have hqv : q * v0 ≤ 4294967295 * 4294967295 := Int.mul_le_mul (by omega) (by omega) h3 (by omega)
      have hqv0 : 0 ≤ q * v0 := Int.mul_nonneg h9 h3
      rw [wu_in (n := q * v0) hqv0 (by omega), wu_in (n := 4294967296 * r) (by omega) (by omega), wu_in (n := 4294967296 * r + d) (by omega) (by omega)]
      by_cases c2 : q * v0 > 4294967296 * r + d
      · obtain ⟨q', b0, b1, b2, b3⟩ := hgo (h.great (.inr c2))
        exact ⟨q', b0, b1, b2, fun k {R} x0 s => by rw [dF c1, dT c2, b3]⟩
      · have hle := h.ends (by omega) (by omega)
        have hlt := h.hd
        rw [Int.add_mul, Int.one_mul] at hlt
        exact ⟨q, h9, hle, hlt, fun k {R} x0 s => by rw [dF c1, dF c2]⟩
/-- The first digit. -/
theorem d_l0 {Y v1 v0 u d : Int} (hY64 : Y < 18446744073709551616) (n : Nat) : ∀ (m : Nat) (q r : Int), n + 1 ≤ m → 4294967296 - r ≤ n * 2147483648 → Digit Y v1 v0 u d q r →
    ∃ q', 0 ≤ q' ∧ q' * Y ≤ u * 4294967296 + d ∧ u * 4294967296 + d < q' * Y + Y ∧ ∀ (k : Nat) {R : Type} (x0 : Int → Int → Int → Int → Int → Int → Int → Int → Option R) (s d0 : Int), bits_Div64.L0 k x0 m Y s v1 v0 u d d0 q r = x0 Y s v1 v0 u d d0 q' := by
  induction n with
  | zero =>
    intro m q r hk hn h
    have := h.hb
    omega
  | succ n ih =>
    intro m q r hk hn h
    obtain ⟨m, rfl⟩ : ∃ j, m = j + 1 := ⟨m - 1, by omega⟩
    have h1 := h.h1; have h2 := h.h2; have h3 := h.h3; have h4 := h.h4; have h5 := h.h5; have h6 := h.h6; have h7 := h.h7; have h8 := h.h8; have h9 := h.h9; have ha := h.ha; have hb := h.hb
    simp only [bits_Div64.L0, bits_Div64.B0]
    have hgo : ∀ _ : u * 4294967296 + d < q * Y, ∃ q', 0 ≤ q' ∧ q' * Y ≤ u * 4294967296 + d ∧ u * 4294967296 + d < q' * Y + Y ∧ ∀ (k : Nat) {R : Type} (x0 : Int → Int → Int → Int → Int → Int → Int → Int → Option R) (s d0 : Int), (bif (decide ((IntKind.wrap .u64 (r + v1)) ≥ 4294967296)) then
      (x0 Y s v1 v0 u d d0 (IntKind.wrap .u64 (q - 1)))
    else
      (bits_Div64.L0 k x0 m Y s v1 v0 u d d0 (IntKind.wrap .u64 (q - 1)) (IntKind.wrap .u64 (r + v1)))) = x0 Y s v1 v0 u d d0 q' := by
      intro ht
      rw [wu_in (n := r + v1) (by omega) (by omega)]
      by_cases c : r + v1 ≥ 4294967296
      · obtain ⟨e0, e1, e2, e3⟩ := h.breaks ht c
        rw [wu_in (n := q - 1) (by omega) (by omega)]
        exact ⟨q - 1, e0, e2, e3, fun k {R} x0 s d0 => by rw [dT c]⟩
      · have h' := h.less ht (by omega)
        have h9' := h'.h9
        have hle : q - 1 < 18446744073709551616 := by
          have := h'.hc
          apply Classical.byContradiction
          intro hnn
          have hle : 18446744073709551616 * v1 ≤ (q - 1) * v1 := Int.mul_le_mul_of_nonneg_right (by omega) (by omega)
          have := h'.ha
          omega
        rw [wu_in (n := q - 1) h9' hle]
        obtain ⟨q', b0, b1, b2, b3⟩ := ih m (q - 1) (r + v1) (by omega) (by omega) h'
        exact ⟨q', b0, b1, b2, fun k {R} x0 s d0 => by rw [dF c, b3]⟩
    by_cases c1 : q ≥ 4294967296
    · obtain ⟨q', b0, b1, b2, b3⟩ := hgo (h.great (.inl c1))
      exact ⟨q', b0, b1, b2, fun k {R} x0 s d0 => by rw [dT c1, b3]⟩
    · have hqv : q * v0 ≤ 4294967295 * 4294967295 := Int.mul_le_mul (by omega) (by omega) h3 (by omega)
      have hqv0 : 0 ≤ q * v0 := Int.mul_nonneg h9 h3
      rw [wu_in (n := q * v0) hqv0 (by omega), wu_in (n := 4294967296 * r) (by omega) (by omega), wu_in (n := 4294967296 * r + d) (by omega) (by omega)]
      by_cases c2 : q * v0 > 4294967296 * r + d
      · obtain ⟨q', b0, b1, b2, b3⟩ := hgo (h.great (.inr c2))
        exact ⟨q', b0, b1, b2, fun k {R} x0 s d0 => by rw [dF c1, dT c2, b3]⟩
      · have hle := h.ends (by omega) (by omega)
        have hlt := h.hd
        rw [Int.add_mul, Int.one_mul] at hlt
        exact ⟨q, h9, hle, hlt, fun k {R} x0 s d0 => by rw [dF c1, dF c2]⟩

theorem lz_spec {k n : Nat} {y : Int} (hk : 2 ≤ k) (hn : ∀ {R : Type} (ret : Int → Option R), bits_Len64.f (k - 1) y ret = ret n) (h1 : 1 ≤ n) (h2 : n ≤ 64) {R : Type} (ret : Int → Option R) :
    bits_LeadingZeros64.f k y ret = ret ((64 - n : Nat) : Int) := by
  obtain ⟨k, rfl⟩ : ∃ m, k = m + 1 := ⟨k - 1, by omega⟩
  simp only [bits_LeadingZeros64.f]
  rw [show k = k + 1 - 1 from rfl, hn, w64_in (by omega) (by omega)]
  congr 1; omega

theorem div64_spec {hi lo y : Int} (h0 : 0 ≤ hi) (h1 : hi < y) (h2 : 0 ≤ lo) (h3 : lo < 18446744073709551616) (h4 : y < 18446744073709551616) {k : Nat} (hk : 5 ≤ k) :
    ∃ a, ∀ {R : Type} (ret : Int → Int → Option R), bits_Div64.f k hi lo y ret = ret a ((hi * 18446744073709551616 + lo) % y) := by
  obtain ⟨k, rfl⟩ : ∃ m, k = m + 1 := ⟨k - 1, by omega⟩
  simp only [bits_Div64.f]
  by_cases c : hi = 0
  · subst c
    refine ⟨IntKind.u64.wrap (Int.tdiv lo y), fun ret => ?_⟩
    rw [eF (by omega), dF (by omega), eT rfl, nT (by omega), nT (by omega), Int.tmod_eq_emod_of_nonneg h2, Int.zero_mul, Int.zero_add]
  · obtain ⟨n, hn, n1, n2, n3, n4⟩ := len64_spec (k := k - 1) (y := y) (by omega) (by omega) h4
    have hlz := fun {R : Type} (ret : Int → Option R) => lz_spec (k := k) (by omega) hn n1 n2 ret
    obtain ⟨s, hs⟩ : ∃ s : Nat, s = 64 - n := ⟨_, rfl⟩
    simp only [hlz, ← hs]
    rw [wu_in (n := (s : Int)) (by omega) (by omega), wu_in (n := 64 - (s : Int)) (by omega) (by omega)]
    have hp : (0 : Int) < 2 ^ s := Int.pow_pos (by omega)
    have e64 : (2 : Int) ^ n * 2 ^ s = 18446744073709551616 := by
      rw [← Int.pow_add]
      have : n + s = 64 := by omega
      rw [this]; rfl
    have e63 : (2 : Int) ^ (n - 1) * 2 ^ s = 9223372036854775808 := by
      rw [← Int.pow_add]
      have : n - 1 + s = 63 := by omega
      rw [this]; rfl
    have eS : (2 : Int) ^ s * 2 ^ (64 - s) = 18446744073709551616 := by
      rw [← Int.pow_add]
      have : s + (64 - s) = 64 := by omega
      rw [this]; rfl
    have hY1 : y * 2 ^ s < 18446744073709551616 := by rw [← e64]; exact Int.mul_lt_mul_of_pos_right n4 hp
    have hY0 : 9223372036854775808 ≤ y * 2 ^ s := by rw [← e63]; exact Int.mul_le_mul_of_nonneg_right n3 (by omega)
    have hmin : min ((s : Int)).toNat (IntKind.bits .u64) = s := by
      show min ((s : Int)).toNat 64 = s
      omega
    have hmin2 : min (64 - (s : Int)).toNat (IntKind.bits .u64) = 64 - s := by
      show min (64 - (s : Int)).toNat 64 = 64 - s
      omega
    have hsY : IntKind.wrap .u64 (y * 2 ^ s) = y * 2 ^ s := wu_in (by omega) hY1
    have hsh : IntKind.wrap .u64 (hi * 2 ^ s) = hi * 2 ^ s := by
      rw [wu_in (Int.mul_nonneg h0 (by omega))]
      exact Int.lt_trans (Int.mul_lt_mul_of_pos_right h1 hp) hY1
    have hsl : IntKind.wrap .u64 (lo * 2 ^ s) = (lo * 2 ^ s) % 18446744073709551616 := wu _
    have hsr : Int.fdiv lo (2 ^ (64 - s)) = lo / 2 ^ (64 - s) := Int.fdiv_eq_ediv_of_nonneg _ (Int.le_of_lt (Int.pow_pos (by omega)))
    rw [hmin, hmin2, hsY, hsh, hsl, hsr]
    have hpr : (0 : Int) < 2 ^ (64 - s) := Int.pow_pos (by omega)
    have hr0 : 0 ≤ lo / 2 ^ (64 - s) := Int.ediv_nonneg h2 (by omega)
    have hr1 : lo / 2 ^ (64 - s) < 2 ^ s := by
      rw [Int.ediv_lt_iff_lt_mul hpr, eS]
      exact h3
    have hh : hi * 2 ^ s + 2 ^ s ≤ y * 2 ^ s := by
      have : hi * 2 ^ s + 2 ^ s = (hi + 1) * 2 ^ s := by rw [Int.add_mul, Int.one_mul]
      rw [this]
      exact Int.mul_le_mul_of_nonneg_right (by omega) (by omega)
    have hhn : 0 ≤ hi * 2 ^ s := Int.mul_nonneg h0 (by omega)
    have hsn : (2 : Int) ^ s ≤ 18446744073709551616 := by omega
    rw [m_or s hhn (Int.mul_emod_left _ _) (by omega) hr0 hr1 (by omega)]
    have hlow : lo * 2 ^ s = (lo / 2 ^ (64 - s)) * 18446744073709551616 + (lo * 2 ^ s) % 18446744073709551616 := by
      have e1 : lo * 2 ^ s / 18446744073709551616 = lo / 2 ^ (64 - s) := by
        rw [← eS, Int.mul_comm (2 ^ s) (2 ^ (64 - s)), Int.mul_ediv_mul_of_pos_left _ _ hp]
      have := Int.ediv_mul_add_emod (lo * 2 ^ s) 18446744073709551616
      rw [e1] at this
      exact this.symm
    obtain ⟨L, hL⟩ : ∃ L, L = (lo * 2 ^ s) % 18446744073709551616 := ⟨_, rfl⟩
    obtain ⟨U, hU⟩ : ∃ U, U = hi * 2 ^ s + lo / 2 ^ (64 - s) := ⟨_, rfl⟩
    obtain ⟨Y, hYd⟩ : ∃ Y, Y = y * 2 ^ s := ⟨_, rfl⟩
    have hfull : (hi * 18446744073709551616 + lo) * 2 ^ s = U * 18446744073709551616 + L := by
      rw [Int.add_mul, hlow, ← hL, hU, Int.add_mul]
      have : hi * 18446744073709551616 * 2 ^ s = hi * 2 ^ s * 18446744073709551616 := by
        rw [Int.mul_assoc, Int.mul_comm 18446744073709551616, ← Int.mul_assoc]
      omega
    rw [← hL, ← hU, ← hYd]
    rw [← hYd] at hY0 hY1 hh
    have hL0 : 0 ≤ L := by omega
    have hL1 : L < 18446744073709551616 := by omega
    have hU0 : 0 ≤ U := by omega
    have hU1 : U < Y := by omega
    simp only [shr32]
    rw [m_mask hL0 hL1, m_mask (by omega) hY1]
    obtain ⟨v1, hv1⟩ : ∃ v, v = Y / 4294967296 := ⟨_, rfl⟩
    rw [← hv1]
    have hdiv : Int.tdiv U v1 = U / v1 := Int.tdiv_eq_ediv_of_nonneg hU0
    have hm0 : 0 ≤ U % v1 := Int.emod_nonneg _ (by omega)
    have hm1 : U % v1 < v1 := Int.emod_lt_of_pos _ (by omega)
    have hme : U / v1 * v1 + U % v1 = U := Int.ediv_mul_add_emod U v1
    have hq0 : 0 ≤ U / v1 := Int.ediv_nonneg hU0 (by omega)
    have hq1 : U / v1 < 18446744073709551616 := by
      apply Classical.byContradiction
      intro hnn
      have hle : 18446744073709551616 * v1 ≤ U / v1 * v1 := Int.mul_le_mul_of_nonneg_right (by omega) (by omega)
      omega
    have hqv : 0 ≤ U / v1 * v1 := Int.mul_nonneg hq0 (by omega)
    rw [hdiv, wu_in hq0 hq1, wu_in (n := U / v1 * v1) hqv (by omega), wu_in (n := U - U / v1 * v1) (by omega) (by omega)]
    have er : U - U / v1 * v1 = U % v1 := by omega
    rw [er]
    have hlast : ∀ U d : Int, (U / v1 + 1) * Y = (U / v1 * v1 + v1) * 4294967296 + (U / v1 + 1) * (Y % 4294967296) := by
      intro U d
      have e1 : U / v1 * v1 + v1 = (U / v1 + 1) * v1 := by rw [Int.add_mul, Int.one_mul]
      have e2 : Y = v1 * 4294967296 + Y % 4294967296 := by omega
      rw [e1]
      conv => lhs; rw [e2]
      rw [Int.mul_add, Int.mul_assoc]
    have hx := hlast U 0
    have hlast0 : 0 ≤ (U / v1 + 1) * (Y % 4294967296) := Int.mul_nonneg (by omega) (by omega)
    obtain ⟨q, q0, qa, qb, hq⟩ := d_l0 (Y := Y) (v1 := v1) (v0 := Y % 4294967296) (u := U) (d := L / 4294967296) hY1 2 k (U / v1) (U % v1) (by omega) (by omega)
      { hY := by omega, h1 := by omega, h2 := by omega, h3 := by omega, h4 := by omega, h5 := hU0, h6 := hU1, h7 := by omega, h8 := by omega, h9 := hq0, ha := hm0, hb := by omega, hc := by omega, hd := by omega }
    have hYpos : 0 < Y := by omega
    have hU' : IntKind.wrap .u64 ((IntKind.wrap .u64 ((IntKind.wrap .u64 (U * 4294967296)) + L / 4294967296)) - (IntKind.wrap .u64 (q * Y))) = (U * 4294967296 + L / 4294967296) % Y := by
      simp only [wu]
      rw [left_of rfl (by omega) (by omega) (by omega), rest_of qa qb]
    obtain ⟨V, hV⟩ : ∃ V, V = (U * 4294967296 + L / 4294967296) % Y := ⟨_, rfl⟩
    rw [← hV] at hU'
    have hR0 : 0 ≤ V := by rw [hV]; exact Int.emod_nonneg _ (by omega)
    have hR1 : V < Y := by rw [hV]; exact Int.emod_lt_of_pos _ hYpos
    have hdiv2 : Int.tdiv V v1 = V / v1 := Int.tdiv_eq_ediv_of_nonneg hR0
    have vm0 : 0 ≤ V % v1 := Int.emod_nonneg _ (by omega)
    have vm1 : V % v1 < v1 := Int.emod_lt_of_pos _ (by omega)
    have vme : V / v1 * v1 + V % v1 = V := Int.ediv_mul_add_emod V v1
    have vq0 : 0 ≤ V / v1 := Int.ediv_nonneg hR0 (by omega)
    have vq1 : V / v1 < 18446744073709551616 := by
      apply Classical.byContradiction
      intro hnn
      have hle : 18446744073709551616 * v1 ≤ V / v1 * v1 := Int.mul_le_mul_of_nonneg_right (by omega) (by omega)
      omega
    have vqv : 0 ≤ V / v1 * v1 := Int.mul_nonneg vq0 (by omega)
    have ev : V - V / v1 * v1 = V % v1 := by omega
    have hx' := hlast V 0
    have hlast1 : 0 ≤ (V / v1 + 1) * (Y % 4294967296) := Int.mul_nonneg (by omega) (by omega)
    obtain ⟨q', q0', qa', qb', hq'⟩ := d_l2 (Y := Y) (v1 := v1) (v0 := Y % 4294967296) (u := V) (d := L % 4294967296) hY1 q 2 k (V / v1) (V % v1) (by omega) (by omega)
      { hY := by omega, h1 := by omega, h2 := by omega, h3 := by omega, h4 := by omega, h5 := hR0, h6 := hR1, h7 := by omega, h8 := by omega, h9 := vq0, ha := vm0, hb := by omega, hc := by omega, hd := by omega }
    have hU'' : IntKind.wrap .u64 ((IntKind.wrap .u64 ((IntKind.wrap .u64 (V * 4294967296)) + L % 4294967296)) - (IntKind.wrap .u64 (q' * Y))) = (V * 4294967296 + L % 4294967296) % Y := by
      simp only [wu]
      rw [left_of rfl (by omega) (by omega) (by omega), rest_of qa' qb']
    refine ⟨IntKind.wrap .u64 ((IntKind.wrap .u64 (q * 4294967296)) + q'), fun ret => ?_⟩
    rw [eF (by omega), dF (by omega), eF c, dT (by omega), dT (by omega), dT (by omega), dT (by omega), dT (by omega), dT (by omega), nT (by omega), hq]
    rw [nT (by omega), hU', hdiv2, wu_in vq0 vq1, wu_in (n := V / v1 * v1) vqv (by omega), wu_in (n := V - V / v1 * v1) (by omega) (by omega), ev, hq', dT (by omega), hU'', hmin]
    congr 1
    rw [Int.fdiv_eq_ediv_of_nonneg _ (Int.le_of_lt hp), hV]
    have e1 : ((U * 4294967296 + L / 4294967296) % Y * 4294967296 + L % 4294967296) % Y = (U * 18446744073709551616 + L) % Y := by
      have : U * 18446744073709551616 + L = (U * 4294967296 + L / 4294967296) * 4294967296 + L % 4294967296 := by omega
      rw [this]
      generalize U * 4294967296 + L / 4294967296 = Z
      rw [Int.add_emod, Int.mul_emod, Int.emod_emod, ← Int.mul_emod, ← Int.add_emod]
    rw [e1, ← hfull, hYd, Int.mul_comm _ ((2 : Int) ^ s), Int.mul_comm y, Int.mul_emod_mul_of_pos _ _ hp, Int.mul_comm ((2 : Int) ^ s)]
    exact Int.mul_ediv_cancel _ (by omega)

/-- The rest of a number of two words. -/
theorem rem64_spec {hi lo y : Int} (h0 : 0 ≤ hi) (h2 : 0 ≤ lo) (h3 : lo < 18446744073709551616) (hy : 0 < y) (h4 : y < 18446744073709551616) {k : Nat} (hk : 6 ≤ k) {R : Type} (ret : Int → Option R) :
    bits_Rem64.f k hi lo y ret = ret ((hi * 18446744073709551616 + lo) % y) := by
  obtain ⟨k, rfl⟩ : ∃ m, k = m + 1 := ⟨k - 1, by omega⟩
  simp only [bits_Rem64.f]
  obtain ⟨a, ha⟩ := div64_spec (hi := hi % y) (lo := lo) (y := y) (Int.emod_nonneg _ (by omega)) (Int.emod_lt_of_pos _ hy) h2 h3 h4 (k := k) (by omega)
  rw [nT (by omega), Int.tmod_eq_emod_of_nonneg h0, ha]
  congr 1
  rw [Int.add_emod, Int.mul_emod, Int.emod_emod, ← Int.mul_emod, ← Int.add_emod]

theorem mul64_spec {a b : Int} (ha : 0 ≤ a) (ha' : a < 18446744073709551616) (hb : 0 ≤ b) (hb' : b < 18446744073709551616) {k : Nat} (hk : 1 ≤ k) {R : Type} (ret : Int → Int → Option R) : bits_Mul64.f k a b ret = ret (a * b / 18446744073709551616) ((a * b) % 18446744073709551616) := by
  obtain ⟨k, rfl⟩ : ∃ m, k = m + 1 := ⟨k - 1, by omega⟩
  simp only [bits_Mul64.f, shr32]
  rw [m_mask ha ha', m_mask hb hb', wu (a * b)]
  rw [dT (by omega), dT (by omega), dT (by omega), dT (by omega), dT (by omega)]
  obtain ⟨x1, hx1⟩ : ∃ x, x = a / 4294967296 := ⟨_, rfl⟩
  obtain ⟨x0, hx0⟩ : ∃ x, x = a % 4294967296 := ⟨_, rfl⟩
  obtain ⟨y1, hy1⟩ : ∃ x, x = b / 4294967296 := ⟨_, rfl⟩
  obtain ⟨y0, hy0⟩ : ∃ x, x = b % 4294967296 := ⟨_, rfl⟩
  rw [← hx1, ← hx0, ← hy1, ← hy0]
  have hab : a * b = x1 * y1 * 18446744073709551616 + (x1 * y0 + x0 * y1) * 4294967296 + x0 * y0 := by
    have e1 : a = x1 * 4294967296 + x0 := by omega
    have e2 : b = y1 * 4294967296 + y0 := by omega
    rw [e1, e2]
    grind
  have b11 : 0 ≤ x1 * y1 := Int.mul_nonneg (by omega) (by omega)
  have b10 : 0 ≤ x1 * y0 := Int.mul_nonneg (by omega) (by omega)
  have b01 : 0 ≤ x0 * y1 := Int.mul_nonneg (by omega) (by omega)
  have b00 : 0 ≤ x0 * y0 := Int.mul_nonneg (by omega) (by omega)
  have c11 : x1 * y1 ≤ 4294967295 * 4294967295 := Int.mul_le_mul (by omega) (by omega) (by omega) (by omega)
  have c10 : x1 * y0 ≤ 4294967295 * 4294967295 := Int.mul_le_mul (by omega) (by omega) (by omega) (by omega)
  have c01 : x0 * y1 ≤ 4294967295 * 4294967295 := Int.mul_le_mul (by omega) (by omega) (by omega) (by omega)
  have c00 : x0 * y0 ≤ 4294967295 * 4294967295 := Int.mul_le_mul (by omega) (by omega) (by omega) (by omega)
  rw [hab]
  generalize x1 * y1 = p11 at *
  generalize x1 * y0 = p10 at *
  generalize x0 * y1 = p01 at *
  generalize x0 * y0 = p00 at *
  rw [wu_in (n := p11) (by omega) (by omega), wu_in (n := p10) (by omega) (by omega), wu_in (n := p01) (by omega) (by omega), wu_in (n := p00) (by omega) (by omega)]
  rw [wu_in (n := p10 + p00 / 4294967296) (by omega) (by omega)]
  rw [m_mask (by omega) (by omega)]
  rw [wu_in (n := (p10 + p00 / 4294967296) % 4294967296 + p01) (by omega) (by omega)]
  rw [wu_in (n := p11 + (p10 + p00 / 4294967296) / 4294967296) (by omega) (by omega)]
  rw [wu_in (n := p11 + (p10 + p00 / 4294967296) / 4294967296 + ((p10 + p00 / 4294967296) % 4294967296 + p01) / 4294967296) (by omega) (by omega)]
  congr 1
  omega

/-- A modulus that may be. -/
def okB (p : Int) : Bool := decide (2 ≤ p) && decide (p < 9223372036854775808)

theorem mul_spec {p a b : Int} (hp2 : 0 < p) (hp : p < 18446744073709551616) (ha : 0 ≤ a) (ha' : a < 18446744073709551616) (hb : 0 ≤ b) (hb' : b < 18446744073709551616) {k : Nat} (hk : 7 ≤ k) {R : Type} (ret : Int → Option R) :
    field_mul.f k p a b ret = ret (a * b % p) := by
  obtain ⟨k, rfl⟩ : ∃ m, k = m + 1 := ⟨k - 1, by omega⟩
  simp only [field_mul.f]
  have h0 : 0 ≤ a * b := Int.mul_nonneg ha hb
  rw [mul64_spec ha (by omega) hb (by omega) (by omega), rem64_spec (by omega) (by omega) (by omega) (by omega) (by omega) (by omega)]
  congr 2
  omega

theorem right_spec (p : Int) {k : Nat} (hk : 1 ≤ k) {R : Type} (ret : Bool → Option R) : field_Right.f k p ret = ret (okB p) := by
  obtain ⟨k, rfl⟩ : ∃ m, k = m + 1 := ⟨k - 1, by omega⟩
  simp only [field_Right.f]
  unfold okB
  by_cases h : p ≥ 2
  · rw [dT h, decide_eq_true (p := 2 ≤ p) h, Bool.true_and]
  · rw [dF h, decide_eq_false (p := 2 ≤ p) h, Bool.false_and]

/-- Has of one number. -/
theorem has_one (p a : Int) {k : Nat} (hk : 3 ≤ k) {R : Type} (ret : Bool → Option R) : field_Has.f k p [a] ret = ret (decide (a < p) && okB p) := by
  obtain ⟨k, rfl⟩ : ∃ m, k = m + 3 := ⟨k - 3, by omega⟩
  simp only [field_Has.f, field_Has.L0, field_Has.B0, List.length_singleton]
  rw [dT (by omega), aT (by omega)]
  show (bif decide (a ≥ p) then _ else _) = _
  by_cases h : a ≥ p
  · rw [dT h, decide_eq_false (p := a < p) (by omega)]; rfl
  · rw [dF h, w64_in (by omega) (by omega), dF (by omega), right_spec _ (by omega), decide_eq_true (p := a < p) (by omega)]; rfl

end Go.Proofs.Ytanpdkllnmeenaa.M
namespace Go.Proofs.Ytanpdkllnmeenaa.M
set_option linter.unusedVariables false
set_option maxRecDepth 100000
open Go Go.RowKit Go.Proofs Go.Proofs.Ytanpdkllnmeenaa.Am

/-- a times a times .. modulo p. -/
def pw (p a n : Int) : Int := a ^ n.toNat % p

theorem pow_half (a n : Int) (h : 0 ≤ n) : a ^ n.toNat = (a * a) ^ (n / 2).toNat * (if n % 2 = 1 then a else 1) := by
  have e : n.toNat = 2 * (n / 2).toNat + (n % 2).toNat := by omega
  rw [e, Int.pow_add, Int.pow_mul]
  congr 1
  · congr 1
    rw [Int.pow_succ, Int.pow_succ, Int.pow_zero, Int.one_mul]
  · by_cases h1 : n % 2 = 1
    · rw [if_pos h1, h1]; show a ^ 1 = a; rw [Int.pow_succ, Int.pow_zero, Int.one_mul]
    · rw [if_neg h1, show n % 2 = 0 by omega]; simp

theorem pow_mod (a p : Int) (n : Nat) : (a % p) ^ n % p = a ^ n % p := by
  induction n with
  | zero => rw [Int.pow_zero, Int.pow_zero]
  | succ n ih => rw [Int.pow_succ, Int.pow_succ, Int.mul_emod, ih, Int.emod_emod, ← Int.mul_emod]

theorem pow_l0 {p : Int} (hp2 : 2 ≤ p) (hp : p < 9223372036854775808) {k : Nat} (hk : 7 ≤ k) {R : Type} (x0 : Int → Option R) (j : Nat) : ∀ (m : Nat) (a n out : Int), j + 1 ≤ m → 0 ≤ n → n < 2 ^ j → n < 18446744073709551616 → 0 ≤ a → a < p → 0 ≤ out → out < p →
    field_Pow.L0 k x0 m p a n out = x0 (out * a ^ n.toNat % p) := by
  induction j with
  | zero =>
    intro m a n out hm h0 h1 h2 ha ha' ho ho'
    obtain ⟨m, rfl⟩ : ∃ i, m = i + 1 := ⟨m - 1, by omega⟩
    have : n = 0 := by omega
    subst this
    simp only [field_Pow.L0, field_Pow.B0]
    rw [dF (by omega)]
    simp [Int.emod_eq_of_lt ho ho']
  | succ j ih =>
    intro m a n out hm h0 h1 h2 ha ha' ho ho'
    by_cases hz : n = 0
    · obtain ⟨m, rfl⟩ : ∃ i, m = i + 1 := ⟨m - 1, by omega⟩
      subst hz
      simp only [field_Pow.L0, field_Pow.B0]
      rw [dF (by omega)]
      simp [Int.emod_eq_of_lt ho ho']
    · obtain ⟨m, rfl⟩ : ∃ i, m = i + 1 := ⟨m - 1, by omega⟩
      simp only [field_Pow.L0, field_Pow.B0]
      rw [dT (by omega), m_one h0 h2, shr1]
      have hpw : (2 : Int) ^ (j + 1) = 2 ^ j * 2 := Int.pow_succ _ _
      have hA0 : 0 ≤ a * a % p := Int.emod_nonneg _ (by omega)
      have hA1 : a * a % p < p := Int.emod_lt_of_pos _ (by omega)
      by_cases h : n % 2 = 1
      · have hO0 : 0 ≤ out * a % p := Int.emod_nonneg _ (by omega)
        have hO1 : out * a % p < p := Int.emod_lt_of_pos _ (by omega)
        rw [eT h, mul_spec (by omega) (by omega) ho (by omega) ha (by omega) hk, mul_spec (by omega) (by omega) ha (by omega) ha (by omega) hk, dT (by omega)]
        rw [ih m _ _ _ (by omega) (by omega) (by omega) (by omega) hA0 hA1 hO0 hO1]
        congr 1
        rw [pow_half a n h0, if_pos h, Int.mul_emod (out * a % p), pow_mod, Int.emod_emod, ← Int.mul_emod]
        congr 1
        grind
      · rw [eF h, mul_spec (by omega) (by omega) ha (by omega) ha (by omega) hk, dT (by omega)]
        rw [ih m _ _ _ (by omega) (by omega) (by omega) (by omega) hA0 hA1 ho ho']
        congr 1
        rw [pow_half a n h0, if_neg h, Int.mul_emod out, pow_mod, ← Int.mul_emod, Int.mul_one]

/-- field.Pow. -/
theorem pow_spec {p a n : Int} (ha : 0 ≤ a) (h0 : 0 ≤ n) (h1 : n < 18446744073709551616) {k : Nat} (hk : 66 ≤ k) {R : Type} (ret : Int → Int → Option R) :
    field_Pow.f k p a n ret = if a < p ∧ 2 ≤ p ∧ p < 9223372036854775808 then ret (pw p a n) 0 else ret 0 1 := by
  obtain ⟨k, rfl⟩ : ∃ m, k = m + 1 := ⟨k - 1, by omega⟩
  simp only [field_Pow.f]
  rw [has_one _ _ (by omega)]
  by_cases h : a < p ∧ 2 ≤ p ∧ p < 9223372036854775808
  · rw [if_pos h, decide_eq_true h.1, okB, decide_eq_true h.2.1, decide_eq_true h.2.2]
    simp only [Bool.and_self, Bool.not_true, cond_false]
    rw [pow_l0 h.2.1 h.2.2 (by omega) _ 64 k a n 1 (by omega) h0 (by simpa using h1) h1 ha h.1 (by omega) (by omega), Int.one_mul]
    rfl
  · rw [if_neg h]
    have : (decide (a < p) && okB p) = false := by
      rw [okB, ← Bool.not_eq_true]
      simpa using h
    rw [this]; rfl

/-- The reference's Add, Mul, Pow. -/
theorem rMul_spec {p a : Int} (hp2 : 2 ≤ p) (hp : p < 9223372036854775808) (ha : 0 ≤ a) (ha' : a < p) (j : Nat) : ∀ (k : Nat) (b : Int), j + 2 ≤ k → 0 ≤ b → b < 2 ^ j → b < 18446744073709551616 → ∀ {R : Type} (ret : Int → Option R),
    affidavitref01_Mul.f k p a b ret = ret (a * b % p) := by
  induction j with
  | zero =>
    intro k b hk h0 h1 h2 R ret
    obtain ⟨k, rfl⟩ : ∃ m, k = m + 1 := ⟨k - 1, by omega⟩
    have : b = 0 := by omega
    subst this
    simp only [affidavitref01_Mul.f]
    rw [eT rfl]; simp
  | succ j ih =>
    intro k b hk h0 h1 h2 R ret
    obtain ⟨k, rfl⟩ : ∃ m, k = m + 2 := ⟨k - 2, by omega⟩
    by_cases hz : b = 0
    · subst hz
      simp only [affidavitref01_Mul.f]
      rw [eT rfl]; simp
    · have hpw : (2 : Int) ^ (j + 1) = 2 ^ j * 2 := Int.pow_succ _ _
      rw [affidavitref01_Mul.f]
      rw [eF hz, nT (by omega), Int.tdiv_eq_ediv_of_nonneg h0, wu_in (by omega) (by omega), ih (k + 1) (b / 2) (by omega) (by omega) (by omega) (by omega)]
      simp only [affidavitref01_Add.f]
      have hA0 : 0 ≤ a * (b / 2) % p := Int.emod_nonneg _ (by omega)
      have hA1 : a * (b / 2) % p < p := Int.emod_lt_of_pos _ (by omega)
      have hadd : ∀ x y : Int, 0 ≤ x → x < p → 0 ≤ y → y < p → Int.tmod (IntKind.wrap .u64 (x + y)) p = (x + y) % p := by
        intro x y a1 a2 a3 a4
        rw [wu_in (by omega) (by omega), Int.tmod_eq_emod_of_nonneg (by omega)]
      rw [nT (by omega), nT (by omega), hadd _ _ hA0 hA1 hA0 hA1, Int.tmod_eq_emod_of_nonneg h0]
      have hB0 : 0 ≤ (a * (b / 2) % p + a * (b / 2) % p) % p := Int.emod_nonneg _ (by omega)
      have hB1 : (a * (b / 2) % p + a * (b / 2) % p) % p < p := Int.emod_lt_of_pos _ (by omega)
      have e2 : (a * (b / 2) % p + a * (b / 2) % p) % p = (a * (2 * (b / 2))) % p := by
        rw [← Int.add_emod]; congr 1; grind
      rw [e2] at hB0 hB1 ⊢
      by_cases h : b % 2 = 1
      · rw [eT h, nT (by omega), hadd _ _ hB0 hB1 ha ha']
        congr 1
        rw [Int.add_emod, Int.emod_emod, ← Int.add_emod]
        congr 1
        have : b = 2 * (b / 2) + 1 := by omega
        conv => rhs; rw [this]
        grind
      · rw [eF h]
        congr 3
        omega
theorem rPow_spec {p a : Int} (hp2 : 2 ≤ p) (hp : p < 9223372036854775808) (ha : 0 ≤ a) (ha' : a < p) (j : Nat) : ∀ (k : Nat) (n : Int), j + 70 ≤ k → 0 ≤ n → n < 2 ^ j → n < 18446744073709551616 → ∀ {R : Type} (ret : Int → Option R),
    affidavitref01_Pow.f k p a n ret = ret (pw p a n) := by
  induction j with
  | zero =>
    intro k n hk h0 h1 h2 R ret
    obtain ⟨k, rfl⟩ : ∃ m, k = m + 1 := ⟨k - 1, by omega⟩
    have : n = 0 := by omega
    subst this
    simp only [affidavitref01_Pow.f]
    rw [eT rfl, pw, show (0 : Int).toNat = 0 from rfl, Int.pow_zero, Int.emod_eq_of_lt (by omega) (by omega)]
  | succ j ih =>
    intro k n hk h0 h1 h2 R ret
    obtain ⟨k, rfl⟩ : ∃ m, k = m + 1 := ⟨k - 1, by omega⟩
    by_cases hz : n = 0
    · subst hz
      simp only [affidavitref01_Pow.f]
      rw [eT rfl, pw, show (0 : Int).toNat = 0 from rfl, Int.pow_zero, Int.emod_eq_of_lt (by omega) (by omega)]
    · have hpw : (2 : Int) ^ (j + 1) = 2 ^ j * 2 := Int.pow_succ _ _
      rw [affidavitref01_Pow.f]
      have hP0 : ∀ n, 0 ≤ pw p a n := fun n => Int.emod_nonneg _ (by omega)
      have hP1 : ∀ n, pw p a n < p := fun n => Int.emod_lt_of_pos _ (by omega)
      have hS0 : ∀ x : Int, 0 ≤ x % p := fun x => Int.emod_nonneg _ (by omega)
      have hS1 : ∀ x : Int, x % p < p := fun x => Int.emod_lt_of_pos _ (by omega)
      have hp0 := hP0 (n / 2); have hp1 := hP1 (n / 2)
      rw [eF hz, nT (by omega), Int.tdiv_eq_ediv_of_nonneg h0, wu_in (by omega) (by omega), ih k (n / 2) (by omega) (by omega) (by omega) (by omega)]
      rw [rMul_spec hp2 hp hp0 hp1 64 k _ (by omega) hp0 (by simp; omega) (by omega), nT (by omega), Int.tmod_eq_emod_of_nonneg h0]
      have e2 : pw p a (n / 2) * pw p a (n / 2) % p = (a * a) ^ (n / 2).toNat % p := by
        simp only [pw]
        rw [← Int.mul_emod]
        congr 1
        rw [← Int.mul_pow]
      rw [e2]
      by_cases h : n % 2 = 1
      · rw [eT h, rMul_spec hp2 hp (hS0 _) (hS1 _) 64 k a (by omega) ha (by simp; omega) (by omega)]
        congr 1
        rw [pw, pow_half a n h0, if_pos h, Int.mul_emod ((a * a) ^ _ % p), Int.emod_emod, ← Int.mul_emod]
      · rw [eF h, pw, pow_half a n h0, if_neg h, Int.mul_one]
end Go.Proofs.Ytanpdkllnmeenaa.M
namespace Go.Proofs.Ytanpdkllnmeenaa.Am
open Go
theorem drop_at {α : Type} {l : List α} {i : Nat} (h : i < l.length) (d : α) : l.drop i = l.getD i d :: l.drop (i + 1) := by
  rw [List.drop_eq_getElem_cons h, List.getD_eq_getElem?_getD, List.getElem?_eq_getElem h]; rfl
theorem getD_mem {α : Type} {l : List α} {i : Nat} (h : i < l.length) (d : α) : l.getD i d ∈ l := by
  rw [List.getD_eq_getElem?_getD, List.getElem?_eq_getElem h]; exact List.getElem_mem h
theorem ix {i : Nat} (h : i < 4611686018427387904) : IntKind.wrap .i64 ((i : Int) + 1) = ((i + 1 : Nat) : Int) := by rw [w64_in (by omega) (by omega)]; omega
theorem ixm {i : Nat} (h : i < 4611686018427387904) (h1 : 1 ≤ i) : IntKind.wrap .i64 ((i : Int) - 1) = ((i - 1 : Nat) : Int) := by rw [w64_in (by omega) (by omega)]; omega

/-- The keys rise. -/
def inc : List (Int × Int) → Bool
  | a :: b :: r => decide (a.1 < b.1) && inc (b :: r)
  | _ => true
/-- n divided t times by q, if it goes. -/
def dv (q : Int) : Nat → Int → Option Int
  | 0, n => some n
  | t + 1, n => if n % q = 0 then dv q t (n / q) else none
/-- n divided by all parts. -/
def pl : List (Int × Int) → Int → Option Int
  | [], n => some n
  | a :: r, n => bif decide (2 ≤ a.1 ∧ 1 ≤ a.2) then (dv a.1 a.2.toNat n).bind (pl r) else none

theorem div_half {n q : Int} {j : Nat} (hq : 2 ≤ q) (h1 : 1 ≤ n) (h2 : n < 2 ^ j) (hd : n % q = 0) : 1 ≤ n / q ∧ n / q < 2 ^ (j - 1) ∧ 1 ≤ j ∧ n / q < n := by
  have e := Int.mul_ediv_add_emod n q
  have hq' : 0 < n / q := by
    apply Classical.byContradiction
    intro hn
    have h0 : 0 ≤ n / q := Int.ediv_nonneg (by omega) (by omega)
    have : n / q = 0 := by omega
    rw [this, hd] at e
    omega
  have h3 : 2 * (n / q) ≤ q * (n / q) := Int.mul_le_mul_of_nonneg_right hq (by omega)
  cases j with
  | zero => simp at h2; omega
  | succ j =>
    have hpw : (2 : Int) ^ (j + 1) = 2 ^ j * 2 := Int.pow_succ _ _
    exact ⟨by omega, by simp only [Nat.add_sub_cancel]; omega, by omega, by omega⟩
theorem dv_pos {q : Int} (hq : 2 ≤ q) : ∀ (t : Nat) (n n' : Int), 1 ≤ n → dv q t n = some n' → 1 ≤ n' ∧ n' ≤ n
  | 0, n, n', h, e => by simp [dv] at e; omega
  | t + 1, n, n', h, e => by
    simp only [dv] at e
    split at e
    · rename_i hd
      have hlt : n < 2 ^ n.toNat := by
        have h2 := @Nat.lt_two_pow_self n.toNat
        have : ((n.toNat : Nat) : Int) < ((2 ^ n.toNat : Nat) : Int) := by exact_mod_cast h2
        rw [Int.toNat_of_nonneg (by omega)] at this
        simpa using this
      obtain ⟨h1, _, _, h2⟩ := div_half hq h hlt hd
      have := dv_pos hq t _ n' h1 e
      omega
    · cases e
theorem dv_none {q : Int} (hq : 2 ≤ q) : ∀ (j t : Nat) (n : Int), 1 ≤ n → n < 2 ^ j → j ≤ t → dv q t n = none
  | 0, t, n, h1, h2, ht => by simp at h2; omega
  | j + 1, 0, n, h1, h2, ht => by omega
  | j + 1, t + 1, n, h1, h2, ht => by
    simp only [dv]
    split
    · rename_i hd
      obtain ⟨a, b, _, _⟩ := div_half hq h1 h2 hd
      exact dv_none hq j t _ a (by simpa using b) (by omega)
    · rfl
end Go.Proofs.Ytanpdkllnmeenaa.Am
namespace Go.Proofs.Ytanpdkllnmeenaa.M
set_option linter.unusedVariables false
set_option maxRecDepth 100000
open Go Go.RowKit Go.Proofs Go.Proofs.Ytanpdkllnmeenaa.Am

theorem formed_l0 {k : Nat} {R : Type} (x0 : Bool → Option R) (x1 : Int → Int → List (Int × Int) → Option R) (a b : Int) {l : List (Int × Int)} (hl : l.length < 281474976710656) (d : Nat) : ∀ m i : Nat, 1 ≤ i → i + d = l.length → d < m →
    prime_formed.L0 k x0 x1 m i a b l = bif inc (l.drop (i - 1)) then x1 a b l else x0 false := by
  induction d with
  | zero =>
    intro m i hi hd hm
    obtain ⟨m, rfl⟩ : ∃ j, m = j + 1 := ⟨m - 1, by omega⟩
    simp only [prime_formed.L0, prime_formed.B0]
    rw [dF (by omega), drop_at (i := i - 1) (by omega) (0, 0), List.drop_of_length_le (by omega)]
    rfl
  | succ d ih =>
    intro m i hi hd hm
    obtain ⟨m, rfl⟩ : ∃ j, m = j + 1 := ⟨m - 1, by omega⟩
    simp only [prime_formed.L0, prime_formed.B0]
    have e2 : (i - 1) + 1 = i := by omega
    rw [dT (by omega), ixm (by omega) hi, aT (by omega), aT (by omega), ix (by omega), ih m (i + 1) (by omega) (by omega) (by omega), drop_at (i := i - 1) (by omega) (0, 0), e2, Nat.add_sub_cancel]
    rw [drop_at (i := i) (by omega) (0, 0)]
    rw [Int.toNat_natCast, Int.toNat_natCast, inc]
    by_cases h : (l.getD (i - 1) (0, 0)).1 < (l.getD i (0, 0)).1
    · rw [dF (by omega), decide_eq_true h]; rfl
    · rw [dT (by omega), decide_eq_false h]; rfl

theorem product_l2 {k : Nat} {R : Type} (x0 : Bool → Option R) (x1 : Int → List (Int × Int) → Int → Int → Option R) (t7 : List (Int × Int)) (t8 t9 y : Int) {q T : Int} (hq : 2 ≤ q) (hT : T < 9223372036854775808) (j : Nat) : ∀ (m : Nat) (i n : Int) (d : Nat), j + 2 ≤ m → 0 ≤ i → i + d = T → 1 ≤ n → n < 2 ^ j → n < 18446744073709551616 →
    prime_product.L2 k x0 x1 m n t7 t8 t9 T i q y = (dv q d n).elim (x0 false) (fun v => x1 v t7 t8 t9) := by
  induction j with
  | zero => intro m i n d hm hi hd h1 h2 _; simp at h2; omega
  | succ j ih =>
    intro m i n d hm hi hd h1 h2 h3
    obtain ⟨m, rfl⟩ : ∃ j, m = j + 1 := ⟨m - 1, by omega⟩
    simp only [prime_product.L2, prime_product.B2]
    cases d with
    | zero => rw [dF (by omega)]; rfl
    | succ d =>
      rw [dT (by omega), nT (by omega), Int.tmod_eq_emod_of_nonneg (by omega)]
      simp only [dv]
      by_cases hd' : n % q = 0
      · obtain ⟨a1, a2, _, a3⟩ := div_half hq h1 h2 hd'
        rw [nF hd', nT (by omega), if_pos hd', Int.tdiv_eq_ediv_of_nonneg (by omega), wu_in (by omega) (by omega), w64_in (by omega) (by omega)]
        exact ih m _ _ d (by omega) (by omega) (by omega) a1 (by simpa using a2) (by omega)
      · rw [nT hd', if_neg hd']; rfl

theorem product_l0 {k : Nat} (hk : 66 ≤ k) {R : Type} (x0 : Bool → Option R) (x1 : Int → Option R) {l : List (Int × Int)} (hl : l.length < 281474976710656) (d : Nat) : ∀ (m i : Nat) (n : Int), i + d = l.length → d < m → 1 ≤ n → n < 9223372036854775808 →
    prime_product.L0 k x0 x1 m n l (l.length : Int) i = (pl (l.drop i) n).elim (x0 false) x1 := by
  induction d with
  | zero =>
    intro m i n hi hm h1 h2
    obtain ⟨m, rfl⟩ : ∃ j, m = j + 1 := ⟨m - 1, by omega⟩
    simp only [prime_product.L0, prime_product.B0]
    rw [dF (by omega), List.drop_of_length_le (by omega)]
    rfl
  | succ d ih =>
    intro m i n hi hm h1 h2
    obtain ⟨m, rfl⟩ : ∃ j, m = j + 1 := ⟨m - 1, by omega⟩
    simp only [prime_product.L0, prime_product.B0]
    rw [dT (by omega), aT (by omega), drop_at (i := i) (by omega) (0, 0)]
    rw [Int.toNat_natCast, pl]
    generalize l.getD i (0, 0) = a
    by_cases c1 : a.1 < 2
    · rw [dT c1, dF (p := 2 ≤ a.1 ∧ 1 ≤ a.2) (by omega)]; rfl
    · by_cases c2 : a.2 < 1
      · rw [dF c1, dT c2, dF (p := 2 ≤ a.1 ∧ 1 ≤ a.2) (by omega)]; rfl
      · rw [dF c1, dF c2, dT (p := 2 ≤ a.1 ∧ 1 ≤ a.2) (by omega)]
        by_cases c3 : a.2 > 63
        · rw [dT c3, dv_none (by omega) 63 _ n h1 (by simpa using h2) (by omega)]; rfl
        · rw [dF c3, product_l2 x0 _ l _ _ _ (by omega) (by omega) 63 k 0 n a.2.toNat (by omega) (by omega) (by omega) h1 (by simpa using h2) (by omega)]
          cases hdv : dv a.1 a.2.toNat n with
          | none => rfl
          | some v =>
            have := dv_pos (by omega) _ _ _ h1 hdv
            simp only [Option.elim, Option.bind_some]
            rw [ix (by omega), ih m (i + 1) v (by omega) (by omega) (by omega) (by omega)]
            rfl

theorem product_spec {l : List (Int × Int)} {n : Int} (hl : l.length < 281474976710656) (h1 : 1 ≤ n) (h2 : n < 9223372036854775808) {k : Nat} (hk : 68 + l.length ≤ k) {R : Type} (ret : Bool → Option R) :
    prime_product.f k l n ret = ret (pl l n == some 1) := by
  obtain ⟨k, rfl⟩ : ∃ m, k = m + 1 := ⟨k - 1, by omega⟩
  simp only [prime_product.f]
  have := product_l0 (k := k) (by omega) (fun t41 => ret t41) (fun n4 => ret (n4 == 1)) hl l.length k 0 n (by omega) (by omega) h1 h2
  rw [show ((0 : Nat) : Int) = 0 from rfl] at this
  rw [this, List.drop_zero]
  cases pl l n with
  | none => rfl
  | some v => rfl

/-- A proof's form is right. -/
def formB (x : Int × Int × List (Int × Int)) : Bool := decide (2 < x.1 ∧ x.1 < 9223372036854775808 ∧ 1 ≤ x.2.1 ∧ x.2.1 < x.1 ∧ 1 ≤ x.2.2.length ∧ x.2.2.length ≤ 20) && (inc x.2.2 && (pl x.2.2 (x.1 - 1) == some 1))

theorem formed_spec (x : Int × Int × List (Int × Int)) {k : Nat} (hk : 90 ≤ k) {R : Type} (ret : Bool → Option R) : prime_formed.f k x ret = ret (formB x) := by
  obtain ⟨k, rfl⟩ : ∃ m, k = m + 1 := ⟨k - 1, by omega⟩
  obtain ⟨N, a, l⟩ := x
  simp only [prime_formed.f]
  by_cases c : 2 < N ∧ N < 9223372036854775808 ∧ 1 ≤ a ∧ a < N ∧ 1 ≤ l.length ∧ l.length ≤ 20
  · have e : formB (N, a, l) = (inc l && (pl l (N - 1) == some 1)) := by
      unfold formB; rw [decide_eq_true c, Bool.true_and]
    rw [e, dF (by omega), dF (by omega), dF (by omega), dF (by omega), dF (by omega), dF (by omega)]
    have := formed_l0 (k := k) (fun t2 => ret t2) (fun x4 x5 x6 => prime_product.f k x6 (IntKind.wrap .u64 (x4 - 1)) (fun b => ret b)) N a (l := l) (by omega) (l.length - 1) k 1 (by omega) (by omega) (by omega)
    rw [show ((1 : Nat) : Int) = 1 from rfl] at this
    rw [this, Nat.sub_self, List.drop_zero, wu_in (by omega) (by omega), product_spec (by omega) (by omega) (by omega) (by omega)]
    cases inc l
    · rw [Bool.false_and]; rfl
    · rw [Bool.true_and]; rfl
  · have e : formB (N, a, l) = false := by
      unfold formB; rw [decide_eq_false c, Bool.false_and]
    rw [e]
    by_cases c1 : N ≤ 2
    · rw [dT c1]
    · by_cases c2 : N ≥ 9223372036854775808
      · rw [dF c1, dT c2]
      · by_cases c3 : a < 1
        · rw [dF c1, dF c2, dT c3]
        · by_cases c4 : a ≥ N
          · rw [dF c1, dF c2, dF c3, dT c4]
          · by_cases c5 : (l.length : Int) < 1
            · rw [dF c1, dF c2, dF c3, dF c4, dT c5]
            · rw [dF c1, dF c2, dF c3, dF c4, dF c5, dT (by omega)]

end Go.Proofs.Ytanpdkllnmeenaa.M
namespace Go.Proofs.Ytanpdkllnmeenaa.Am
open Go
theorem pl_keys : ∀ (l : List (Int × Int)) (n v : Int), pl l n = some v → ∀ y ∈ l, 2 ≤ y.1 ∧ 1 ≤ y.2
  | [], n, v, h, y, hy => by cases hy
  | a :: r, n, v, h, y, hy => by
    rw [pl] at h
    by_cases c : 2 ≤ a.1 ∧ 1 ≤ a.2
    · rw [dT c] at h
      cases hd : dv a.1 a.2.toNat n with
      | none => rw [hd] at h; cases h
      | some w =>
        rw [hd] at h
        cases hy with
        | head => exact c
        | tail _ hy => exact pl_keys r w v h y hy
    · rw [dF c] at h; cases h
end Go.Proofs.Ytanpdkllnmeenaa.Am
namespace Go.Proofs.Ytanpdkllnmeenaa.M
set_option linter.unusedVariables false
set_option maxRecDepth 100000
open Go Go.RowKit Go.Proofs Go.Proofs.Ytanpdkllnmeenaa.Am

def oneB (x : Int × Int × List (Int × Int)) (n : Int) : Bool := decide (x.2.1 < x.1 ∧ 2 ≤ x.1 ∧ x.1 < 9223372036854775808) && (pw x.1 x.2.1 n == 1)
theorem one_spec {x : Int × Int × List (Int × Int)} {n : Int} (h : 0 ≤ x.2.1) (h0 : 0 ≤ n) (h1 : n < 18446744073709551616) {k : Nat} (hk : 67 ≤ k) {R : Type} (ret : Bool → Option R) : prime_one.f k x n ret = ret (oneB x n) := by
  obtain ⟨k, rfl⟩ : ∃ m, k = m + 1 := ⟨k - 1, by omega⟩
  simp only [prime_one.f]
  rw [pow_spec h h0 h1 (by omega)]
  unfold oneB
  by_cases c : x.2.1 < x.1 ∧ 2 ≤ x.1 ∧ x.1 < 9223372036854775808
  · rw [if_pos c, decide_eq_true c, Bool.true_and]
  · rw [if_neg c, decide_eq_false c, Bool.false_and]; rfl

def partB (known : List (Unit × Int × Bool)) (x : Int × Int × List (Int × Int)) (y : Int × Int) : Bool := mget false known y.1 && !(oneB x ((x.1 - 1) / y.1))
theorem shows1_spec {known : List (Unit × Int × Bool)} {x : Int × Int × List (Int × Int)} {y : Int × Int} (h : 0 ≤ x.2.1) (hx : 1 ≤ x.1) (hx' : x.1 < 9223372036854775808) (hy : 2 ≤ y.1) {k : Nat} (hk : 68 ≤ k) {R : Type} (ret : Bool → Option R) :
    prime_shows_1.f k y known x ret = ret (!(partB known x y)) := by
  obtain ⟨k, rfl⟩ : ∃ m, k = m + 1 := ⟨k - 1, by omega⟩
  simp only [prime_shows_1.f]
  unfold partB
  have h1 : 0 ≤ (x.1 - 1) / y.1 := Int.ediv_nonneg (by omega) (by omega)
  have h2 : (x.1 - 1) / y.1 ≤ x.1 - 1 := Int.ediv_le_self _ (by omega)
  rw [nT (by omega), wu_in (n := x.1 - 1) (by omega) (by omega), Int.tdiv_eq_ediv_of_nonneg (by omega), wu_in h1 (by omega), one_spec h h1 (by omega) (by omega)]
  cases mget false known y.1
  · rw [Bool.not_false, Bool.false_and, Bool.not_false]; rfl
  · rw [Bool.not_true, Bool.true_and, Bool.not_not]; rfl

theorem index_l0 {known : List (Unit × Int × Bool)} {x : Int × Int × List (Int × Int)} (h : 0 ≤ x.2.1) (hx : 1 ≤ x.1) (hx' : x.1 < 9223372036854775808) {k : Nat} (hk : 68 ≤ k) {l : List (Int × Int)} (hl : l.length < 281474976710656) (hy : ∀ y ∈ l, 2 ≤ y.1) (d : Nat) : ∀ (m i : Nat), i + d = l.length → d < m →
    ∃ j : Int, 0 ≤ j ∧ ∀ {R : Type} (x0 : Int → Option R) (x1 : Unit → Option R), slices_IndexFunc.L0 k x0 x1 m l known x (l.length : Int) i = bif (l.drop i).all (partB known x) then x1 () else x0 j := by
  induction d with
  | zero =>
    intro m i hi hm
    obtain ⟨m, rfl⟩ : ∃ j, m = j + 1 := ⟨m - 1, by omega⟩
    refine ⟨0, by omega, fun x0 x1 => ?_⟩
    simp only [slices_IndexFunc.L0, slices_IndexFunc.B0]
    rw [dF (by omega), List.drop_of_length_le (by omega), List.all_nil]
    rfl
  | succ d ih =>
    intro m i hi hm
    obtain ⟨m, rfl⟩ : ∃ j, m = j + 1 := ⟨m - 1, by omega⟩
    obtain ⟨j, hj, hh⟩ := ih m (i + 1) (by omega) (by omega)
    have hm1 := getD_mem (l := l) (i := i) (by omega) (0, 0)
    have hs := fun {R : Type} (ret : Bool → Option R) => shows1_spec (known := known) h hx hx' (hy _ hm1) hk ret
    simp only [slices_IndexFunc.L0, slices_IndexFunc.B0]
    rw [Int.toNat_natCast, drop_at (i := i) (by omega) (0, 0), List.all_cons]
    cases hp : partB known x (l.getD i (0, 0)) with
    | false =>
      refine ⟨i, by omega, fun x0 x1 => ?_⟩
      rw [dT (by omega), aT (by omega), hs, hp, Bool.not_false, Bool.false_and]; rfl
    | true =>
      refine ⟨j, hj, fun x0 x1 => ?_⟩
      rw [dT (by omega), aT (by omega), hs, hp, Bool.not_true, Bool.true_and, cond_false, ix (by omega), hh]

theorem contains_spec {known : List (Unit × Int × Bool)} {x : Int × Int × List (Int × Int)} (h : 0 ≤ x.2.1) (hx : 1 ≤ x.1) (hx' : x.1 < 9223372036854775808) {l : List (Int × Int)} (hl : l.length < 281474976710656) (hy : ∀ y ∈ l, 2 ≤ y.1) {k : Nat} (hk : 72 + l.length ≤ k) {R : Type} (ret : Bool → Option R) :
    slices_ContainsFunc.f k l known x ret = ret (!(l.all (partB known x))) := by
  obtain ⟨k, rfl⟩ : ∃ m, k = m + 2 := ⟨k - 2, by omega⟩
  obtain ⟨j, hj, hh⟩ := index_l0 (known := known) h hx hx' (k := k) (by omega) hl hy l.length k 0 (by omega) (by omega)
  simp only [slices_ContainsFunc.f, slices_IndexFunc.f]
  rw [show ((0 : Nat) : Int) = 0 from rfl, List.drop_zero] at hh
  rw [hh]
  cases l.all (partB known x)
  · rw [cond_false, decide_eq_true (by omega), Bool.not_false]
  · rw [cond_true, decide_eq_false (by omega), Bool.not_true]

def showsB (known : List (Unit × Int × Bool)) (x : Int × Int × List (Int × Int)) : Bool := formB x && (oneB x (x.1 - 1) && x.2.2.all (partB known x))
theorem form_facts {x : Int × Int × List (Int × Int)} (h : formB x = true) : (2 < x.1 ∧ x.1 < 9223372036854775808 ∧ 1 ≤ x.2.1 ∧ x.2.1 < x.1 ∧ 1 ≤ x.2.2.length ∧ x.2.2.length ≤ 20) ∧ inc x.2.2 = true ∧ pl x.2.2 (x.1 - 1) = some 1 := by
  unfold formB at h
  rw [Bool.and_eq_true, Bool.and_eq_true] at h
  exact ⟨of_decide_eq_true h.1, h.2.1, by simpa using h.2.2⟩
theorem shows_spec (known : List (Unit × Int × Bool)) (x : Int × Int × List (Int × Int)) {k : Nat} (hk : 100 ≤ k) {R : Type} (ret : Bool → Option R) : prime_shows.f k x known ret = ret (showsB known x) := by
  obtain ⟨k, rfl⟩ : ∃ m, k = m + 1 := ⟨k - 1, by omega⟩
  simp only [prime_shows.f]
  rw [formed_spec _ (by omega)]
  unfold showsB
  cases hf : formB x with
  | false => rw [Bool.not_false, Bool.false_and]; rfl
  | true =>
    obtain ⟨⟨a1, a2, a3, a4, a5, a6⟩, _, hp⟩ := form_facts hf
    rw [Bool.not_true, cond_false, Bool.true_and, wu_in (n := x.1 - 1) (by omega) (by omega), one_spec (by omega) (by omega) (by omega) (by omega)]
    cases oneB x (x.1 - 1) with
    | false => rw [Bool.not_false, Bool.false_and]; rfl
    | true =>
      rw [Bool.not_true, cond_false, Bool.true_and, contains_spec (by omega) (by omega) a2 (by omega) (fun y hy => (pl_keys _ _ _ hp y hy).1) (by omega), Bool.not_not]

/-- What is known of a list, up to some place: 2, and all numbers ahead. -/
def knownM : List (Int × Int × List (Int × Int)) → List (Unit × Int × Bool) → List (Unit × Int × Bool)
  | [], m => m
  | x :: r, m => knownM r (mset m x.1 true)
/-- The first that isn't shown. -/
def firstFrom (i : Nat) (last : Int) : List (Int × Int × List (Int × Int)) → List (Unit × Int × Bool) → Nat
  | [], _ => i
  | x :: r, m => bif decide (i < 200) && (decide (i = 0 ∨ last < x.1) && showsB m x) then firstFrom (i + 1) x.1 r (mset m x.1 true) else i
def firstN (l : List (Int × Int × List (Int × Int))) : Nat := firstFrom 0 0 l (mset [] 2 true)

theorem first_l0 {k : Nat} (hk : 100 ≤ k) {R : Type} (x0 : Int → Option R) (x1 : List (Int × Int × List (Int × Int)) → Option R) {l : List (Int × Int × List (Int × Int))} (hl : l.length < 281474976710656) (hx : x1 l = x0 (l.length : Int)) (d : Nat) : ∀ (m i : Nat) (known : List (Unit × Int × Bool)), i + d = l.length → d < m → i ≤ 200 →
    prime_First.L0 k x0 x1 m l l (l.length : Int) i known = x0 (firstFrom i (l.getD (i - 1) (0, 0, [])).1 (l.drop i) known : Nat) := by
  induction d with
  | zero =>
    intro m i known hi hm h200
    obtain ⟨m, rfl⟩ : ∃ j, m = j + 1 := ⟨m - 1, by omega⟩
    simp only [prime_First.L0, prime_First.B0]
    rw [dF (by omega), List.drop_of_length_le (by omega), hx]
    congr 1
    show _ = ((i : Nat) : Int)
    omega
  | succ d ih =>
    intro m i known hi hm h200
    obtain ⟨m, rfl⟩ : ∃ j, m = j + 1 := ⟨m - 1, by omega⟩
    simp only [prime_First.L0, prime_First.B0]
    rw [dT (by omega), aT (by omega), drop_at (i := i) (by omega) (0, 0, []), firstFrom, Int.toNat_natCast]
    have heta : ((l.getD i (0, 0, [])).1, (l.getD i (0, 0, [])).2) = l.getD i (0, 0, []) := rfl
    rw [heta, shows_spec _ _ hk, ix (by omega)]
    by_cases c : i = 200
    · rw [eT (by omega), decide_eq_false (p := i < 200) (by omega), Bool.false_and, cond_false]
    · have ih' := ih m (i + 1) (mset known (l.getD i (0, 0, [])).1 true) (by omega) (by omega) (by omega)
      rw [Nat.add_sub_cancel] at ih'
      rw [eF (by omega), ih']
      by_cases c2 : i < 200
      · rw [decide_eq_true c2, Bool.true_and]
        by_cases c1 : i = 0
        · subst c1
          rw [dF (by omega), decide_eq_true (p := (0 = 0 ∨ _)) (.inl rfl), Bool.true_and]
          cases showsB known (l.getD 0 (0, 0, []))
          · rw [Bool.not_false, cond_true, cond_false]
          · rw [Bool.not_true, cond_false, cond_true]
        · rw [dT (by omega), ixm (by omega) (by omega), aT (by omega), Int.toNat_natCast]
          by_cases c3 : (l.getD (i - 1) (0, 0, [])).1 < (l.getD i (0, 0, [])).1
          · rw [dF (by omega), decide_eq_true (p := (i = 0 ∨ _)) (.inr c3), Bool.true_and]
            cases showsB known (l.getD i (0, 0, []))
            · rw [Bool.not_false, cond_true, cond_false]
            · rw [Bool.not_true, cond_false, cond_true]
          · rw [dT (by omega), decide_eq_false (p := (i = 0 ∨ _)) (by omega), Bool.false_and, cond_false]
      · omega

theorem first_spec {l : List (Int × Int × List (Int × Int))} (hl : l.length < 281474976710656) {k : Nat} (hk : 101 + l.length ≤ k) {R : Type} (ret : Int → Option R) : prime_First.f k l ret = ret (firstN l : Nat) := by
  obtain ⟨k, rfl⟩ : ∃ m, k = m + 1 := ⟨k - 1, by omega⟩
  simp only [prime_First.f]
  have := first_l0 (k := k) (by omega) (fun t2 => ret t2) (fun l2 => ret (l2.length : Int)) hl rfl l.length k 0 (mset [] 2 true) (by omega) (by omega) (by omega)
  rw [show ((0 : Nat) : Int) = 0 from rfl] at this
  rw [this, firstN, List.drop_zero]
  cases l with
  | nil => rw [firstFrom, firstFrom]
  | cons x r => rw [firstFrom, firstFrom, decide_eq_true (p := (0 = 0 ∨ _)) (.inl rfl), decide_eq_true (p := (0 = 0 ∨ _)) (.inl rfl)]
theorem check_spec {l : List (Int × Int × List (Int × Int))} (hl : l.length < 281474976710656) {k : Nat} (hk : 102 + l.length ≤ k) {R : Type} (ret : Bool → Option R) : prime_Check.f k l ret = ret (firstN l == l.length) := by
  obtain ⟨k, rfl⟩ : ∃ m, k = m + 1 := ⟨k - 1, by omega⟩
  simp only [prime_Check.f]
  rw [first_spec hl (by omega)]
  congr 1
  by_cases h : firstN l = l.length
  · rw [h]; simp
  · rw [beq_eq_false_iff_ne.2 h, beq_eq_false_iff_ne.2 (by omega)]

theorem index_l1 (p : Int) {k : Nat} (hk : 1 ≤ k) {l : List (Int × Int × List (Int × Int))} (hl : l.length < 281474976710656) (d : Nat) : ∀ (m i : Nat), i + d = l.length → d < m →
    ∃ j : Int, 0 ≤ j ∧ ∀ {R : Type} (x0 : Int → Option R) (x1 : Unit → Option R), slices_IndexFunc_45.L0 k x0 x1 m l p (l.length : Int) i = bif (l.drop i).any (fun x => x.1 == p) then x0 j else x1 () := by
  induction d with
  | zero =>
    intro m i hi hm
    obtain ⟨m, rfl⟩ : ∃ j, m = j + 1 := ⟨m - 1, by omega⟩
    refine ⟨0, by omega, fun x0 x1 => ?_⟩
    simp only [slices_IndexFunc_45.L0, slices_IndexFunc_45.B0]
    rw [dF (by omega), List.drop_of_length_le (by omega), List.any_nil]
    rfl
  | succ d ih =>
    intro m i hi hm
    obtain ⟨m, rfl⟩ : ∃ j, m = j + 1 := ⟨m - 1, by omega⟩
    obtain ⟨k, rfl⟩ : ∃ m, k = m + 1 := ⟨k - 1, by omega⟩
    obtain ⟨j, hj, hh⟩ := ih m (i + 1) (by omega) (by omega)
    simp only [slices_IndexFunc_45.L0, slices_IndexFunc_45.B0, prime_Shows_1.f]
    rw [Int.toNat_natCast, drop_at (i := i) (by omega) (0, 0, []), List.any_cons]
    cases hp : ((l.getD i (0, 0, [])).1 == p) with
    | true =>
      refine ⟨i, by omega, fun x0 x1 => ?_⟩
      rw [dT (by omega), aT (by omega), cond_true, Bool.true_or]; rfl
    | false =>
      refine ⟨j, hj, fun x0 x1 => ?_⟩
      rw [dT (by omega), aT (by omega), cond_false, Bool.false_or, ix (by omega), hh]

theorem shows2_spec {l : List (Int × Int × List (Int × Int))} (p : Int) (hl : l.length < 281474976710656) {k : Nat} (hk : 105 + l.length ≤ k) {R : Type} (ret : Bool → Option R) :
    prime_Shows.f k l p ret = ret ((firstN l == l.length) && ((p == 2) || l.any (fun x => x.1 == p))) := by
  obtain ⟨k, rfl⟩ : ∃ m, k = m + 3 := ⟨k - 3, by omega⟩
  obtain ⟨j, hj, hh⟩ := index_l1 p (k := k) (by omega) hl l.length k 0 (by omega) (by omega)
  simp only [prime_Shows.f, slices_ContainsFunc_29.f, slices_IndexFunc_45.f]
  rw [show ((0 : Nat) : Int) = 0 from rfl, List.drop_zero] at hh
  rw [hh, check_spec hl (by omega), check_spec hl (by omega)]
  cases hA : l.any (fun x => x.1 == p) with
  | false =>
    rw [cond_false, decide_eq_false (by omega), Bool.or_false]
    cases firstN l == l.length
    · rw [cond_false, Bool.false_and]
    · rw [cond_true, Bool.true_and]
      cases p == 2
      · rw [cond_false]
      · rw [cond_true]
  | true =>
    rw [cond_true, decide_eq_true (by omega), Bool.or_true]
    cases firstN l == l.length
    · rw [cond_false, Bool.false_and]
    · rw [cond_true, Bool.true_and]
      cases p == 2
      · rw [cond_false]
      · rw [cond_true]
end Go.Proofs.Ytanpdkllnmeenaa.M
namespace Go.Proofs.Ytanpdkllnmeenaa.M
set_option linter.unusedVariables false
set_option maxRecDepth 100000
open Go Go.RowKit Go.Proofs Go.Proofs.Ytanpdkllnmeenaa.Am

theorem known_l0 (p : Int) {k : Nat} {R : Type} (x0 : Bool → Option R) (x1 : Int → Option R) {l : List (Int × Int × List (Int × Int))} (hl : l.length < 281474976710656) (d : Nat) : ∀ (m i : Nat), i + d = l.length → d < m →
    affidavitref02_known.L0 k x0 x1 m l p i = bif (l.drop i).any (fun x => x.1 == p) then x0 true else x1 p := by
  induction d with
  | zero =>
    intro m i hi hm
    obtain ⟨m, rfl⟩ : ∃ j, m = j + 1 := ⟨m - 1, by omega⟩
    simp only [affidavitref02_known.L0, affidavitref02_known.B0]
    rw [dF (by omega), List.drop_of_length_le (by omega), List.any_nil, cond_false]
  | succ d ih =>
    intro m i hi hm
    obtain ⟨m, rfl⟩ : ∃ j, m = j + 1 := ⟨m - 1, by omega⟩
    simp only [affidavitref02_known.L0, affidavitref02_known.B0]
    rw [Int.toNat_natCast, drop_at (i := i) (by omega) (0, 0, []), List.any_cons, dT (by omega), aT (by omega)]
    cases hp : ((l.getD i (0, 0, [])).1 == p) with
    | true => rw [cond_true, Bool.true_or, cond_true]
    | false => rw [cond_false, Bool.false_or, ix (by omega), ih m (i + 1) (by omega) (by omega)]

theorem known_spec (p : Int) {l : List (Int × Int × List (Int × Int))} (hl : l.length < 281474976710656) {k : Nat} (hk : 2 + l.length ≤ k) {R : Type} (ret : Bool → Option R) :
    affidavitref02_known.f k l p ret = ret (l.any (fun x => x.1 == p) || (p == 2)) := by
  obtain ⟨k, rfl⟩ : ∃ m, k = m + 1 := ⟨k - 1, by omega⟩
  simp only [affidavitref02_known.f]
  have := known_l0 p (k := k) (fun t4 => ret t4) (fun p2 => ret (p2 == 2)) hl l.length k 0 (by omega) (by omega)
  rw [show ((0 : Nat) : Int) = 0 from rfl, List.drop_zero] at this
  rw [this]
  cases l.any (fun x => x.1 == p)
  · rw [cond_false, Bool.false_or]
  · rw [cond_true, Bool.true_or]

theorem ref_l2 {k : Nat} {R : Type} (x0 : Bool → Option R) (x1 : List (Int × Int × List (Int × Int)) → Int → Int → Int → Int → Int → List (Int × Int) → Option R) (l : List (Int × Int × List (Int × Int))) (i k_ x3 x4 : Int) (x5 : List (Int × Int)) {q T : Int} (hq : 2 ≤ q) (hT : T < 9223372036854775808) (j : Nat) : ∀ (m : Nat) (t n : Int) (d : Nat), j + 2 ≤ m → 0 ≤ t → t + d = T → 1 ≤ n → n < 2 ^ j → n < 18446744073709551616 →
    affidavitref02_Proof.L2 k x0 x1 m l i n k_ t x3 x4 x5 q T = (dv q d n).elim (x0 false) (fun v => x1 l i v k_ x3 x4 x5) := by
  induction j with
  | zero => intro m t n d hm hi hd h1 h2 _; simp at h2; omega
  | succ j ih =>
    intro m t n d hm hi hd h1 h2 h3
    obtain ⟨m, rfl⟩ : ∃ j, m = j + 1 := ⟨m - 1, by omega⟩
    simp only [affidavitref02_Proof.L2, affidavitref02_Proof.B2]
    cases d with
    | zero => rw [dF (by omega)]; rfl
    | succ d =>
      rw [dT (by omega), nT (by omega), Int.tmod_eq_emod_of_nonneg (by omega)]
      simp only [dv]
      by_cases hd' : n % q = 0
      · obtain ⟨a1, a2, _, a3⟩ := div_half hq h1 h2 hd'
        rw [nF hd', nT (by omega), if_pos hd', Int.tdiv_eq_ediv_of_nonneg (by omega), wu_in (by omega) (by omega), w64_in (by omega) (by omega)]
        exact ih m _ _ d (by omega) (by omega) (by omega) a1 (by simpa using a2) (by omega)
      · rw [nT hd', if_neg hd']; rfl

theorem ref_l0 {k : Nat} (hk : 66 ≤ k) {R : Type} (x0 : Bool → Option R) (x1 : List (Int × Int × List (Int × Int)) → Int → Int → Int → Int → List (Int × Int) → Option R) (P : List (Int × Int × List (Int × Int))) (J N a : Int) {l : List (Int × Int)} (hl : l.length < 281474976710656) (ht : ∀ y ∈ l, y.2 < 9223372036854775808) (d : Nat) : ∀ (m i : Nat) (n : Int), i + d = l.length → d < m → 1 ≤ n → n < 9223372036854775808 →
    affidavitref02_Proof.L0 k x0 x1 m P J n i N a l = bif inc (l.drop (i - 1)) then (pl (l.drop i) n).elim (x0 false) (fun v => x1 P J v N a l) else x0 false := by
  induction d with
  | zero =>
    intro m i n hi hm h1 h2
    obtain ⟨m, rfl⟩ : ∃ j, m = j + 1 := ⟨m - 1, by omega⟩
    simp only [affidavitref02_Proof.L0, affidavitref02_Proof.B0]
    have e : inc (l.drop (i - 1)) = true := by
      cases l with
      | nil => rw [List.drop_nil]; rfl
      | cons b r =>
        rw [drop_at (i := i - 1) (by simp at hi ⊢; omega) (0, 0), List.drop_of_length_le (by simp at hi ⊢; omega)]; rfl
    rw [dF (by omega), e, cond_true, List.drop_of_length_le (by omega)]
    rfl
  | succ d ih =>
    intro m i n hi hm h1 h2
    obtain ⟨m, rfl⟩ : ∃ j, m = j + 1 := ⟨m - 1, by omega⟩
    have hmem := ht _ (getD_mem (l := l) (i := i) (by omega) (0, 0))
    have ih' := fun v h => ih m (i + 1) v (by omega) (by omega) h
    have hdr := drop_at (l := l) (i := i) (by omega) (0, 0)
    rw [Nat.add_sub_cancel] at ih'
    simp only [affidavitref02_Proof.L0, affidavitref02_Proof.B0]
    rw [dT (by omega), aT (by omega), Int.toNat_natCast]
    have hpl : pl (l.drop i) n = bif decide (2 ≤ (l.getD i (0, 0)).1 ∧ 1 ≤ (l.getD i (0, 0)).2) then (dv (l.getD i (0, 0)).1 (l.getD i (0, 0)).2.toNat n).bind (pl (l.drop (i + 1))) else none := by rw [hdr, pl]
    by_cases c1 : (l.getD i (0, 0)).1 < 2
    · rw [dT c1, hpl, dF (p := 2 ≤ _ ∧ 1 ≤ _) (by omega)]
      cases inc (l.drop (i - 1))
      · rw [cond_false]
      · rw [cond_true]; rfl
    · by_cases c2 : (l.getD i (0, 0)).2 < 1
      · rw [dF c1, dT c2, hpl, dF (p := 2 ≤ _ ∧ 1 ≤ _) (by omega)]
        cases inc (l.drop (i - 1))
        · rw [cond_false]
        · rw [cond_true]; rfl
      · rw [dF c1, dF c2]
        have hgo : affidavitref02_Proof.L2 k (fun t4 => x0 t4) (fun l3 i3 n2 k_2 x6 x7 x8 => affidavitref02_Proof.L0 k x0 x1 m l3 i3 n2 (IntKind.wrap .i64 (k_2 + 1)) x6 x7 x8) k P J n i 0 N a l (l.getD i (0, 0)).1 (l.getD i (0, 0)).2 = bif inc (l.drop i) then (pl (l.drop i) n).elim (x0 false) (fun v => x1 P J v N a l) else x0 false := by
          rw [ref_l2 _ _ P J i N a l (by omega) hmem 63 k 0 n (l.getD i (0, 0)).2.toNat (by omega) (by omega) (by omega) h1 (by simpa using h2) (by omega), hpl, dT (p := 2 ≤ _ ∧ 1 ≤ _) (by omega)]
          cases hdv : dv (l.getD i (0, 0)).1 (l.getD i (0, 0)).2.toNat n with
          | none =>
            cases inc (l.drop i)
            · rw [cond_false]; rfl
            · rw [cond_true]; rfl
          | some v =>
            have := dv_pos (by omega) _ _ _ h1 hdv
            rw [Option.bind_some]
            show affidavitref02_Proof.L0 k x0 x1 m P J v (IntKind.wrap .i64 ((i : Int) + 1)) N a l = _
            rw [ix (by omega), ih' v (by omega) (by omega)]
        by_cases c3 : i = 0
        · subst c3
          rw [dF (by omega)]
          exact hgo
        · rw [dT (by omega), ixm (by omega) (by omega), aT (by omega), Int.toNat_natCast]
          have hinc : inc (l.drop (i - 1)) = (decide ((l.getD (i - 1) (0, 0)).1 < (l.getD i (0, 0)).1) && inc (l.drop i)) := by
            rw [drop_at (i := i - 1) (by omega) (0, 0), show (i - 1) + 1 = i by omega, hdr, inc]
          rw [hinc]
          by_cases c4 : (l.getD i (0, 0)).1 ≤ (l.getD (i - 1) (0, 0)).1
          · rw [dT c4, decide_eq_false (p := _ < _) (by omega), Bool.false_and, cond_false]
          · rw [dF c4, decide_eq_true (p := _ < _) (by omega), Bool.true_and]
            exact hgo

/-- What a proof shows, by what is known. -/
def showsK (kn : Int → Bool) (x : Int × Int × List (Int × Int)) : Bool := formB x && ((pw x.1 x.2.1 (x.1 - 1) == 1) && x.2.2.all (fun y => kn y.1 && !(pw x.1 x.2.1 ((x.1 - 1) / y.1) == 1)))
theorem showsB_K (known : List (Unit × Int × Bool)) (x : Int × Int × List (Int × Int)) : showsB known x = showsK (mget false known) x := by
  unfold showsB showsK
  cases h : formB x with
  | false => rw [Bool.false_and, Bool.false_and]
  | true =>
    obtain ⟨⟨a1, a2, a3, a4, a5, a6⟩, _, hp⟩ := form_facts h
    have e : ∀ n, oneB x n = (pw x.1 x.2.1 n == 1) := by
      intro n; unfold oneB; rw [decide_eq_true ⟨a4, by omega, a2⟩, Bool.true_and]
    rw [Bool.true_and, Bool.true_and, e]
    congr 2
    funext y
    unfold partB
    rw [e]

theorem ref_l4 {k : Nat} (hk : 150 ≤ k) {R : Type} (x0 : Bool → Option R) (x1 : Unit → Option R) {P : List (Int × Int × List (Int × Int))} (hP : P.length + 2 ≤ k) (hP' : P.length < 281474976710656) {J : Nat} (hJ : J ≤ P.length) {N a : Int} (hN : 2 ≤ N) (hN' : N < 9223372036854775808) (ha : 0 ≤ a) (ha' : a < N) {l : List (Int × Int)} (hl : l.length < 281474976710656) (hy : ∀ y ∈ l, 2 ≤ y.1) (d : Nat) : ∀ (m i : Nat), i + d = l.length → d < m →
    affidavitref02_Proof.L4 k x0 x1 m P J i N a l = bif (l.drop i).all (fun y => ((P.take J).any (fun x => x.1 == y.1) || (y.1 == 2)) && !(pw N a ((N - 1) / y.1) == 1)) then x1 () else x0 false := by
  induction d with
  | zero =>
    intro m i hi hm
    obtain ⟨m, rfl⟩ : ∃ j, m = j + 1 := ⟨m - 1, by omega⟩
    simp only [affidavitref02_Proof.L4, affidavitref02_Proof.B4]
    rw [dF (by omega), List.drop_of_length_le (by omega), List.all_nil, cond_true]
  | succ d ih =>
    intro m i hi hm
    obtain ⟨m, rfl⟩ : ∃ j, m = j + 1 := ⟨m - 1, by omega⟩
    have hmem := hy _ (getD_mem (l := l) (i := i) (by omega) (0, 0))
    simp only [affidavitref02_Proof.L4, affidavitref02_Proof.B4]
    have h1 : 0 ≤ (N - 1) / (l.getD i (0, 0)).1 := Int.ediv_nonneg (by omega) (by omega)
    have h2 : (N - 1) / (l.getD i (0, 0)).1 ≤ N - 1 := Int.ediv_le_self _ (by omega)
    rw [dT (by omega), aT (by omega), aT (by omega), Int.toNat_natCast, Int.toNat_natCast, known_spec _ (by simp; omega) (by simp; omega), nT (by omega), wu_in (n := N - 1) (by omega) (by omega), Int.tdiv_eq_ediv_of_nonneg (by omega), wu_in h1 (by omega), rPow_spec hN hN' ha ha' 64 k _ (by omega) h1 (by omega) (by omega), drop_at (i := i) (by omega) (0, 0), List.all_cons, ix (by omega), ih m (i + 1) (by omega) (by omega)]
    cases ((P.take J).any (fun x => x.1 == (l.getD i (0, 0)).1) || ((l.getD i (0, 0)).1 == 2)) with
    | false => rw [Bool.not_false, cond_true, Bool.false_and, Bool.false_and, cond_false]
    | true =>
      rw [Bool.not_true, cond_false, Bool.true_and]
      cases (pw N a ((N - 1) / (l.getD i (0, 0)).1) == 1) with
      | false => rw [Bool.not_false, cond_false, Bool.true_and]
      | true => rw [Bool.not_true, cond_true, Bool.false_and, cond_false]

/-- The reference's proof i of a list. -/
def proofR (l : List (Int × Int × List (Int × Int))) (i : Nat) : Bool :=
  decide (i < 200) && (decide (i = 0 ∨ (l.getD (i - 1) (0, 0, [])).1 < (l.getD i (0, 0, [])).1) && showsK (fun y => (l.take i).any (fun x => x.1 == y) || (y == 2)) (l.getD i (0, 0, [])))

theorem proof_tail {k : Nat} (hk : 150 ≤ k) {R : Type} (ret : Bool → Option R) {l : List (Int × Int × List (Int × Int))} (hl : l.length + 2 ≤ k) (hl' : l.length < 281474976710656) {i : Nat} (hi : i < l.length) {x : Int × Int × List (Int × Int)} (hx : 0 ≤ x.2.1) (ht : ∀ y ∈ x.2.2, y.2 < 9223372036854775808) :
    (bif (decide (x.1 ≤ 2)) then
          (ret false)
        else
          (bif (decide (x.1 > 9223372036854775807)) then
            (ret false)
          else
            (bif ((x.2.1) == 0) then
              (ret false)
            else
              (bif (decide ((x.2.1) ≥ x.1)) then
                (ret false)
              else
                (bif (((x.2.2).length : Int) == 0) then
                  (ret false)
                else
                  (bif (decide (((x.2.2).length : Int) > 20)) then
                    (ret false)
                  else
                    (affidavitref02_Proof.L0 k (fun t44 =>
                      ret t44) (fun l7 i7 n7 x18 x19 x20 =>
                      bif (n7 != 1) then
                        (ret false)
                      else
                        (affidavitref01_Pow.f k x18 x19 (IntKind.wrap .u64 (x18 - 1)) (fun n8 =>
                          bif (n8 != 1) then
                            (ret false)
                          else
                            (affidavitref02_Proof.L4 k (fun t45 =>
                              ret t45) (fun _ =>
                              ret true) k l7 i7 0 x18 x19 x20)))) k l i (IntKind.wrap .u64 (x.1 - 1)) 0 (x.1) (x.2.1) (x.2.2)))))))) = ret (showsK (fun y => (l.take i).any (fun x => x.1 == y) || (y == 2)) x) := by
  obtain ⟨N, a, L⟩ := x
  dsimp only at *
  by_cases c : 2 < N ∧ N < 9223372036854775808 ∧ 1 ≤ a ∧ a < N ∧ 1 ≤ L.length ∧ L.length ≤ 20
  · have e : formB (N, a, L) = (inc L && (pl L (N - 1) == some 1)) := by
      unfold formB; rw [decide_eq_true c, Bool.true_and]
    unfold showsK
    rw [e, dF (by omega), dF (by omega), eF (by omega), dF (by omega), eF (by omega), dF (by omega)]
    have := ref_l0 (k := k) (by omega) (fun t44 => ret t44) (fun l7 i7 n7 x18 x19 x20 => bif (n7 != 1) then
                        (ret false)
                      else
                        (affidavitref01_Pow.f k x18 x19 (IntKind.wrap .u64 (x18 - 1)) (fun n8 =>
                          bif (n8 != 1) then
                            (ret false)
                          else
                            (affidavitref02_Proof.L4 k (fun t45 =>
                              ret t45) (fun _ =>
                              ret true) k l7 i7 0 x18 x19 x20)))) l i N a (l := L) (by omega) ht L.length k 0 (N - 1) (by omega) (by omega) (by omega) (by omega)
    rw [show ((0 : Nat) : Int) = 0 from rfl] at this
    rw [wu_in (n := N - 1) (by omega) (by omega), this, Nat.zero_sub, List.drop_zero]
    cases inc L with
    | false => rw [cond_false, Bool.false_and, Bool.false_and]
    | true =>
      rw [cond_true, Bool.true_and]
      cases hp : pl L (N - 1) with
      | none => rfl
      | some v =>
        rw [Option.elim_some]
        by_cases hv : v = 1
        · subst hv
          have hl4 := ref_l4 hk (fun t45 => ret t45) (fun _ => ret true) hl hl' (J := i) (by omega) (N := N) (a := a) (by omega) (by omega) (by omega) (by omega) (l := L) (by omega) (fun y hy => (pl_keys _ _ _ hp y hy).1) L.length k 0 (by omega) (by omega)
          rw [show ((0 : Nat) : Int) = 0 from rfl, List.drop_zero] at hl4
          rw [nF rfl, wu_in (n := N - 1) (by omega) (by omega), rPow_spec (p := N) (a := a) (by omega) (by omega) (by omega) (by omega) 64 k _ (by omega) (by omega) (by omega) (by omega), hl4]
          have hb : ((some 1 : Option Int) == some 1) = true := by decide
          rw [hb, Bool.true_and]
          by_cases hq : pw N a (N - 1) = 1
          · rw [nF hq, beq_iff_eq.2 hq, Bool.true_and]
            cases L.all (fun y => ((l.take i).any (fun x => x.1 == y.1) || (y.1 == 2)) && !(pw N a ((N - 1) / y.1) == 1))
            · rw [cond_false]
            · rw [cond_true]
          · rw [nT hq, beq_eq_false_iff_ne.2 hq, Bool.false_and]
        · have hb : ((some v : Option Int) == some 1) = false := by simp [hv]
          rw [nT hv, hb, Bool.false_and]
  · have e : formB (N, a, L) = false := by
      unfold formB; rw [decide_eq_false c, Bool.false_and]
    unfold showsK
    rw [e, Bool.false_and]
    have hx0 : 0 ≤ a := hx
    by_cases c1 : N ≤ 2
    · rw [dT c1]
    · by_cases c2 : N > 9223372036854775807
      · rw [dF c1, dT c2]
      · by_cases c3 : a = 0
        · rw [dF c1, dF c2, eT c3]
        · by_cases c4 : a ≥ N
          · rw [dF c1, dF c2, eF c3, dT c4]
          · by_cases c5 : (L.length : Int) = 0
            · rw [dF c1, dF c2, eF c3, dF c4, eT c5]
            · rw [dF c1, dF c2, eF c3, dF c4, eF c5, dT (by omega)]

theorem refProof_spec {l : List (Int × Int × List (Int × Int))} (hl' : l.length < 281474976710656) (hv : ∀ x ∈ l, 0 ≤ x.2.1 ∧ ∀ y ∈ x.2.2, y.2 < 9223372036854775808) {i : Nat} (hi : i < l.length) {k : Nat} (hk : 151 + l.length ≤ k) {R : Type} (ret : Bool → Option R) :
    affidavitref02_Proof.f k l i ret = ret (proofR l i) := by
  obtain ⟨k, rfl⟩ : ∃ m, k = m + 1 := ⟨k - 1, by omega⟩
  have hm := hv _ (getD_mem (l := l) hi (0, 0, []))
  have ht := proof_tail (k := k) (by omega) ret (l := l) (by omega) hl' hi hm.1 hm.2
  simp only [affidavitref02_Proof.f]
  unfold proofR
  rw [aT (by omega), Int.toNat_natCast]
  by_cases c : i < 200
  · rw [dF (by omega), decide_eq_true c, Bool.true_and]
    by_cases c1 : i = 0
    · rw [dF (by omega), decide_eq_true (p := i = 0 ∨ _) (.inl c1), Bool.true_and]
      exact ht
    · rw [dT (by omega), ixm (by omega) (by omega), aT (by omega), Int.toNat_natCast]
      by_cases c3 : (l.getD (i - 1) (0, 0, [])).1 < (l.getD i (0, 0, [])).1
      · rw [dF (by omega), decide_eq_true (p := i = 0 ∨ _) (.inr c3), Bool.true_and]
        exact ht
      · rw [dT (by omega), decide_eq_false (p := i = 0 ∨ _) (by omega), Bool.false_and]
  · rw [dT (by omega), decide_eq_false c, Bool.false_and]
end Go.Proofs.Ytanpdkllnmeenaa.M
namespace Go.Proofs.Ytanpdkllnmeenaa.Am
theorem mget_mset {V : Type} (d : V) (xs : List (Unit × Int × V)) (n : Int) (y : V) (m : Int) : mget d (mset xs n y) m = if n = m then y else mget d xs m := by
  induction xs with
  | nil => simp [mset, mget]
  | cons e r ih =>
    rw [mset]
    by_cases h : e.2.1 = n
    · rw [if_pos h, mget, mget]
      by_cases h2 : n = m
      · rw [if_pos h2, if_pos h2]
      · rw [if_neg h2, if_neg h2, if_neg (by omega)]
    · rw [if_neg h, mget, mget, ih]
      by_cases h2 : e.2.1 = m
      · rw [if_pos h2, if_pos h2, if_neg (by omega)]
      · rw [if_neg h2, if_neg h2]
end Go.Proofs.Ytanpdkllnmeenaa.Am
namespace Go.Proofs.Ytanpdkllnmeenaa.M
set_option linter.unusedVariables false
set_option maxRecDepth 100000
open Go Go.RowKit Go.Proofs Go.Proofs.Ytanpdkllnmeenaa.Am

theorem take_any {l : List (Int × Int × List (Int × Int))} {i : Nat} (h : i < l.length) (f : Int × Int × List (Int × Int) → Bool) : (l.take (i + 1)).any f = ((l.take i).any f || f (l.getD i (0, 0, []))) := by
  rw [List.take_succ_eq_append_getElem h, List.any_append]
  congr 1
  rw [List.getD_eq_getElem?_getD, List.getElem?_eq_getElem h]
  simp

theorem rfirst_l0 {k : Nat} {R : Type} (x0 : Int → Option R) (x1 : List (Int × Int × List (Int × Int)) → Option R) {l : List (Int × Int × List (Int × Int))} (hk : 151 + l.length ≤ k) (hl : l.length < 281474976710656) (hv : ∀ x ∈ l, 0 ≤ x.2.1 ∧ ∀ y ∈ x.2.2, y.2 < 9223372036854775808) (hx : x1 l = x0 (l.length : Int)) (d : Nat) : ∀ (m i : Nat) (known : List (Unit × Int × Bool)), i + d = l.length → d < m → (∀ y, mget false known y = ((l.take i).any (fun x => x.1 == y) || (y == 2))) →
    affidavitref02_First.L0 k x0 x1 m l i = x0 (firstFrom i (l.getD (i - 1) (0, 0, [])).1 (l.drop i) known : Nat) := by
  induction d with
  | zero =>
    intro m i known hi hm hkn
    obtain ⟨m, rfl⟩ : ∃ j, m = j + 1 := ⟨m - 1, by omega⟩
    simp only [affidavitref02_First.L0, affidavitref02_First.B0]
    rw [dF (by omega), List.drop_of_length_le (by omega), hx]
    congr 1
    show _ = ((i : Nat) : Int)
    omega
  | succ d ih =>
    intro m i known hi hm hkn
    obtain ⟨m, rfl⟩ : ∃ j, m = j + 1 := ⟨m - 1, by omega⟩
    have ih' := ih m (i + 1) (mset known (l.getD i (0, 0, [])).1 true) (by omega) (by omega) (fun y => by
      rw [mget_mset, hkn, take_any (by omega)]
      by_cases h : (l.getD i (0, 0, [])).1 = y
      · rw [if_pos h, beq_iff_eq.2 h, Bool.or_true, Bool.true_or]
      · rw [if_neg h, beq_eq_false_iff_ne.2 h, Bool.or_false])
    rw [Nat.add_sub_cancel] at ih'
    simp only [affidavitref02_First.L0, affidavitref02_First.B0]
    rw [dT (by omega), refProof_spec hl hv (by omega) hk, ix (by omega), ih', drop_at (i := i) (by omega) (0, 0, []), firstFrom, showsB_K]
    have e : mget false known = fun y => ((l.take i).any (fun x => x.1 == y) || (y == 2)) := funext hkn
    rw [e]
    unfold proofR
    cases decide (i < 200) && (decide (i = 0 ∨ (l.getD (i - 1) (0, 0, [])).1 < (l.getD i (0, 0, [])).1) && showsK (fun y => (l.take i).any (fun x => x.1 == y) || (y == 2)) (l.getD i (0, 0, [])))
    · rw [Bool.not_false, cond_true, cond_false]
    · rw [Bool.not_true, cond_false, cond_true]

theorem rfirst_spec {l : List (Int × Int × List (Int × Int))} (hl : l.length < 281474976710656) (hv : ∀ x ∈ l, 0 ≤ x.2.1 ∧ ∀ y ∈ x.2.2, y.2 < 9223372036854775808) {k : Nat} (hk : 152 + l.length ≤ k) {R : Type} (ret : Int → Option R) : affidavitref02_First.f k l ret = ret (firstN l : Nat) := by
  obtain ⟨k, rfl⟩ : ∃ m, k = m + 1 := ⟨k - 1, by omega⟩
  simp only [affidavitref02_First.f]
  have := rfirst_l0 (k := k) (fun t2 => ret t2) (fun l2 => ret (l2.length : Int)) (l := l) (by omega) hl hv rfl l.length k 0 (mset [] 2 true) (by omega) (by omega) (fun y => by
    rw [mget_mset, List.take_zero, List.any_nil, Bool.false_or]
    by_cases h : 2 = y
    · rw [if_pos h, beq_iff_eq.2 h.symm]
    · rw [if_neg h, beq_eq_false_iff_ne.2 (by omega)]; rfl)
  rw [show ((0 : Nat) : Int) = 0 from rfl] at this
  rw [this, firstN, List.drop_zero]
  cases l with
  | nil => rw [firstFrom, firstFrom]
  | cons x r => rw [firstFrom, firstFrom, decide_eq_true (p := (0 = 0 ∨ _)) (.inl rfl), decide_eq_true (p := (0 = 0 ∨ _)) (.inl rfl)]

theorem rshows_spec {l : List (Int × Int × List (Int × Int))} (p : Int) (hl : l.length < 281474976710656) (hv : ∀ x ∈ l, 0 ≤ x.2.1 ∧ ∀ y ∈ x.2.2, y.2 < 9223372036854775808) {k : Nat} (hk : 153 + l.length ≤ k) {R : Type} (ret : Bool → Option R) :
    affidavitref02_Shows.f k l p ret = ret ((firstN l == l.length) && ((p == 2) || l.any (fun x => x.1 == p))) := by
  obtain ⟨k, rfl⟩ : ∃ m, k = m + 1 := ⟨k - 1, by omega⟩
  simp only [affidavitref02_Shows.f]
  rw [rfirst_spec hl hv (by omega), known_spec _ hl (by omega)]
  by_cases h : firstN l = l.length
  · rw [eT (by omega), beq_iff_eq.2 h, Bool.true_and, Bool.or_comm]
  · rw [eF (by omega), beq_eq_false_iff_ne.2 h, Bool.false_and]

/-- Short lists. -/
def shortB (l : List (Int × Int × List (Int × Int))) : Bool := decide (l.length ≤ 40) && l.all (fun x => decide (x.2.2.length ≤ 30))
theorem short_l0 {k : Nat} {R : Type} (x0 : Bool → Option R) (x1 : Unit → Option R) {l : List (Int × Int × List (Int × Int))} (hl : l.length < 281474976710656) (d : Nat) : ∀ (m i : Nat), i + d = l.length → d < m →
    affidavitref02_Short.L0 k x0 x1 m l i = bif (l.drop i).all (fun x => decide (x.2.2.length ≤ 30)) then x1 () else x0 false := by
  induction d with
  | zero =>
    intro m i hi hm
    obtain ⟨m, rfl⟩ : ∃ j, m = j + 1 := ⟨m - 1, by omega⟩
    simp only [affidavitref02_Short.L0, affidavitref02_Short.B0]
    rw [dF (by omega), List.drop_of_length_le (by omega), List.all_nil, cond_true]
  | succ d ih =>
    intro m i hi hm
    obtain ⟨m, rfl⟩ : ∃ j, m = j + 1 := ⟨m - 1, by omega⟩
    simp only [affidavitref02_Short.L0, affidavitref02_Short.B0]
    rw [dT (by omega), aT (by omega), Int.toNat_natCast, drop_at (i := i) (by omega) (0, 0, []), List.all_cons, ix (by omega), ih m (i + 1) (by omega) (by omega)]
    by_cases h : (l.getD i (0, 0, [])).2.2.length ≤ 30
    · rw [dF (by omega), decide_eq_true h, Bool.true_and]
    · rw [dT (by omega), decide_eq_false h, Bool.false_and, cond_false]
theorem short_spec {l : List (Int × Int × List (Int × Int))} (hl : l.length < 281474976710656) {k : Nat} (hk : 42 ≤ k) {R : Type} (ret : Bool → Option R) : affidavitref02_Short.f k l ret = ret (shortB l) := by
  obtain ⟨k, rfl⟩ : ∃ m, k = m + 1 := ⟨k - 1, by omega⟩
  simp only [affidavitref02_Short.f]
  unfold shortB
  by_cases h : l.length ≤ 40
  · rw [dF (by omega), decide_eq_true h, Bool.true_and]
    have := short_l0 (k := k) (fun t2 => ret t2) (fun _ => ret true) hl l.length k 0 (by omega) (by omega)
    rw [show ((0 : Nat) : Int) = 0 from rfl] at this
    rw [this, List.drop_zero]
    cases l.all (fun x => decide (x.2.2.length ≤ 30))
    · rw [cond_false]
    · rw [cond_true]
  · rw [dT (by omega), decide_eq_false h, Bool.false_and]
end Go.Proofs.Ytanpdkllnmeenaa.M
namespace Go.Proofs.Ytanpdkllnmeenaa.Am
open Go
theorem pick_none {V R : Type} {es : List (Unit × Int × V)} {seen : List Nat} {over : Option R} {f : Nat → (Unit × Int × V) → Option R} (h : cands es.length seen = []) : pickAll es seen over f = over := by
  unfold pickAll; rw [h]; rfl
theorem pick_each {V R : Type} {es : List (Unit × Int × V)} {seen : List Nat} {over : Option R} {f : Nat → (Unit × Int × V) → Option R} {b : Option R} (hne : cands es.length seen ≠ []) (h : ∀ i ∈ cands es.length seen, ∀ e, f i e = b) : pickAll es seen over f = b := by
  unfold pickAll
  have hlt : ∀ i ∈ cands es.length seen, i < es.length := fun i hi => by
    unfold cands at hi
    rw [List.mem_filter, List.mem_range] at hi
    exact hi.1
  have hmem : ∀ p ∈ (cands es.length seen).filterMap (fun i => (es[i]?).map fun x => (i, x)), f p.1 p.2 = b := fun p hp => by
    rw [List.mem_filterMap] at hp
    obtain ⟨i, hi, he⟩ := hp
    rw [Option.map_eq_some_iff] at he
    obtain ⟨x, _, rfl⟩ := he
    exact h i hi x
  cases hc : cands es.length seen with
  | nil => exact absurd hc hne
  | cons i r =>
    have hi := hlt i (by rw [hc]; exact List.mem_cons_self ..)
    rw [hc] at hmem
    rw [List.filterMap_cons, List.getElem?_eq_getElem hi, Option.map_some] at hmem ⊢
    dsimp only at hmem ⊢
    rw [if_pos, hmem _ (List.mem_cons_self ..)]
    intro q hq
    rw [hmem q (List.mem_cons_of_mem _ hq), hmem _ (List.mem_cons_self ..)]
theorem cands_perm {n i : Nat} {seen : List Nat} (h : i ∈ cands n seen) : (cands n seen).Perm (i :: cands n (seen ++ [i])) := by
  have hn : (cands n seen).Nodup := by unfold cands; exact List.nodup_range.filter _
  have e : cands n (seen ++ [i]) = (cands n seen).erase i := by
    rw [hn.erase_eq_filter]
    unfold cands
    rw [List.filter_filter]
    apply List.filter_congr
    intro j _
    by_cases hj : j = i
    · subst hj; simp
    · have : (j == i) = false := beq_eq_false_iff_ne.2 hj
      simp [hj]
  rw [e]
  exact List.perm_cons_erase h
theorem cur_last {V : Type} (d : V) (es : List (Unit × Int × V)) (seen : List Nat) (i : Nat) : cur d es (seen ++ [i]) = es.getD i ((), 0, d) := by
  unfold cur
  congr 1
  simp
end Go.Proofs.Ytanpdkllnmeenaa.Am
namespace Go.Proofs.Ytanpdkllnmeenaa.M
set_option linter.unusedVariables false
set_option maxRecDepth 100000
open Go Go.RowKit Go.Proofs Go.Proofs.Ytanpdkllnmeenaa.Am
/-- The value of the key that lies at i. -/
def valAt (es : List (Unit × Int × Int × Int × List (Int × Int))) (i : Nat) : Int × Int × List (Int × Int) := (es.getD i ((), 0, (0, 0, []))).2.2
theorem l4_spec {k : Nat} {R : Type} (x0 : List (Int × Int × List (Int × Int)) → Option R) (es : List (Unit × Int × Int × Int × List (Int × Int))) (hes : es.length < 1000000) (hp : ∀ l l', l.Perm (es.map (·.2.2)) → l'.Perm (es.map (·.2.2)) → x0 l = x0 l') (d : Nat) : ∀ (m : Nat) (out : List (Int × Int × List (Int × Int))) (seen : List Nat), (cands es.length seen).length = d → d < m → out.length + d ≤ 1000000 → (out ++ (cands es.length seen).map (valAt es)).Perm (es.map (·.2.2)) →
    prime_Build.L4 k x0 m out es seen = x0 (es.map (·.2.2)) := by
  induction d with
  | zero =>
    intro m out seen hd hm ho hperm
    obtain ⟨m, rfl⟩ : ∃ j, m = j + 1 := ⟨m - 1, by omega⟩
    simp only [prime_Build.L4, prime_Build.B4]
    have hc := List.length_eq_zero_iff.1 hd
    rw [pick_none hc]
    rw [hc, List.map_nil, List.append_nil] at hperm
    exact hp _ _ hperm (List.Perm.refl _)
  | succ d ih =>
    intro m out seen hd hm ho hperm
    obtain ⟨m, rfl⟩ : ∃ j, m = j + 1 := ⟨m - 1, by omega⟩
    simp only [prime_Build.L4, prime_Build.B4]
    refine pick_each (fun h => by rw [h] at hd; cases hd) (fun i hi e => ?_)
    have hpm := cands_perm hi
    have hlen : (cands es.length (seen ++ [i])).length = d := by have := hpm.length_eq; rw [hd, List.length_cons] at this; omega
    rw [cur_last]
    have hne : (!(seen ++ [i]).isEmpty) = true := by simp
    rw [hne, cond_true, dT (by rw [List.length_append, List.length_singleton]; omega)]
    refine ih m _ _ hlen (by omega) (by rw [List.length_append, List.length_singleton]; omega) (List.Perm.trans ?_ hperm)
    rw [List.append_assoc]
    exact List.Perm.append_left _ (hpm.map (valAt es)).symm
theorem l4_all {k : Nat} {R : Type} (x0 : List (Int × Int × List (Int × Int)) → Option R) (es : List (Unit × Int × Int × Int × List (Int × Int))) (hes : es.length < 1000000) (hp : ∀ l l', l.Perm (es.map (·.2.2)) → l'.Perm (es.map (·.2.2)) → x0 l = x0 l') {m : Nat} (hm : es.length < m) : prime_Build.L4 k x0 m [] es [] = x0 (es.map (·.2.2)) := by
  have hc : cands es.length [] = List.range es.length := by unfold cands; exact List.filter_eq_self.2 fun _ _ => rfl
  refine l4_spec x0 es hes hp es.length m [] [] (by rw [hc, List.length_range]) hm (by simp; omega) ?_
  rw [hc, List.nil_append]
  have : (List.range es.length).map (valAt es) = es.map (·.2.2) := by
    apply List.ext_getElem (by simp)
    intro i h1 h2
    have hi : i < es.length := by simpa using h2
    rw [List.getElem_map, List.getElem_map, List.getElem_range, valAt, List.getD_eq_getElem?_getD, List.getElem?_eq_getElem hi]
    rfl
  rw [this]
end Go.Proofs.Ytanpdkllnmeenaa.M
namespace Go.Proofs.Ytanpdkllnmeenaa.Am
theorem perm_two {α : Type} {l : List α} {a b : α} (h : l.Perm [a, b]) : l = [a, b] ∨ l = [b, a] := by
  have hl := h.length_eq
  match l, hl with
  | [c, d], _ =>
    have hc : c ∈ [a, b] := h.subset (List.mem_cons_self ..)
    rcases List.mem_cons.1 hc with rfl | hc
    · left; rw [List.perm_singleton.1 h.cons_inv]
    · rw [List.mem_singleton.1 hc] at h ⊢
      right; rw [List.perm_singleton.1 (h.trans (List.Perm.swap b a [])).cons_inv]
end Go.Proofs.Ytanpdkllnmeenaa.Am
namespace Go.Proofs.Ytanpdkllnmeenaa.M
set_option linter.unusedVariables false
set_option maxRecDepth 100000
open Go Go.RowKit Go.Proofs Go.Proofs.Ytanpdkllnmeenaa.Am

theorem parts12 (j : Nat) {R : Type} (ret : List (Int × Int) → Int → Option R) : prime_Parts.f (j + 499) 12 ret = ret [(2, 2), (3, 1)] 0 := by kernel_rfl
theorem small65537 (j : Nat) {R : Type} (ret : Bool → Option R) : prime_Small.f (j + 499) 65537 ret = ret true := by kernel_rfl
theorem first7 (j : Nat) {R : Type} (ret : Int → Option R) : prime_First.f (j + 499) [(3, 2, [(2, 1)]), (7, 3, [(2, 1), (3, 1)])] ret = ret 2 := by kernel_rfl
theorem build7_0 (j : Nat) {R : Type} (x0 : Int → List (Int × Int × List (Int × Int)) → Option R) (x1 : List (Unit × Int × Int × Int × List (Int × Int)) → Option R) : prime_Build.L0 (j + 498) x0 x1 (j + 498) [] [7] = x1 [((), 7, 7, 3, [(2, 1), (3, 1)]), ((), 3, 3, 2, [(2, 1)])] := by kernel_rfl
theorem build9_0 (j : Nat) {R : Type} (x0 : Int → List (Int × Int × List (Int × Int)) → Option R) (x1 : List (Unit × Int × Int × Int × List (Int × Int)) → Option R) : prime_Build.L0 (j + 498) x0 x1 (j + 498) [] [9] = x0 6 [] := by kernel_rfl
theorem sort37 (j : Nat) {R : Type} (ret : List (Int × Int × List (Int × Int)) → Option R) : slices_SortFunc.f (j + 498) [(3, 2, [(2, 1)]), (7, 3, [(2, 1), (3, 1)])] ret = ret [(3, 2, [(2, 1)]), (7, 3, [(2, 1), (3, 1)])] := by kernel_rfl
theorem sort73 (j : Nat) {R : Type} (ret : List (Int × Int × List (Int × Int)) → Option R) : slices_SortFunc.f (j + 498) [(7, 3, [(2, 1), (3, 1)]), (3, 2, [(2, 1)])] ret = ret [(3, 2, [(2, 1)]), (7, 3, [(2, 1), (3, 1)])] := by kernel_rfl
abbrev m73 : List (Unit × Int × Int × Int × List (Int × Int)) := [((), 7, 7, 3, [(2, 1), (3, 1)]), ((), 3, 3, 2, [(2, 1)])]
theorem build7_r (j : Nat) {R : Type} (ret : List (Int × Int × List (Int × Int)) → Int → Option R) : prime_Build.r (j + 498 + 1) 7 ret = ret [(3, 2, [(2, 1)]), (7, 3, [(2, 1), (3, 1)])] 0 := by
  rw [prime_Build.r, dF (by omega), dF (by omega), build7_0]
  have h2 : ∀ l, l.Perm (m73.map (·.2.2)) → slices_SortFunc.f (j + 498) l (fun l2 => ret l2 0) = ret [(3, 2, [(2, 1)]), (7, 3, [(2, 1), (3, 1)])] 0 := fun l hl => by
    rcases perm_two hl with rfl | rfl
    · exact sort73 j _
    · exact sort37 j _
  rw [l4_all _ m73 (by simp) (fun l l' h1 h3 => by rw [h2 l h1, h2 l' h3]) (by simp)]
  exact h2 _ (List.Perm.refl _)
theorem build9_r (j : Nat) {R : Type} (ret : List (Int × Int × List (Int × Int)) → Int → Option R) : prime_Build.r (j + 498 + 1) 9 ret = ret [] 6 := by
  rw [prime_Build.r, dF (by omega), dF (by omega), build9_0]
theorem build7 (j : Nat) {R : Type} (ret : List (Int × Int × List (Int × Int)) → Int → Option R) : prime_Build.f (j + 499) 7 ret = ret [(3, 2, [(2, 1)]), (7, 3, [(2, 1), (3, 1)])] 0 := by
  unfold prime_Build.f
  have e : (fun L => prime_Build.r (j + 499) 7 (fun y0 y1 => L (prime_Build.rs.enc ((y0, ()), (y1, ()), ())))) = fun (L : AV → Option AV) => L (prime_Build.rs.enc (([(3, 2, [(2, 1)]), (7, 3, [(2, 1), (3, 1)])], ()), (0, ()), ())) := funext fun L => build7_r j _
  rw [e, nd_eq]
theorem build9 (j : Nat) {R : Type} (ret : List (Int × Int × List (Int × Int)) → Int → Option R) : prime_Build.f (j + 499) 9 ret = ret [] 6 := by
  unfold prime_Build.f
  have e : (fun L => prime_Build.r (j + 499) 9 (fun y0 y1 => L (prime_Build.rs.enc ((y0, ()), (y1, ()), ())))) = fun (L : AV → Option AV) => L (prime_Build.rs.enc (([], ()), (6, ()), ())) := funext fun L => build9_r j _
  rw [e, nd_eq]
theorem awake_spec {k : Nat} (hk : 500 ≤ k) {R : Type} (ret : Bool → Option R) : affidavitlaw02_awake.f k ret = ret true := by
  obtain ⟨j, rfl⟩ : ∃ m, k = m + 499 + 1 := ⟨k - 500, by omega⟩
  rw [affidavitlaw02_awake.f, build7, parts12, build9]
  have hl : ∀ a b : Int × Int × List (Int × Int), [a, b].length < 281474976710656 := fun a b => by simp
  have hf : firstN [(3, 2, [(2, 1)]), (7, 3, [(2, 1), (3, 1)])] = 2 := by
    have h1 := first7 0 (R := Int) some
    rw [first_spec (hl _ _) (by simp)] at h1
    have h2 := Option.some.inj h1
    omega
  rw [check_spec (hl _ _) (by simp), shows2_spec _ (hl _ _) (by simp), first_spec (hl _ _) (by simp), hf, small65537]
  rfl
end Go.Proofs.Ytanpdkllnmeenaa.M
namespace Go.Proofs.Ytanpdkllnmeenaa.Am
set_option linter.unusedVariables false
/-- How often q goes into n, and what is left. -/
def strip (q : Int) : Nat → Int → Nat × Int
  | 0, n => (0, n)
  | f + 1, n => if n % q = 0 then ((strip q f (n / q)).1 + 1, (strip q f (n / q)).2) else (0, n)
def cons0 (q : Int) (t : Nat) (l : List (Int × Int)) : List (Int × Int) := bif decide (0 < t) then (q, (t : Int)) :: l else l
/-- The parts from q on, d numbers at most; and what is left. -/
def facs : Nat → Int → Int → List (Int × Int) × Int
  | 0, _, n => ([], n)
  | d + 1, q, n => bif decide (q * q ≤ n) then (cons0 q (strip q 63 n).1 (facs d (q + 1) (strip q 63 n).2).1, (facs d (q + 1) (strip q 63 n).2).2) else ([], n)

theorem strip_spec {q : Int} (hq : 2 ≤ q) : ∀ (f : Nat) (n : Int), 1 ≤ n → n < 2 ^ f → dv q (strip q f n).1 n = some (strip q f n).2 ∧ (strip q f n).2 % q ≠ 0 ∧ 1 ≤ (strip q f n).2 ∧ (strip q f n).2 ≤ n ∧ (strip q f n).2 ∣ n ∧ (0 < (strip q f n).1 → n % q = 0) ∧ (strip q f n).1 ≤ f
  | 0, n, h1, h2 => by simp at h2; omega
  | f + 1, n, h1, h2 => by
    unfold strip
    by_cases h : n % q = 0
    · obtain ⟨a1, a2, _, a3⟩ := div_half hq h1 h2 h
      obtain ⟨b1, b2, b3, b4, b5, b6, b7⟩ := strip_spec hq f (n / q) a1 (by simpa using a2)
      rw [if_pos h]
      refine ⟨?_, b2, b3, by omega, ?_, fun _ => h, by omega⟩
      · rw [dv, if_pos h]; exact b1
      · exact Int.dvd_trans b5 ⟨q, (Int.ediv_mul_cancel (Int.dvd_of_emod_eq_zero h)).symm⟩
    · rw [if_neg h]
      exact ⟨rfl, h, h1, Int.le_refl _, Int.dvd_refl _, fun h => absurd h (by simp), by simp⟩

/-- No number from 2 to below q goes into n. -/
def Free (q n : Int) : Prop := ∀ e, 2 ≤ e → e < q → n % e ≠ 0
/-- Prime. -/
def isB (n : Int) : Prop := 2 ≤ n ∧ ∀ e, 2 ≤ e → e * e ≤ n → n % e ≠ 0
theorem Free.dvd {q n m : Int} (h : Free q n) (hd : m ∣ n) : Free q m := fun e h2 h3 h4 => h e h2 h3 (Int.emod_eq_zero_of_dvd (Int.dvd_trans (Int.dvd_of_emod_eq_zero h4) hd))
theorem Free.next {q n : Int} (h : Free q n) (hq : n % q ≠ 0) : Free (q + 1) n := fun e h2 h3 => by
  by_cases he : e = q
  · rw [he]; exact hq
  · exact h e h2 (by omega)
/-- A number into which q goes, the first one, is prime: q. -/
theorem Free.isB {q n : Int} (h : Free q n) (hq : 2 ≤ q) (hd : n % q = 0) : isB q := ⟨hq, fun e h2 h3 h4 => by
  have hlt : e < q := by
    have : 2 * e ≤ e * e := Int.mul_le_mul_of_nonneg_right h2 (by omega)
    omega
  exact h e h2 hlt (Int.emod_eq_zero_of_dvd (Int.dvd_trans (Int.dvd_of_emod_eq_zero h4) (Int.dvd_of_emod_eq_zero hd)))⟩
theorem Free.last {q n : Int} (h : Free q n) (hn : 2 ≤ n) (hq : n < q * q) (hq0 : 0 ≤ q) : Am.isB n ∧ q ≤ n := by
  refine ⟨⟨hn, fun e h2 h3 => h e h2 ?_⟩, ?_⟩
  · apply Classical.byContradiction
    intro hlt
    have : q * q ≤ e * e := Int.mul_le_mul (by omega) (by omega) hq0 (by omega)
    omega
  · apply Classical.byContradiction
    intro hlt
    exact h n hn (by omega) (Int.emod_self)

/-- What the parts are. -/
theorem facs_spec : ∀ (d : Nat) (q n : Int), 2 ≤ q → 1 ≤ n → n < 9223372036854775808 → Free q n →
    (∀ v, pl (facs d q n).1 n = some v ↔ v = (facs d q n).2) ∧ (∀ y ∈ (facs d q n).1, q ≤ y.1 ∧ y.1 < q + d ∧ 1 ≤ y.2 ∧ y.2 ≤ 63 ∧ isB y.1) ∧ inc (facs d q n).1 = true ∧ 1 ≤ (facs d q n).2 ∧ (facs d q n).2 ≤ n ∧ (2 ≤ (facs d q n).2 → (∃ e, Free e (facs d q n).2 ∧ q ≤ e ∧ (∀ y ∈ (facs d q n).1, y.1 < e) ∧ (e = q + d ∨ (facs d q n).2 < e * e))) ∧ (facs d q n).1.length ≤ d
  | 0, q, n, hq, h1, h2, hf => by
    refine ⟨fun v => ?_, fun y hy => (by cases hy), rfl, h1, Int.le_refl _, fun h => ⟨q, hf, Int.le_refl _, fun y hy => (by cases hy), .inl (by simp)⟩, by simp [facs]⟩
    simp only [facs, pl]
    exact ⟨fun h => (Option.some.inj h).symm, fun h => by rw [h]⟩
  | d + 1, q, n, hq, h1, h2, hf => by
    rw [facs]
    by_cases c : q * q ≤ n
    · rw [dT c]
      obtain ⟨b1, b2, b3, b4, b5, b6, b7⟩ := strip_spec hq 63 n h1 (by simpa using h2)
      obtain ⟨c1, c2, c3, c4, c5, c6, c7⟩ := facs_spec d (q + 1) (strip q 63 n).2 (by omega) b3 (by omega) ((hf.dvd b5).next b2)
      generalize facs d (q + 1) (strip q 63 n).2 = F at c1 c2 c3 c4 c5 c6 c7 ⊢
      by_cases ht : 0 < (strip q 63 n).1
      · have e : cons0 q (strip q 63 n).1 F.1 = (q, ((strip q 63 n).1 : Int)) :: F.1 := by unfold cons0; rw [dT ht]
        simp only [e]
        refine ⟨fun v => ?_, fun y hy => ?_, ?_, c4, by omega, fun h => ?_, by simp; omega⟩
        · rw [pl, dT ⟨hq, by simp; omega⟩, Int.toNat_natCast, b1, Option.bind_some]; exact c1 v
        · cases hy with
          | head => exact ⟨by simp, by simp; omega, by simp; omega, by simp; omega, hf.isB hq (b6 ht)⟩
          | tail _ hy => have := c2 y hy; exact ⟨by omega, by omega, this.2.2.1, this.2.2.2.1, this.2.2.2.2⟩
        · cases hF : F.1 with
          | nil => rfl
          | cons y r =>
            rw [inc, ← hF, c3, Bool.and_true]
            have := c2 y (by rw [hF]; exact List.mem_cons_self ..)
            exact decide_eq_true (by simp; omega)
        · obtain ⟨e, e1, e2, e3, e4⟩ := c6 h
          refine ⟨e, e1, by omega, fun y hy => ?_, ?_⟩
          · cases hy with
            | head => simp; omega
            | tail _ hy => exact e3 y hy
          · rcases e4 with e4 | e4
            · exact .inl (by simp; omega)
            · exact .inr e4
      · have e : cons0 q (strip q 63 n).1 F.1 = F.1 := by unfold cons0; rw [dF ht]
        have e0 : (strip q 63 n).1 = 0 := by omega
        rw [e0] at b1
        have e2 : (strip q 63 n).2 = n := by simpa [dv] using b1.symm
        simp only [e]
        refine ⟨fun v => ?_, fun y hy => ?_, c3, c4, by omega, fun h => ?_, by omega⟩
        · rw [← e2]; exact c1 v
        · have := c2 y hy; exact ⟨by omega, by omega, this.2.2.1, this.2.2.2.1, this.2.2.2.2⟩
        · obtain ⟨e, e1, e2, e3, e4⟩ := c6 h
          refine ⟨e, e1, by omega, e3, ?_⟩
          rcases e4 with e4 | e4
          · exact .inl (by simp; omega)
          · exact .inr e4
    · rw [dF c]
      refine ⟨fun v => ?_, fun y hy => (by cases hy), rfl, h1, Int.le_refl _, fun h => ⟨q, hf, Int.le_refl _, fun y hy => (by cases hy), .inr (by simp; omega)⟩, by simp⟩
      simp only [pl]
      exact ⟨fun h => (Option.some.inj h).symm, fun h => by rw [h]⟩
/-- A prime has no parts ahead of itself. -/
theorem facs_prime {n : Int} (hn : isB n) : ∀ (d : Nat) (q : Int), 2 ≤ q → facs d q n = ([], n)
  | 0, q, hq => rfl
  | d + 1, q, hq => by
    rw [facs]
    by_cases c : q * q ≤ n
    · have h := hn.2 q hq c
      have e : strip q 63 n = (0, n) := by show strip q (62 + 1) n = _; rw [strip, if_neg h]
      rw [dT c, e, facs_prime hn d (q + 1) (by omega)]
      rfl
    · rw [dF c]
end Go.Proofs.Ytanpdkllnmeenaa.Am
namespace Go.Proofs.Ytanpdkllnmeenaa.M
set_option linter.unusedVariables false
set_option maxRecDepth 100000
open Go Go.RowKit Go.Proofs Go.Proofs.Ytanpdkllnmeenaa.Am

theorem parts_l2 {k : Nat} {R : Type} (x0 : Int → Int → Int → List (Int × Int) → Option R) {q : Int} (hq : 2 ≤ q) (out : List (Int × Int)) (f : Nat) : ∀ (m i : Nat) (n : Int), f + 1 ≤ m → 1 ≤ n → n < 2 ^ f → n < 18446744073709551616 → i + f < 1000 →
    prime_Parts.L2 k x0 m n q i out = x0 (strip q f n).2 q ((i + (strip q f n).1 : Nat) : Int) out := by
  induction f with
  | zero => intro m i n hm h1 h2; simp at h2; omega
  | succ f ih =>
    intro m i n hm h1 h2 h3 hi
    obtain ⟨m, rfl⟩ : ∃ j, m = j + 1 := ⟨m - 1, by omega⟩
    simp only [prime_Parts.L2, prime_Parts.B2]
    rw [nT (by omega), Int.tmod_eq_emod_of_nonneg (by omega), strip]
    by_cases h : n % q = 0
    · obtain ⟨a1, a2, _, a3⟩ := div_half hq h1 h2 h
      rw [eT h, nT (by omega), if_pos h, Int.tdiv_eq_ediv_of_nonneg (by omega), wu_in (by omega) (by omega), ix (by omega)]
      rw [ih m (i + 1) (n / q) (by omega) a1 (by simpa using a2) (by omega) (by omega)]
      congr 2
      omega
    · rw [eF h, if_neg h, Nat.add_zero]
theorem rparts_l2 {k : Nat} {R : Type} (x0 : Int → Int → Int → List (Int × Int) → Option R) {q : Int} (hq : 2 ≤ q) (out : List (Int × Int)) (f : Nat) : ∀ (m i : Nat) (n : Int), f + 1 ≤ m → 1 ≤ n → n < 2 ^ f → n < 18446744073709551616 → i + f < 1000 →
    affidavitref02_Parts.L2 k x0 m n q i out = x0 (strip q f n).2 q ((i + (strip q f n).1 : Nat) : Int) out := by
  induction f with
  | zero => intro m i n hm h1 h2; simp at h2; omega
  | succ f ih =>
    intro m i n hm h1 h2 h3 hi
    obtain ⟨m, rfl⟩ : ∃ j, m = j + 1 := ⟨m - 1, by omega⟩
    simp only [affidavitref02_Parts.L2, affidavitref02_Parts.B2]
    rw [nT (by omega), Int.tmod_eq_emod_of_nonneg (by omega), strip]
    by_cases h : n % q = 0
    · obtain ⟨a1, a2, _, a3⟩ := div_half hq h1 h2 h
      rw [eT h, nT (by omega), if_pos h, Int.tdiv_eq_ediv_of_nonneg (by omega), wu_in (by omega) (by omega), ix (by omega)]
      rw [ih m (i + 1) (n / q) (by omega) a1 (by simpa using a2) (by omega) (by omega)]
      congr 2
      omega
    · rw [eF h, if_neg h, Nat.add_zero]

theorem app_cons0 (out : List (Int × Int)) (q : Int) (t : Nat) (l : List (Int × Int)) : out ++ cons0 q t l = (bif decide (0 < t) then out ++ [(q, (t : Int))] else out) ++ l := by
  unfold cons0
  by_cases h : 0 < t
  · rw [dT h, dT h, List.append_assoc]; rfl
  · rw [dF h, dF h]

theorem parts_l0 {k : Nat} (hk : 70 ≤ k) {R : Type} (x0 : Int → List (Int × Int) → Option R) (d : Nat) : ∀ (m : Nat) (q n : Int) (out : List (Int × Int)), q + d = 65537 → 2 ≤ q → d < m → 1 ≤ n → n < 9223372036854775808 → out.length + d ≤ 70000 →
    prime_Parts.L0 k x0 m n q out = x0 (facs d q n).2 (out ++ (facs d q n).1) := by
  induction d with
  | zero =>
    intro m q n out hq hq2 hm h1 h2 ho
    obtain ⟨m, rfl⟩ : ∃ j, m = j + 1 := ⟨m - 1, by omega⟩
    simp only [prime_Parts.L0, prime_Parts.B0]
    rw [dF (by omega), facs, List.append_nil]
  | succ d ih =>
    intro m q n out hq hq2 hm h1 h2 ho
    obtain ⟨m, rfl⟩ : ∃ j, m = j + 1 := ⟨m - 1, by omega⟩
    have hqq : q * q ≤ 65536 * 65536 := Int.mul_le_mul (by omega) (by omega) (by omega) (by omega)
    have hqq0 : 0 ≤ q * q := Int.mul_nonneg (by omega) (by omega)
    simp only [prime_Parts.L0, prime_Parts.B0]
    rw [dT (by omega), wu_in (n := q * q) hqq0 (by omega), facs]
    by_cases c : q * q ≤ n
    · rw [dT c, dT c]
      have hl2 := parts_l2 (k := k) (fun n3 q2 times1 out2 => bif (decide (times1 > 0)) then
          (bif (decide ((out2 ++ ([(q2, times1)] : List (Int × Int))).length < 1099511627776)) then (prime_Parts.L0 k x0 m n3 (IntKind.wrap .u64 (q2 + 1)) (out2 ++ ([(q2, times1)] : List (Int × Int)))) else none)
        else
          (prime_Parts.L0 k x0 m n3 (IntKind.wrap .u64 (q2 + 1)) out2)) hq2 out 63 k 0 n (by omega) h1 (by simpa using h2) (by omega) (by omega)
      rw [show ((0 : Nat) : Int) = 0 from rfl] at hl2
      obtain ⟨b1, b2, b3, b4, b5, b6, b7⟩ := strip_spec hq2 63 n h1 (by simpa using h2)
      rw [hl2, Nat.zero_add, wu_in (n := q + 1) (by omega) (by omega), app_cons0]
      by_cases ht : 0 < (strip q 63 n).1
      · rw [dT (by omega), dT (by simp; omega), dT ht]
        exact ih m (q + 1) _ _ (by omega) (by omega) (by omega) b3 (by omega) (by simp; omega)
      · rw [dF (by omega), dF ht]
        exact ih m (q + 1) _ _ (by omega) (by omega) (by omega) b3 (by omega) (by omega)
    · rw [dF c, dF c, List.append_nil]

/-- A number's parts, and what is told of it. -/
def partsN (n : Int) : List (Int × Int) × Int :=
  bif decide (n = 0 ∨ 9223372036854775808 ≤ n) then ([], 1) else
  bif decide (4294967296 ≤ (facs 65535 2 n).2) then ([], 3) else
  bif decide (1 < (facs 65535 2 n).2) then ((facs 65535 2 n).1 ++ [((facs 65535 2 n).2, 1)], 0) else ((facs 65535 2 n).1, 0)

theorem free2 (n : Int) : Free 2 n := fun e h1 h2 => by omega
theorem parts_spec {n : Int} (h0 : 0 ≤ n) {k : Nat} (hk : 65537 ≤ k) {R : Type} (ret : List (Int × Int) → Int → Option R) : prime_Parts.f k n ret = ret (partsN n).1 (partsN n).2 := by
  obtain ⟨k, rfl⟩ : ∃ m, k = m + 1 := ⟨k - 1, by omega⟩
  simp only [prime_Parts.f]
  unfold partsN
  by_cases c0 : n = 0
  · rw [eT c0, dT (.inl c0)]
  · by_cases c1 : n ≥ 9223372036854775808
    · rw [eF c0, dT c1, dT (.inr c1)]
    · rw [eF c0, dF c1, dF (by omega), parts_l0 (by omega) _ 65535 k 2 n [] (by omega) (by omega) (by omega) (by omega) (by omega) (by simp), List.nil_append]
      have hlen := (facs_spec 65535 2 n (by omega) (by omega) (by omega) (free2 n)).2.2.2.2.2.2
      by_cases c2 : (facs 65535 2 n).2 ≥ 4294967296
      · rw [dT c2, dT (p := 4294967296 ≤ (facs 65535 2 n).2) c2]
      · rw [dF c2, dF (p := 4294967296 ≤ (facs 65535 2 n).2) c2]
        by_cases c3 : (facs 65535 2 n).2 > 1
        · rw [dT c3, dT (by rw [List.length_append]; simp only [List.length_singleton]; omega), dT (p := 1 < (facs 65535 2 n).2) c3]
        · rw [dF c3, dF (p := 1 < (facs 65535 2 n).2) c3]

theorem rparts_l0 {k : Nat} (hk : 70 ≤ k) {R : Type} (x0 : Int → List (Int × Int) → Option R) (hx : ∀ n out, 1 < n → n < 4294967296 → out.length ≤ 70000 → x0 n out = x0 1 (out ++ [(n, 1)])) (d : Nat) : ∀ (m : Nat) (q n : Int) (out : List (Int × Int)), q + d = 65537 → 2 ≤ q → d + 1 < m → 1 ≤ n → n < 9223372036854775808 → out.length + d ≤ 70000 →
    affidavitref02_Parts.L0 k x0 m n q out = x0 (facs d q n).2 (out ++ (facs d q n).1) := by
  induction d with
  | zero =>
    intro m q n out hq hq2 hm h1 h2 ho
    obtain ⟨m, rfl⟩ : ∃ j, m = j + 1 := ⟨m - 1, by omega⟩
    simp only [affidavitref02_Parts.L0, affidavitref02_Parts.B0]
    rw [dF (by omega), facs, List.append_nil]
  | succ d ih =>
    intro m q n out hq hq2 hm h1 h2 ho
    obtain ⟨m, rfl⟩ : ∃ j, m = j + 1 := ⟨m - 1, by omega⟩
    have hqq : q * q ≤ 65536 * 65536 := Int.mul_le_mul (by omega) (by omega) (by omega) (by omega)
    have hqq0 : 0 ≤ q * q := Int.mul_nonneg (by omega) (by omega)
    have hqq4 : 2 * 2 ≤ q * q := Int.mul_le_mul hq2 hq2 (by omega) (by omega)
    simp only [affidavitref02_Parts.L0, affidavitref02_Parts.B0]
    rw [dT (by omega), wu_in (n := q * q) hqq0 (by omega), facs]
    -- one number is tried
    have htry : ∀ _ : q * q ≤ n, affidavitref02_Parts.L2 k (fun n3 q2 k_1 out2 =>
            bif (decide (k_1 > 0)) then
              (bif (decide ((out2 ++ ([(q2, k_1)] : List (Int × Int))).length < 1099511627776)) then (affidavitref02_Parts.L0 k x0 m n3 (IntKind.wrap .u64 (q2 + 1)) (out2 ++ ([(q2, k_1)] : List (Int × Int)))) else none)
            else
              (affidavitref02_Parts.L0 k x0 m n3 (IntKind.wrap .u64 (q2 + 1)) out2)) k n q 0 out = x0 (facs d (q + 1) (strip q 63 n).2).2 (out ++ cons0 q (strip q 63 n).1 (facs d (q + 1) (strip q 63 n).2).1) := by
      intro c
      have hl2 := rparts_l2 (k := k) (fun n3 q2 k_1 out2 => bif (decide (k_1 > 0)) then
              (bif (decide ((out2 ++ ([(q2, k_1)] : List (Int × Int))).length < 1099511627776)) then (affidavitref02_Parts.L0 k x0 m n3 (IntKind.wrap .u64 (q2 + 1)) (out2 ++ ([(q2, k_1)] : List (Int × Int)))) else none)
            else
              (affidavitref02_Parts.L0 k x0 m n3 (IntKind.wrap .u64 (q2 + 1)) out2)) hq2 out 63 k 0 n (by omega) h1 (by simpa using h2) (by omega) (by omega)
      rw [show ((0 : Nat) : Int) = 0 from rfl] at hl2
      obtain ⟨b1, b2, b3, b4, b5, b6, b7⟩ := strip_spec hq2 63 n h1 (by simpa using h2)
      rw [hl2, Nat.zero_add, wu_in (n := q + 1) (by omega) (by omega), app_cons0]
      by_cases ht : 0 < (strip q 63 n).1
      · rw [dT (by omega), dT (by simp; omega), dT ht]
        exact ih m (q + 1) _ _ (by omega) (by omega) (by omega) b3 (by omega) (by simp; omega)
      · rw [dF (by omega), dF ht]
        exact ih m (q + 1) _ _ (by omega) (by omega) (by omega) b3 (by omega) (by omega)
    by_cases c1 : n > 1
    · rw [dT c1]
      by_cases c2 : n < 4294967296
      · rw [dT c2]
        by_cases c : q * q ≤ n
        · rw [dF (by omega), dT c]
          exact htry c
        · rw [dT (by omega), dF c, List.append_nil, hx n out c1 c2 (by omega)]
          -- what is left is tried itself
          have e : strip n 63 n = (1, 1) := by
            show strip n (61 + 1 + 1) n = _
            rw [strip, if_pos Int.emod_self, Int.ediv_self (by omega), strip, if_neg (by rw [Int.emod_eq_of_lt (by omega) (by omega)]; omega)]
          have hl2 := rparts_l2 (k := k) (fun n3 q2 k_1 out2 => bif (decide (k_1 > 0)) then
              (bif (decide ((out2 ++ ([(q2, k_1)] : List (Int × Int))).length < 1099511627776)) then (affidavitref02_Parts.L0 k x0 m n3 (IntKind.wrap .u64 (q2 + 1)) (out2 ++ ([(q2, k_1)] : List (Int × Int)))) else none)
            else
              (affidavitref02_Parts.L0 k x0 m n3 (IntKind.wrap .u64 (q2 + 1)) out2)) (q := n) (by omega) out 63 k 0 n (by omega) h1 (by simpa using h2) (by omega) (by omega)
          rw [show ((0 : Nat) : Int) = 0 from rfl, e] at hl2
          rw [hl2, dT (by decide), dT (by simp; omega)]
          obtain ⟨m, rfl⟩ : ∃ j, m = j + 1 := ⟨m - 1, by omega⟩
          simp only [affidavitref02_Parts.L0, affidavitref02_Parts.B0]
          rw [dF (p := (1 : Int) > 1) (by omega)]
          cases decide (IntKind.wrap .u64 (n + 1) ≤ 65536)
          · rw [cond_false]; rfl
          · rw [cond_true]; rfl
      · rw [dF c2, dT (by omega)]
        exact htry (by omega)
    · rw [dF c1, dF (by omega), List.append_nil]

theorem rparts_spec {n : Int} (h0 : 0 ≤ n) {k : Nat} (hk : 65540 ≤ k) {R : Type} (ret : List (Int × Int) → Int → Option R) : affidavitref02_Parts.f k n ret = ret (partsN n).1 (partsN n).2 := by
  obtain ⟨k, rfl⟩ : ∃ m, k = m + 1 := ⟨k - 1, by omega⟩
  simp only [affidavitref02_Parts.f]
  unfold partsN
  by_cases c0 : n = 0
  · rw [eT c0, dT (.inl c0)]
  · by_cases c1 : n > 9223372036854775807
    · rw [eF c0, dT c1, dT (.inr (by omega))]
    · rw [eF c0, dF c1, dF (by omega)]
      have hl := rparts_l0 (k := k) (by omega) (fun n6 out5 =>
          bif (decide (n6 ≥ 4294967296)) then
            (ret ([]) 3)
          else
            (bif (decide (n6 > 1)) then
              (bif (decide ((out5 ++ ([(n6, 1)] : List (Int × Int))).length < 1099511627776)) then (ret (out5 ++ ([(n6, 1)] : List (Int × Int))) 0) else none)
            else
              (ret out5 0))) (fun n out a1 a2 a3 => by
        show (bif _ then _ else _) = (bif _ then _ else _)
        rw [dF (by omega), dT a1, dT (by simp; omega), dF (by omega), dF (by omega)]) 65535 k 2 n [] (by omega) (by omega) (by omega) (by omega) (by omega) (by simp)
      rw [hl, List.nil_append]
      have hlen := (facs_spec 65535 2 n (by omega) (by omega) (by omega) (free2 n)).2.2.2.2.2.2
      by_cases c2 : (facs 65535 2 n).2 ≥ 4294967296
      · rw [dT c2, dT (p := 4294967296 ≤ (facs 65535 2 n).2) c2]
      · rw [dF c2, dF (p := 4294967296 ≤ (facs 65535 2 n).2) c2]
        by_cases c3 : (facs 65535 2 n).2 > 1
        · rw [dT c3, dT (by rw [List.length_append]; simp only [List.length_singleton]; omega), dT (p := 1 < (facs 65535 2 n).2) c3]
        · rw [dF c3, dF (p := 1 < (facs 65535 2 n).2) c3]
end Go.Proofs.Ytanpdkllnmeenaa.M
namespace Go.Proofs.Ytanpdkllnmeenaa.Am
set_option linter.unusedVariables false
theorem pl_append : ∀ (a b : List (Int × Int)) (n : Int), pl (a ++ b) n = (pl a n).bind (pl b)
  | [], b, n => rfl
  | x :: a, b, n => by
    rw [List.cons_append, pl, pl]
    by_cases c : 2 ≤ x.1 ∧ 1 ≤ x.2
    · rw [dT c, dT c]
      cases dv x.1 x.2.toNat n with
      | none => rfl
      | some v => exact pl_append a b v
    · rw [dF c, dF c]; rfl
theorem inc_append : ∀ (a : List (Int × Int)) (y : Int × Int), inc a = true → (∀ x ∈ a, x.1 < y.1) → inc (a ++ [y]) = true
  | [], y, _, _ => rfl
  | [x], y, _, h => by
    show (decide (x.1 < y.1) && true) = true
    rw [decide_eq_true (h x (List.mem_cons_self ..))]; rfl
  | x :: z :: r, y, hi, h => by
    rw [inc, Bool.and_eq_true] at hi
    show (decide (x.1 < z.1) && inc (z :: r ++ [y])) = true
    rw [hi.1, inc_append (z :: r) y hi.2 (fun w hw => h w (List.mem_cons_of_mem _ hw))]; rfl
theorem sq_lt {e : Int} (h : 65537 ≤ e) : 4294967296 < e * e := by
  have : 65537 * 65537 ≤ e * e := Int.mul_le_mul h h (by omega) (by omega)
  omega
end Go.Proofs.Ytanpdkllnmeenaa.Am
namespace Go.Proofs.Ytanpdkllnmeenaa.M
set_option linter.unusedVariables false
set_option maxRecDepth 100000
open Go Go.RowKit Go.Proofs Go.Proofs.Ytanpdkllnmeenaa.Am

theorem partsN_spec {n : Int} (h1 : 1 ≤ n) (h2 : n < 9223372036854775808) : (partsN n = ([], 3) ∧ 4294967296 ≤ n) ∨ ∃ l, partsN n = (l, 0) ∧ pl l n = some 1 ∧ inc l = true ∧ (∀ y ∈ l, isB y.1 ∧ y.1 < 4294967296 ∧ 1 ≤ y.2 ∧ y.2 ≤ 63) ∧ l.length ≤ 65536 := by
  obtain ⟨c1, c2, c3, c4, c5, c6, c7⟩ := facs_spec 65535 2 n (by omega) h1 h2 (free2 n)
  unfold partsN
  rw [dF (by omega)]
  generalize facs 65535 2 n = F at c1 c2 c3 c4 c5 c6 c7 ⊢
  by_cases k1 : 4294967296 ≤ F.2
  · left; rw [dT k1]; exact ⟨rfl, by omega⟩
  · right
    rw [dF k1]
    by_cases k2 : 1 < F.2
    · rw [dT k2]
      obtain ⟨e, e1, e2, e3, e4⟩ := c6 (by omega)
      have hlt : F.2 < e * e := by
        rcases e4 with e4 | e4
        · have := sq_lt (e := e) (by omega); omega
        · exact e4
      obtain ⟨b1, b2⟩ := e1.last (by omega) hlt (by omega)
      refine ⟨_, rfl, ?_, ?_, ?_, by rw [List.length_append, List.length_singleton]; omega⟩
      · rw [pl_append, (c1 F.2).2 rfl]
        show pl [(F.2, 1)] F.2 = some 1
        have hd : dv F.2 1 F.2 = some 1 := by rw [dv, if_pos Int.emod_self, Int.ediv_self (by omega)]; rfl
        rw [pl, dT ⟨by show 2 ≤ F.2; omega, by show (1 : Int) ≤ 1; omega⟩]
        show (dv F.2 1 F.2).bind (pl []) = some 1
        rw [hd]; rfl
      · exact inc_append _ _ c3 fun x hx => by have := e3 x hx; show x.1 < F.2; omega
      · intro y hy
        rcases List.mem_append.1 hy with hy | hy
        · have := c2 y hy; exact ⟨this.2.2.2.2, by omega, this.2.2.1, this.2.2.2.1⟩
        · rw [List.mem_singleton.1 hy]; exact ⟨b1, by show F.2 < _; omega, by show (1 : Int) ≤ 1; omega, by show (1 : Int) ≤ 63; omega⟩
    · rw [dF k2]
      refine ⟨_, rfl, ?_, c3, ?_, by omega⟩
      · rw [(c1 F.2).2 rfl]; congr 1; omega
      · intro y hy; have := c2 y hy; exact ⟨this.2.2.2.2, by omega, this.2.2.1, this.2.2.2.1⟩
theorem partsN_prime {n : Int} (h : isB n) (h2 : n < 4294967296) : partsN n = ([(n, 1)], 0) := by
  have := h.1
  unfold partsN
  rw [facs_prime h _ _ (by omega), dF (by omega), dF (p := 4294967296 ≤ n) (by omega), dT (p := 1 < n) (by omega)]
  rfl

theorem is_l0 {k : Nat} {R : Type} (x0 : Bool → Option R) (x1 : Unit → Option R) {n : Int} (h2 : n < 4294967296) (hn : 2 ≤ n) (d : Nat) : ∀ (m : Nat) (q : Int), q + d = 65537 → 2 ≤ q → d < m → Free q n →
    (isB n → affidavitref02_Is.L0 k x0 x1 m n q = x1 ()) ∧ (¬ isB n → affidavitref02_Is.L0 k x0 x1 m n q = x0 false) := by
  induction d with
  | zero =>
    intro m q hq hq2 hm hf
    obtain ⟨m, rfl⟩ : ∃ j, m = j + 1 := ⟨m - 1, by omega⟩
    have hs := sq_lt (e := q) (by omega)
    have hqq : q * q ≤ 65537 * 65537 := Int.mul_le_mul (by omega) (by omega) (by omega) (by omega)
    have hp := hf.last hn (by omega) (by omega)
    simp only [affidavitref02_Is.L0, affidavitref02_Is.B0]
    rw [wu_in (n := q * q) (by omega) (by omega), dF (by omega)]
    exact ⟨fun _ => rfl, fun h => absurd hp.1 h⟩
  | succ d ih =>
    intro m q hq hq2 hm hf
    obtain ⟨m, rfl⟩ : ∃ j, m = j + 1 := ⟨m - 1, by omega⟩
    have hqq : q * q ≤ 65536 * 65536 := Int.mul_le_mul (by omega) (by omega) (by omega) (by omega)
    have hqq0 : 0 ≤ q * q := Int.mul_nonneg (by omega) (by omega)
    simp only [affidavitref02_Is.L0, affidavitref02_Is.B0]
    rw [wu_in (n := q * q) hqq0 (by omega), nT (by omega), Int.tmod_eq_emod_of_nonneg (by omega), wu_in (n := q + 1) (by omega) (by omega)]
    by_cases c : q * q ≤ n
    · rw [dT c]
      by_cases h : n % q = 0
      · rw [eT h]
        exact ⟨fun hp => absurd h (hp.2 q hq2 c), fun _ => rfl⟩
      · rw [eF h]
        exact ih m (q + 1) (by omega) (by omega) (by omega) (hf.next h)
    · rw [dF c]
      have hp := hf.last hn (by omega) (by omega)
      exact ⟨fun _ => rfl, fun h => absurd hp.1 h⟩
theorem is_spec {n : Int} (h0 : 0 ≤ n) (h2 : n < 4294967296) {k : Nat} (hk : 65540 ≤ k) {R : Type} (ret : Bool → Option R) :
    (isB n → affidavitref02_Is.f k n ret = ret true) ∧ (¬ isB n → affidavitref02_Is.f k n ret = ret false) := by
  obtain ⟨k, rfl⟩ : ∃ m, k = m + 1 := ⟨k - 1, by omega⟩
  simp only [affidavitref02_Is.f]
  by_cases c : n < 2
  · rw [dT c]
    exact ⟨fun h => by have := h.1; omega, fun _ => rfl⟩
  · rw [dF c]
    exact is_l0 (k := k) (fun t2 => ret t2) (fun _ => ret true) h2 (by omega) 65535 k 2 (by omega) (by omega) (by omega) (free2 n)

theorem small_spec {n : Int} (h0 : 0 ≤ n) (h2 : n < 4294967296) {k : Nat} (hk : 65540 ≤ k) {R : Type} (ret : Bool → Option R) :
    (isB n → prime_Small.f k n ret = ret true) ∧ (¬ isB n → prime_Small.f k n ret = ret false) := by
  obtain ⟨k, rfl⟩ : ∃ m, k = m + 1 := ⟨k - 1, by omega⟩
  simp only [prime_Small.f]
  rw [dF (by omega), parts_spec h0 (by omega)]
  by_cases hn : n = 0
  · subst hn
    refine ⟨fun h => by have := h.1; omega, fun _ => ?_⟩
    have e : partsN 0 = ([], 1) := by unfold partsN; rw [dT (.inl rfl)]
    rw [e]
    rfl
  · rcases partsN_spec (n := n) (by omega) (by omega) with ⟨_, h⟩ | ⟨l, e, hpl, hinc, hall, hlen⟩
    · omega
    · refine ⟨fun h => ?_, fun h => ?_⟩
      · rw [partsN_prime h h2]; rfl
      · rw [e, eT rfl]
        match l, hpl, hall with
        | [], _, _ => rfl
        | x :: y :: r, _, _ =>
          rw [eF]
          simp only [List.length_cons]
          omega
        | [x], hpl, hall =>
          show ret (x.2 == 1) = ret false
          by_cases hx : x.2 = 1
          · exfalso
            apply h
            have hb := (hall x (List.mem_cons_self ..)).1
            rw [pl, dT ⟨hb.1, by omega⟩, hx] at hpl
            have e2 : (1 : Int).toNat = 1 := rfl
            rw [e2, dv] at hpl
            by_cases hm : n % x.1 = 0
            · rw [if_pos hm] at hpl
              have e3 : n / x.1 = 1 := Option.some.inj hpl
              have := Int.ediv_mul_add_emod n x.1
              rw [e3, hm] at this
              have e4 : n = x.1 := by omega
              rw [e4]; exact hb
            · rw [if_neg hm] at hpl; cases hpl
          · rw [beq_eq_false_iff_ne.2 hx]

theorem same_l0 {k : Nat} {R : Type} (x0 : Bool → Option R) (x1 : Unit → Option R) {l : List (Int × Int)} (hl : l.length < 281474976710656) (d : Nat) : ∀ (m i : Nat), i + d = l.length → d < m →
    affidavitref02_Same.L0 k x0 x1 m l l i = x1 () := by
  induction d with
  | zero =>
    intro m i hi hm
    obtain ⟨m, rfl⟩ : ∃ j, m = j + 1 := ⟨m - 1, by omega⟩
    simp only [affidavitref02_Same.L0, affidavitref02_Same.B0]
    rw [dF (by omega)]
  | succ d ih =>
    intro m i hi hm
    obtain ⟨m, rfl⟩ : ∃ j, m = j + 1 := ⟨m - 1, by omega⟩
    simp only [affidavitref02_Same.L0, affidavitref02_Same.B0]
    rw [dT (by omega), aT (by omega), aT (by omega), beq_self_eq_true, beq_self_eq_true, ix (by omega), ih m (i + 1) (by omega) (by omega)]
    rfl
theorem same_spec {l : List (Int × Int)} (hl : l.length < 281474976710656) {k : Nat} (hk : l.length + 2 ≤ k) {R : Type} (ret : Bool → Option R) : affidavitref02_Same.f k l l ret = ret true := by
  obtain ⟨k, rfl⟩ : ∃ m, k = m + 1 := ⟨k - 1, by omega⟩
  simp only [affidavitref02_Same.f]
  rw [nF rfl]
  exact same_l0 (k := k) (fun t4 => ret t4) (fun _ => ret true) hl l.length k 0 (by omega) (by omega)

theorem pp_l2 {k : Nat} {R : Type} (x0 : Bool → Option R) (x1 : Int → Int → List (Int × Int) → Option R) {l : List (Int × Int)} {i : Nat} (hi : i < l.length) (hq : 2 ≤ (l.getD i (0, 0)).1) (hT : (l.getD i (0, 0)).2 ≤ 63) (d : Nat) : ∀ (m : Nat) (t n : Int), d < m → 0 ≤ t → t + d = (l.getD i (0, 0)).2 → 1 ≤ n → n < 9223372036854775808 →
    affidavitlaw02_PrimeParts.L2 k x0 x1 m n i t l = (dv (l.getD i (0, 0)).1 d n).elim (x0 false) (fun v => x1 v i l) := by
  induction d with
  | zero =>
    intro m t n hm ht htd h1 h2
    obtain ⟨m, rfl⟩ : ∃ j, m = j + 1 := ⟨m - 1, by omega⟩
    simp only [affidavitlaw02_PrimeParts.L2, affidavitlaw02_PrimeParts.B2]
    rw [aT (by omega), Int.toNat_natCast, dF (by omega)]; rfl
  | succ d ih =>
    intro m t n hm ht htd h1 h2
    obtain ⟨m, rfl⟩ : ∃ j, m = j + 1 := ⟨m - 1, by omega⟩
    simp only [affidavitlaw02_PrimeParts.L2, affidavitlaw02_PrimeParts.B2]
    rw [aT (by omega), Int.toNat_natCast, dT (by omega), aT (by omega), nT (by omega), Int.tmod_eq_emod_of_nonneg (by omega), dv]
    by_cases h : n % (l.getD i (0, 0)).1 = 0
    · obtain ⟨a1, _, _, a3⟩ := div_half (j := 63) hq h1 (by simpa using h2) h
      rw [nF h, if_pos h, aT (by omega), nT (by omega), Int.tdiv_eq_ediv_of_nonneg (by omega), wu_in (by omega) (by omega), w64_in (by omega) (by omega)]
      exact ih m _ _ (by omega) (by omega) (by omega) a1 (by omega)
    · rw [nT h, if_neg h]; rfl
theorem pp_l0 {k : Nat} (hk : 65545 ≤ k) {R : Type} (x0 : Bool → Option R) (x1 : Int → Option R) {l : List (Int × Int)} (hl : l.length < 281474976710656) (hall : ∀ y ∈ l, isB y.1 ∧ y.1 < 4294967296 ∧ 1 ≤ y.2 ∧ y.2 ≤ 63) {w : Int} (d : Nat) : ∀ (m i : Nat) (n : Int), i + d = l.length → d < m → inc (l.drop (i - 1)) = true → pl (l.drop i) n = some w → 1 ≤ n → n < 9223372036854775808 →
    affidavitlaw02_PrimeParts.L0 k x0 x1 m n i l = x1 w := by
  induction d with
  | zero =>
    intro m i n hi hm hinc hpl h1 h2
    obtain ⟨m, rfl⟩ : ∃ j, m = j + 1 := ⟨m - 1, by omega⟩
    simp only [affidavitlaw02_PrimeParts.L0, affidavitlaw02_PrimeParts.B0]
    rw [List.drop_of_length_le (by omega), pl] at hpl
    rw [dF (by omega), Option.some.inj hpl]
  | succ d ih =>
    intro m i n hi hm hinc hpl h1 h2
    obtain ⟨m, rfl⟩ : ∃ j, m = j + 1 := ⟨m - 1, by omega⟩
    obtain ⟨y1, y2, y3, y4⟩ := hall _ (getD_mem (l := l) (i := i) (by omega) (0, 0))
    have hb := y1.1
    have hdr := drop_at (l := l) (i := i) (by omega) (0, 0)
    rw [hdr, pl, dT (p := 2 ≤ _ ∧ 1 ≤ _) ⟨hb, y3⟩] at hpl
    have hgo : affidavitlaw02_PrimeParts.L2 k (fun t4 => x0 t4) (fun n5 i2 l4 => affidavitlaw02_PrimeParts.L0 k x0 x1 m n5 (IntKind.wrap .i64 (i2 + 1)) l4) k n i 0 l = x1 w := by
      rw [pp_l2 _ _ (by omega) hb y4 (l.getD i (0, 0)).2.toNat k 0 n (by omega) (by omega) (by omega) h1 h2]
      cases hdv : dv (l.getD i (0, 0)).1 (l.getD i (0, 0)).2.toNat n with
      | none => rw [hdv] at hpl; cases hpl
      | some v =>
        rw [hdv, Option.bind_some] at hpl
        have := dv_pos hb _ _ _ h1 hdv
        have hinc' : inc (l.drop i) = true := by
          by_cases h0 : i = 0
          · subst h0; exact hinc
          · rw [drop_at (i := i - 1) (by omega) (0, 0), show (i - 1) + 1 = i by omega, hdr, inc, Bool.and_eq_true] at hinc
            rw [hdr]; exact hinc.2
        rw [Option.elim_some]
        show affidavitlaw02_PrimeParts.L0 k x0 x1 m v (IntKind.wrap .i64 ((i : Int) + 1)) l = _
        rw [ix (by omega)]
        exact ih m (i + 1) v (by omega) (by omega) (by rw [Nat.add_sub_cancel]; exact hinc') hpl (by omega) (by omega)
    have his := fun {R : Type} (ret : Bool → Option R) => (is_spec (n := (l.getD i (0, 0)).1) (by omega) y2 (k := k) (by omega) ret).1 y1
    simp only [affidavitlaw02_PrimeParts.L0, affidavitlaw02_PrimeParts.B0]
    rw [dT (by omega), aT (by omega), Int.toNat_natCast, dF (by omega), his, Bool.not_true, cond_false]
    by_cases c : i = 0
    · subst c
      rw [dF (by omega), aT (by omega)]
      exact hgo
    · rw [dT (by omega), aT (by omega), ixm (by omega) (by omega), aT (by omega), Int.toNat_natCast]
      rw [drop_at (i := i - 1) (by omega) (0, 0), show (i - 1) + 1 = i by omega, hdr, inc, Bool.and_eq_true] at hinc
      have hlt := of_decide_eq_true hinc.1
      rw [dF (by omega), aT (by omega)]
      exact hgo

theorem partsN_bad {n : Int} (h : n = 0 ∨ 9223372036854775808 ≤ n) : partsN n = ([], 1) := by unfold partsN; rw [dT h]
theorem primeParts_true {n m : Int} (h0 : 0 ≤ n) (hm0 : 0 ≤ m) {R : Type} (ret : Bool → Option R) : affidavitlaw02_PrimeParts.f 131201 n m ret = ret true := by
  have hlen : (partsN n).1.length ≤ 65536 := by
    by_cases h : n = 0 ∨ 9223372036854775808 ≤ n
    · rw [partsN_bad h]; simp
    · rcases partsN_spec (n := n) (by omega) (by omega) with ⟨e, _⟩ | ⟨l, e, _, _, _, hl⟩
      · rw [e]; simp
      · rw [e]; exact hl
  rw [show (131201 : Nat) = 131200 + 1 from rfl, affidavitlaw02_PrimeParts.f, awake_spec (by omega), Bool.not_true, cond_false, parts_spec h0 (by omega), rparts_spec h0 (by omega), nT (by omega), same_spec (by omega) (by omega), Bool.not_true, cond_false, nF rfl, Int.tmod_eq_emod_of_nonneg hm0]
  have hM0 : 0 ≤ m % 16777216 := Int.emod_nonneg _ (by omega)
  have hM1 : m % 16777216 < 4294967296 := by omega
  have hsm : ∀ (G : Bool → Option R), prime_Small.f 131200 (m % 16777216) (fun b2 => affidavitref02_Is.f 131200 (m % 16777216) (fun b3 => G (b2 == b3))) = G true := by
    intro G
    by_cases hp : isB (m % 16777216)
    · rw [(small_spec hM0 hM1 (by omega) _).1 hp, (is_spec hM0 hM1 (by omega) _).1 hp]; rfl
    · rw [(small_spec hM0 hM1 (by omega) _).2 hp, (is_spec hM0 hM1 (by omega) _).2 hp]; rfl
  refine (hsm (fun b => bif !b then ret false else _)).trans ?_
  rw [Bool.not_true, cond_false]
  by_cases h : n = 0 ∨ 9223372036854775808 ≤ n
  · rw [partsN_bad h]; rfl
  · rcases partsN_spec (n := n) (by omega) (by omega) with ⟨e, _⟩ | ⟨l, e, hpl, hinc, hall, hl⟩
    · rw [e]; rfl
    · rw [e, nF rfl]
      have := pp_l0 (k := 131200) (by omega) (fun t42 => ret t42) (fun n7 => ret (n7 == 1)) (by omega) hall l.length 131200 0 n (by omega) (by omega) hinc hpl (by omega) (by omega)
      rw [show ((0 : Nat) : Int) = 0 from rfl] at this
      rw [this]; rfl
end Go.Proofs.Ytanpdkllnmeenaa.M
set_option linter.unusedVariables false
namespace Fp
theorem least (P : Nat → Prop) (h : ∃ n, P n) : ∃ n, P n ∧ ∀ m, m < n → ¬ P m := by
  obtain ⟨n, hn⟩ := h
  induction n using Nat.strongRecOn with
  | _ n ih =>
    by_cases h : ∃ m, m < n ∧ P m
    · obtain ⟨m, hm, hP⟩ := h
      exact ih m hm hP
    · exact ⟨n, hn, fun m hm hP => h ⟨m, hm, hP⟩⟩

/-- A prime. -/
def Pr (n : Nat) : Prop := 2 ≤ n ∧ ∀ d, d ∣ n → d = 1 ∨ d = n
theorem bez (m n : Nat) : ∃ x y : Int, (m : Int) * x + n * y = (Nat.gcd m n : Int) := by
  induction m, n using Nat.gcd.induction with
  | H0 n => exact ⟨0, 1, by rw [Nat.gcd_zero_left]; omega⟩
  | H1 m n hm ih =>
    obtain ⟨x, y, h⟩ := ih
    refine ⟨y - (n / m : Nat) * x, x, ?_⟩
    rw [Nat.gcd_rec, ← h]
    have e : (n : Int) = (m : Int) * ((n / m : Nat) : Int) + ((n % m : Nat) : Int) := by
      have := Nat.div_add_mod n m
      exact_mod_cast this.symm
    generalize (n / m : Nat) = q at e ⊢
    generalize (n % m : Nat) = r at e ⊢
    rw [e]
    grind
theorem Pr.coprime {p a : Nat} (hp : Pr p) (h : ¬ p ∣ a) : Nat.gcd a p = 1 := by
  rcases hp.2 _ (Nat.gcd_dvd_right a p) with e | e
  · exact e
  · exact absurd (by rw [← e]; exact Nat.gcd_dvd_left a p) h
theorem Pr.mul {q a b : Nat} (hq : Pr q) (h : q ∣ a * b) : q ∣ a ∨ q ∣ b := by
  by_cases c : q ∣ a
  · exact .inl c
  · have h1 : Nat.Coprime q a := by
      have := hq.coprime c
      rw [Nat.gcd_comm] at this
      exact this
    exact .inr (h1.dvd_of_dvd_mul_left h)
theorem Pr.fac : ∀ n, 2 ≤ n → ∃ q, Pr q ∧ q ∣ n := by
  intro n
  induction n using Nat.strongRecOn with
  | ind n ih =>
    intro h
    by_cases hp : Pr n
    · exact ⟨n, hp, Nat.dvd_refl n⟩
    · have : ∃ d, d ∣ n ∧ d ≠ 1 ∧ d ≠ n := by
        apply Classical.byContradiction
        intro hc
        apply hp
        refine ⟨h, fun d hd => ?_⟩
        by_cases h1 : d = 1
        · exact .inl h1
        · exact .inr (Classical.byContradiction fun h2 => hc ⟨d, hd, h1, h2⟩)
      obtain ⟨d, hd, h1, h2⟩ := this
      have hle := Nat.le_of_dvd (by omega) hd
      have hd0 : d ≠ 0 := by
        rintro rfl
        have := Nat.eq_zero_of_zero_dvd hd
        omega
      obtain ⟨q, hq, hqd⟩ := ih d (by omega) (by omega)
      exact ⟨q, hq, Nat.dvd_trans hqd hd⟩
/-- No divisor up to the root: a prime. -/
theorem Pr.trial {n : Nat} (h2 : 2 ≤ n) (h : ∀ d, 2 ≤ d → d * d ≤ n → n % d ≠ 0) : Pr n := by
  refine ⟨h2, fun d hd => ?_⟩
  obtain ⟨e, he⟩ := hd
  by_cases h1 : d = 1
  · exact .inl h1
  · right
    apply Classical.byContradiction
    intro hn
    have hd0 : d ≠ 0 := by rintro rfl; omega
    have he0 : e ≠ 0 := by rintro rfl; omega
    have he1 : e ≠ 1 := by rintro rfl; omega
    rcases Nat.le_total d e with hle | hle
    · exact h d (by omega) (by rw [he]; exact Nat.mul_le_mul_left d hle) (by rw [he]; exact Nat.mul_mod_right d e)
    · exact h e (by omega) (by rw [he]; exact Nat.mul_le_mul_right e hle) (by rw [he]; exact Nat.mul_mod_left d e)
theorem Pr.no {n d : Nat} (hp : Pr n) (h2 : 2 ≤ d) (hd : d * d ≤ n) : n % d ≠ 0 := by
  intro h
  rcases hp.2 d (Nat.dvd_of_mod_eq_zero h) with e | e
  · omega
  · subst e
    have := Nat.mul_le_mul_left d h2
    omega

/-- Modulo a prime each number but 0 has an inverse. -/
theorem pigeon : ∀ (n : Nat) (f : Nat → Nat), (∀ i, i < n → f i < n) → (∀ i j, i < n → j < n → f i = f j → i = j) → ∀ v, v < n → ∃ i, i < n ∧ f i = v := by
  intro n
  induction n with
  | zero => intro f _ _ v hv; omega
  | succ n ih =>
    intro f hr hi v hv
    have hw := hr n (by omega)
    have h1 : ∀ i, i < n → (if f i = n then f n else f i) < n := by
      intro i hlt
      have h2 := hr i (by omega)
      split
      · rename_i hc
        have : f n ≠ n := fun h => by have := hi i n (by omega) (by omega) (hc.trans h.symm); omega
        omega
      · rename_i hc
        omega
    have h2 : ∀ i j, i < n → j < n → (if f i = n then f n else f i) = (if f j = n then f n else f j) → i = j := by
      intro i j hil hjl h
      split at h
      · rename_i c1
        split at h
        · rename_i c2
          exact hi i j (by omega) (by omega) (c1.trans c2.symm)
        · have := hi n j (by omega) (by omega) h
          omega
      · split at h
        · have := hi i n (by omega) (by omega) h
          omega
        · exact hi i j (by omega) (by omega) h
    have hih := ih (fun i => if f i = n then f n else f i) h1 h2
    by_cases c : v = f n
    · exact ⟨n, by omega, c.symm⟩
    · by_cases c2 : v < n
      · obtain ⟨i, hil, h⟩ := hih v c2
        by_cases c3 : f i = n
        · simp only [if_pos c3] at h
          exact absurd h.symm c
        · simp only [if_neg c3] at h
          exact ⟨i, by omega, h⟩
      · have hv' : v = n := by omega
        have hlt : f n < n := by omega
        obtain ⟨i, hil, h⟩ := hih (f n) hlt
        by_cases c3 : f i = n
        · exact ⟨i, by omega, by omega⟩
        · simp only [if_neg c3] at h
          have := hi i n (by omega) (by omega) h
          omega
theorem pow_mod_mod (g N i : Nat) (hN : 1 < N) : (g ^ (i + 1)) % N = (g ^ i % N * g) % N := by rw [Nat.pow_succ, Nat.mod_mul_mod]
/-- The least power that is 1 divides each that is. -/
theorem ord_dvd {g N d m : Nat} (hN : 1 < N) (hd : g ^ d % N = 1) (hd0 : 0 < d) (hmin : ∀ e, 0 < e → e < d → g ^ e % N ≠ 1) (hm : g ^ m % N = 1) : d ∣ m := by
  have e := Nat.div_add_mod m d
  have h1 : g ^ (m % d) % N = 1 := by
    rw [← e, Nat.pow_add, Nat.pow_mul, Nat.mul_mod, Nat.pow_mod, hd, Nat.one_pow, Nat.mod_eq_of_lt hN, Nat.one_mul, Nat.mod_mod] at hm
    exact hm
  by_cases c : m % d = 0
  · exact Nat.dvd_of_mod_eq_zero c
  · exact absurd h1 (hmin _ (by omega) (Nat.mod_lt _ hd0))
theorem root_inj {g N : Nat} (hN : 2 ≤ N) (h1 : g ^ (N - 1) % N = 1) (hq : ∀ q, Pr q → q ∣ N - 1 → g ^ ((N - 1) / q) % N ≠ 1) (d : Nat) (hd0 : 0 < d) (hd : g ^ d % N = 1) : N - 1 ≤ d := by
  obtain ⟨m, ⟨hm0, hm⟩, hmin⟩ := least (fun d => 0 < d ∧ g ^ d % N = 1) ⟨d, hd0, hd⟩
  have hmd : m ≤ d := Nat.le_of_not_lt fun h => hmin d h ⟨hd0, hd⟩
  have hdvd := ord_dvd (by omega) hm hm0 (fun e h0 hlt he => hmin e hlt ⟨h0, he⟩) h1
  obtain ⟨c, hc⟩ := hdvd
  by_cases hc1 : c = 1
  · subst hc1; omega
  · exfalso
    have hc0 : c ≠ 0 := by rintro rfl; omega
    obtain ⟨q, hqp, ⟨e, he⟩⟩ := Pr.fac c (by omega)
    have hqd : q ∣ N - 1 := ⟨m * e, by rw [hc, he]; grind⟩
    apply hq q hqp hqd
    have : (N - 1) / q = m * e := by
      rw [hc, he]
      have : m * (q * e) = q * (m * e) := by grind
      rw [this]
      exact Nat.mul_div_cancel_left _ (by have := hqp.1; omega)
    rw [this, Nat.pow_mul, Nat.pow_mod, hm, Nat.one_pow, Nat.mod_eq_of_lt (by omega)]
theorem root_all {g N : Nat} (hN : 2 ≤ N) (h1 : g ^ (N - 1) % N = 1) (hq : ∀ q, Pr q → q ∣ N - 1 → g ^ ((N - 1) / q) % N ≠ 1) (a : Nat) (ha0 : 0 < a) (ha : a < N) : ∃ i, i < N - 1 ∧ g ^ i % N = a := by
  have hmul : ∀ i j, g ^ (i + j) % N = (g ^ i % N) * (g ^ j % N) % N := fun i j => by rw [Nat.pow_add, Nat.mul_mod]
  have hpos : ∀ i, i < N - 1 → 0 < g ^ i % N := by
    intro i hi
    apply Nat.pos_of_ne_zero
    intro h
    have h2 := hmul i (N - 1 - i)
    rw [h, Nat.zero_mul, Nat.zero_mod, show i + (N - 1 - i) = N - 1 by omega, h1] at h2
    omega
  have hinj : ∀ i j, i ≤ j → j < N - 1 → g ^ i % N = g ^ j % N → i = j := by
    intro i j hij hj h
    apply Classical.byContradiction
    intro hne
    have h3 : g ^ (j - i) % N = 1 := by
      have e1 := hmul j (N - 1 - i)
      have e2 := hmul i (N - 1 - i)
      rw [← h, ← e2, show i + (N - 1 - i) = N - 1 by omega, h1, show j + (N - 1 - i) = (N - 1) + (j - i) by omega, hmul, h1, Nat.one_mul, Nat.mod_mod] at e1
      exact e1
    have := root_inj hN h1 hq (j - i) (by omega) h3
    omega
  obtain ⟨i, hi, h⟩ := pigeon (N - 1) (fun i => g ^ i % N - 1) (fun i hi => by have := Nat.mod_lt (g ^ i) (show 0 < N by omega); have := hpos i hi; show g ^ i % N - 1 < N - 1; omega)
    (fun i j hi hj h => by
      have := hpos i hi
      have := hpos j hj
      have h' : g ^ i % N - 1 = g ^ j % N - 1 := h
      rcases Nat.le_total i j with c | c
      · exact hinj i j c hj (by omega)
      · exact (hinj j i c hi (by omega)).symm) (a - 1) (by omega)
  refine ⟨i, hi, ?_⟩
  have := hpos i hi
  have h' : g ^ i % N - 1 = a - 1 := h
  omega
theorem root_prime {g N : Nat} (hN : 2 ≤ N) (h1 : g ^ (N - 1) % N = 1) (hq : ∀ q, Pr q → q ∣ N - 1 → g ^ ((N - 1) / q) % N ≠ 1) : Pr N := by
  refine ⟨hN, fun d hd => ?_⟩
  obtain ⟨e, he⟩ := hd
  by_cases hdN : d = N
  · exact .inr hdN
  · left
    have hd0 : 0 < d := Nat.pos_of_ne_zero (by rintro rfl; omega)
    have he0 : 0 < e := Nat.pos_of_ne_zero (by rintro rfl; omega)
    have he1 : e ≠ 1 := by rintro rfl; omega
    have hlt : d < N := by rw [he]; exact (Nat.lt_mul_iff_one_lt_right hd0).2 (by omega)
    obtain ⟨i, hi, h⟩ := root_all hN h1 hq d hd0 hlt
    -- d times something is 1
    have h2 : (d * (g ^ (N - 1 - i) % N)) % N = 1 := by
      rw [← h, ← Nat.mul_mod, ← Nat.pow_add, show i + (N - 1 - i) = N - 1 by omega, h1]
    have h3 : d ∣ 1 := by
      have h4 := Nat.div_add_mod (d * (g ^ (N - 1 - i) % N)) N
      rw [h2] at h4
      have h5 : d ∣ N * (d * (g ^ (N - 1 - i) % N) / N) := ⟨e * (d * (g ^ (N - 1 - i) % N) / N), by rw [← Nat.mul_assoc, ← he]⟩
      have h6 : d ∣ N * (d * (g ^ (N - 1 - i) % N) / N) + 1 := by rw [h4]; exact Nat.dvd_mul_right _ _
      exact (Nat.dvd_add_right h5).1 h6
    exact Nat.dvd_one.1 h3

/-! ### Told by a list of primes -/
/-- A power, modulo N, by squares. -/
def pm (N : Nat) : Nat → Nat → Nat → Nat
  | 0, _, _ => 1 % N
  | f + 1, g, e => if e = 0 then 1 % N else if e % 2 = 1 then (g * pm N f (g * g % N) (e / 2)) % N else pm N f (g * g % N) (e / 2)
theorem pm_eq (N : Nat) : ∀ f g e, e < 2 ^ f → pm N f g e = g ^ e % N := by
  intro f
  induction f with
  | zero =>
    intro g e h
    have : e = 0 := by simpa using h
    subst this
    rfl
  | succ f ih =>
    intro g e h
    unfold pm
    by_cases c : e = 0
    · rw [if_pos c, c]
      rfl
    · rw [if_neg c]
      have hlt : e / 2 < 2 ^ f := by rw [Nat.pow_succ] at h; omega
      have e1 := Nat.div_add_mod e 2
      have sq : (g * g) ^ (e / 2) = g ^ (2 * (e / 2)) := by rw [Nat.pow_mul, Nat.pow_two]
      by_cases c2 : e % 2 = 1
      · rw [if_pos c2, ih _ _ hlt, ← Nat.pow_mod, sq, Nat.mul_mod_mod, ← Nat.pow_succ']
        congr 2
        omega
      · rw [if_neg c2, ih _ _ hlt, ← Nat.pow_mod, sq]
        congr 2
        omega
def trialB (n : Nat) : Bool := decide (2 ≤ n) && (List.range n).all fun d => decide (d < 2) || decide (n < d * d) || decide (n % d ≠ 0)
theorem trialB_spec {n : Nat} (h : trialB n = true) : Pr n := by
  unfold trialB at h
  simp only [Bool.and_eq_true, Bool.or_eq_true, decide_eq_true_eq, List.all_eq_true, List.mem_range] at h
  refine Pr.trial h.1 fun d h2 hd => ?_
  have hdn : d < n := by
    have := Nat.mul_le_mul_left d h2
    omega
  rcases h.2 d hdn with (c | c) | c
  · omega
  · omega
  · exact c
theorem prime_in_prod {q : Nat} (hq : Pr q) : ∀ (fs : List Nat), (∀ f ∈ fs, Pr f) → q ∣ fs.foldr (· * ·) 1 → q ∈ fs
  | [], _, h => by
    have := Nat.dvd_one.1 h
    have := hq.1
    omega
  | f :: fs, hp, h => by
    rcases hq.mul h with h1 | h1
    · rcases (hp f List.mem_cons_self).2 q h1 with e | e
      · have := hq.1; omega
      · subst e; exact List.mem_cons_self
    · exact List.mem_cons_of_mem _ (prime_in_prod hq fs (fun f hf => hp f (List.mem_cons_of_mem _ hf)) h1)
def certB (N g : Nat) (fs : List Nat) : Bool := decide (2 ≤ N) && decide (N < 2 ^ 64) && decide (fs.foldr (· * ·) 1 = N - 1) && fs.all trialB && decide (pm N 64 g (N - 1) = 1) && fs.all fun q => decide (pm N 64 g ((N - 1) / q) ≠ 1)
theorem certB_spec {N g : Nat} {fs : List Nat} (h : certB N g fs = true) : Pr N := by
  unfold certB at h
  simp only [Bool.and_eq_true, decide_eq_true_eq, List.all_eq_true] at h
  obtain ⟨⟨⟨⟨⟨h1, h2⟩, h3⟩, h4⟩, h5⟩, h6⟩ := h
  rw [pm_eq _ _ _ _ (by omega)] at h5
  refine root_prime h1 h5 fun q hq hd => ?_
  have hm := prime_in_prod hq fs (fun f hf => trialB_spec (h4 f hf)) (by rw [h3]; exact hd)
  have := h6 q hm
  rwa [pm_eq _ _ _ _ (by have := Nat.div_le_self (N - 1) q; omega)] at this
end Fp
namespace Go.Proofs.Ytanpdkllnmeenaa.M
set_option linter.unusedVariables false
set_option maxRecDepth 100000
open Go Go.RowKit Go.Proofs Go.Proofs.Ytanpdkllnmeenaa.Am

theorem half_prod {r s m : Int} {n : Nat} (h0 : 0 ≤ m) (h1 : m < s) (h2 : s + m ≤ r) (h : r * s < 2 ^ (n + 1)) : s * m < 2 ^ n := by
  have hpw : (2 : Int) ^ (n + 1) = 2 ^ n * 2 := Int.pow_succ _ _
  have e : (2 * m) * s ≤ r * s := Int.mul_le_mul_of_nonneg_right (by omega) (by omega)
  have e2 : 2 * m * s = 2 * (s * m) := by grind
  omega
theorem inv_l0 {p a : Int} (hp : p < 9223372036854775808) (hp2 : 2 ≤ p) {k : Nat} (n : Nat) : ∀ (m : Nat) (r s x y X Y : Int), r * s < 2 ^ n → n < m → r ≤ p → Eu p a r s x y X Y →
    ∃ x' g, 0 < g ∧ g ∣ p ∧ g ∣ a ∧ -p ≤ x' ∧ x' ≤ p ∧ (∃ c, x' * a = g + c * p) ∧ ∀ {R : Type} (x0 : Int → Int → Int → Option R), field_inv.L0 k x0 m p r s x y = x0 p g x' := by
  induction n with
  | zero =>
    intro m r s x y X Y hs hm hr h
    obtain ⟨m, rfl⟩ : ∃ j, m = j + 1 := ⟨m - 1, by omega⟩
    have h1 := h.h1; have h2 := h.h2; have h3 := h.h3; have h4 := h.h4; have h7 := h.h7
    have hs0 : s = 0 := by
      apply Classical.byContradiction
      intro hc
      have : 1 * 1 ≤ r * s := Int.mul_le_mul (by omega) (by omega) (by omega) (by omega)
      simp at hs
      omega
    subst hs0
    have hx : -p ≤ x ∧ x ≤ p := by rcases h.h5 with ⟨e1, _⟩ | ⟨e1, _⟩ <;> omega
    have hg := h.ha r (Int.dvd_refl r) (Int.dvd_zero r)
    refine ⟨x, r, by omega, hg.1, hg.2, hx.1, hx.2, h.h8, fun x0 => ?_⟩
    simp only [field_inv.L0, field_inv.B0]
    rw [nF rfl]
  | succ n ih =>
    intro m r s x y X Y hs hm hr h
    by_cases hs0 : s = 0
    · exact ih m r s x y X Y (by rw [hs0, Int.mul_zero]; exact Int.pow_pos (by omega)) (by omega) hr h
    · obtain ⟨m, rfl⟩ : ∃ j, m = j + 1 := ⟨m - 1, by omega⟩
      have h1 := h.h1; have h2 := h.h2; have h3 := h.h3; have h4 := h.h4; have h7 := h.h7
      obtain ⟨hn, hq, hqs, hqs', hqY, hle, _, hrm⟩ := h.next hp hs0
      have hqr : r / s ≤ r := Int.ediv_le_self _ (by omega)
      have hqy : -p ≤ r / s * y ∧ r / s * y ≤ p ∧ -p ≤ x - r / s * y ∧ x - r / s * y ≤ p := by
        rcases h.h5 with ⟨e1, e2⟩ | ⟨e1, e2⟩
        · rw [e1, e2, Int.mul_neg]; omega
        · rw [e1, e2]; omega
      have hm0 : 0 ≤ r % s := Int.emod_nonneg _ hs0
      have hm1 : r % s < s := Int.emod_lt_of_pos _ (by omega)
      have hq1 : 1 ≤ r / s := by rw [Int.le_ediv_iff_mul_le (by omega)]; omega
      have hsq : 1 * s ≤ r / s * s := Int.mul_le_mul_of_nonneg_right hq1 h1
      obtain ⟨x', g, a1, a2, a3, a4, a5, a6, a7⟩ := ih m s (r - r / s * s) y (x - r / s * y) Y (X + r / s * Y) (half_prod (r := r) (by omega) (by omega) (by omega) hs) (by omega) (by omega) hn
      refine ⟨x', g, a1, a2, a3, a4, a5, a6, fun x0 => ?_⟩
      simp only [field_inv.L0, field_inv.B0]
      rw [nT hs0, nT hs0, Int.tdiv_eq_ediv_of_nonneg (by omega), w64_in (n := r / s) (by omega) (by omega), w64_in (n := r / s * s) (by omega) (by omega), w64_in (n := r - r / s * s) (by omega) (by omega), w64_in (n := r / s * y) (by omega) (by omega), w64_in (n := x - r / s * y) (by omega) (by omega)]
      exact a7 x0

/-- field's inv: there is an inverse, or there is none. -/
theorem inv0_spec {p a : Int} (hp2 : 2 ≤ p) (hp : p < 9223372036854775808) (ha : 0 ≤ a) (ha' : a < p) {k : Nat} (hk : 130 ≤ k) :
    ∃ x b, (∀ {R : Type} (ret : Int → Bool → Option R), field_inv.f k p a ret = ret x b) ∧ ((b = true ∧ 0 ≤ x ∧ x < p ∧ a * x % p = 1) ∨ (b = false ∧ ∀ c, a * c % p ≠ 1)) := by
  obtain ⟨k, rfl⟩ : ∃ m, k = m + 1 := ⟨k - 1, by omega⟩
  have h0 : Eu p a p a 0 1 0 1 := { h1 := ha, h2 := ha', h3 := by omega, h4 := by omega, h5 := .inr ⟨rfl, rfl⟩, h6 := by omega, h7 := by omega, h8 := ⟨-1, by omega⟩, h9 := ⟨0, by omega⟩, ha := fun d h1 h2 => ⟨h1, h2⟩ }
  have hpa : p * a < 2 ^ 126 := by
    have : p * a ≤ 9223372036854775807 * 9223372036854775807 := Int.mul_le_mul (by omega) (by omega) ha (by omega)
    omega
  obtain ⟨x, g, g0, g1, g2, x1, x2, ⟨c, hc⟩, hx⟩ := inv_l0 (p := p) (a := a) hp hp2 (k := k) 126 k p a 0 1 0 1 hpa (by omega) (by omega) h0
  have key : g = 1 → ∀ x', (x' = x ∨ x' = x + p) → a * x' % p = 1 := by
    intro e x' hx'
    have : ∃ c', a * x' = 1 + p * c' := by
      rcases hx' with rfl | rfl
      · exact ⟨c, by rw [Int.mul_comm, hc, e, Int.mul_comm c]⟩
      · exact ⟨c + a, by rw [Int.mul_add, Int.mul_comm a x, hc, e]; grind⟩
    obtain ⟨c', hc'⟩ := this
    rw [hc', Int.add_mul_emod_self_left]
    exact Int.emod_eq_of_lt (by omega) (by omega)
  have hne : g = 1 → x ≠ p ∧ x ≠ -p ∧ x ≠ 0 := by
    intro e
    refine ⟨fun e2 => ?_, fun e2 => ?_, fun e2 => ?_⟩
    · have := key e x (.inl rfl)
      rw [e2, Int.mul_emod_left] at this
      omega
    · have := key e (x + p) (.inr rfl)
      rw [e2, show -p + p = 0 by omega, Int.mul_zero] at this
      simp at this
    · have := key e x (.inl rfl)
      rw [e2, Int.mul_zero] at this
      simp at this
  have hf : ∃ x', (∀ {R : Type} (ret : Int → Bool → Option R), field_inv.f (k + 1) p a ret = ret x' (g == 1)) ∧ (g = 1 → 0 ≤ x' ∧ x' < p ∧ a * x' % p = 1) := by
    by_cases cc : x < 0
    · refine ⟨IntKind.wrap .u64 (x + p), fun ret => ?_, fun e => ?_⟩
      · simp only [field_inv.f]
        rw [w64_in (n := p) (by omega) hp, w64_in (n := a) (by omega) (by omega), hx, dT cc, w64_in (n := p) (by omega) hp, w64_in (n := x + p) (by omega) (by omega)]
      · have := hne e
        rw [wu_in (by omega) (by omega)]
        exact ⟨by omega, by omega, key e _ (.inr rfl)⟩
    · refine ⟨IntKind.wrap .u64 x, fun ret => ?_, fun e => ?_⟩
      · simp only [field_inv.f]
        rw [w64_in (n := p) (by omega) hp, w64_in (n := a) (by omega) (by omega), hx, dF cc]
      · have := hne e
        rw [wu_in (by omega) (by omega)]
        exact ⟨by omega, by omega, key e _ (.inl rfl)⟩
  obtain ⟨x', h1, h2⟩ := hf
  refine ⟨x', g == 1, h1, ?_⟩
  by_cases hg : g = 1
  · left; exact ⟨beq_iff_eq.2 hg, h2 hg⟩
  · right
    refine ⟨beq_eq_false_iff_ne.2 hg, fun c' hc' => hg ?_⟩
    have e := Int.mul_ediv_add_emod (a * c') p
    have hd : g ∣ 1 := by
      have : (1 : Int) = a * c' - p * (a * c' / p) := by omega
      rw [this]
      exact Int.dvd_sub (Int.dvd_mul_of_dvd_left g2) (Int.dvd_mul_of_dvd_left g1)
    exact Int.eq_one_of_dvd_one (by omega) hd

/-- field.Inv of a number of a prime that isn't 0. -/
theorem inv_spec {p a : Int} (hp2 : 2 ≤ p) (hp : p < 9223372036854775808) (ha : 0 ≤ a) (ha' : a < p) (h : ∃ c, a * c % p = 1) {k : Nat} (hk : 131 ≤ k) :
    ∃ x, 0 ≤ x ∧ x < p ∧ a * x % p = 1 ∧ ∀ {R : Type} (ret : Int → Int → Option R), field_Inv.f k p a ret = ret x 0 := by
  obtain ⟨k, rfl⟩ : ∃ m, k = m + 1 := ⟨k - 1, by omega⟩
  obtain ⟨x, b, hx, hb⟩ := inv0_spec hp2 hp ha ha' (k := k) (by omega)
  rcases hb with ⟨rfl, h1, h2, h3⟩ | ⟨_, hn⟩
  · refine ⟨x, h1, h2, h3, fun ret => ?_⟩
    simp only [field_Inv.f]
    rw [has_one _ _ (by omega), decide_eq_true ha', okB, decide_eq_true hp2, decide_eq_true hp, hx]
    rfl
  · obtain ⟨c, hc⟩ := h
    exact absurd hc (hn c)

theorem gcd_l0 {k : Nat} {R : Type} (x0 : Int → Option R) (n : Nat) : ∀ (m : Nat) (a b : Nat), (a : Int) * b < 2 ^ n → n < m → b ≤ a →
    affidavitref01_Gcd.L0 k x0 m a b = x0 ((Nat.gcd a b : Nat) : Int) := by
  have stop : ∀ (m a : Nat), affidavitref01_Gcd.L0 k x0 (m + 1) a ((0 : Nat) : Int) = x0 ((Nat.gcd a 0 : Nat) : Int) := by
    intro m a
    simp only [affidavitref01_Gcd.L0, affidavitref01_Gcd.B0]
    rw [show ((0 : Nat) : Int) = 0 from rfl, nF rfl, Nat.gcd_zero_right]
  induction n with
  | zero =>
    intro m a b h hm hba
    obtain ⟨m, rfl⟩ : ∃ j, m = j + 1 := ⟨m - 1, by omega⟩
    have hb0 : b = 0 := by
      apply Classical.byContradiction
      intro hc
      have : (1 : Int) * 1 ≤ (a : Int) * b := Int.mul_le_mul (by omega) (by omega) (by omega) (by omega)
      simp at h
      omega
    subst hb0
    exact stop m a
  | succ n ih =>
    intro m a b h hm hba
    obtain ⟨m, rfl⟩ : ∃ j, m = j + 1 := ⟨m - 1, by omega⟩
    by_cases hb0 : b = 0
    · subst hb0
      exact stop m a
    · have step : affidavitref01_Gcd.L0 k x0 (m + 1) a b = affidavitref01_Gcd.L0 k x0 m (b : Nat) ((a % b : Nat)) := by
        simp only [affidavitref01_Gcd.L0, affidavitref01_Gcd.B0]
        rw [nT (by omega), nT (by omega), Int.tmod_eq_emod_of_nonneg (by omega)]
        rfl
      have hlt := Nat.mod_lt a (show 0 < b by omega)
      rw [step, ih m b (a % b) ?_ (by omega) (by omega), Nat.gcd_comm b, ← Nat.gcd_rec, Nat.gcd_comm]
      have h2 : b + a % b ≤ a := by
        have := Nat.div_add_mod a b
        have h3 : 1 ≤ a / b := by rw [Nat.le_div_iff_mul_le (by omega)]; omega
        have : b * 1 ≤ b * (a / b) := Nat.mul_le_mul_left _ h3
        omega
      exact half_prod (r := (a : Int)) (by omega) (by omega) (by exact_mod_cast h2) h
theorem gcd_spec {a b : Nat} (ha : a < 18446744073709551616) (hb : b ≤ a) {k : Nat} (hk : 140 ≤ k) {R : Type} (ret : Int → Option R) : affidavitref01_Gcd.f k a b ret = ret ((Nat.gcd a b : Nat) : Int) := by
  obtain ⟨k, rfl⟩ : ∃ m, k = m + 1 := ⟨k - 1, by omega⟩
  simp only [affidavitref01_Gcd.f]
  refine gcd_l0 _ 128 k a b ?_ (by omega) hb
  have : (a : Int) * b ≤ 18446744073709551615 * 18446744073709551615 := Int.mul_le_mul (by omega) (by omega) (by omega) (by omega)
  omega
end Go.Proofs.Ytanpdkllnmeenaa.M
namespace Go.Proofs.Ytanpdkllnmeenaa.Am
open Go Fp

theorem pr_mul {q : Nat} (hq : Pr q) {a b : Int} (h : (q : Int) ∣ a * b) : (q : Int) ∣ a ∨ (q : Int) ∣ b := by
  rw [Int.ofNat_dvd_left, Int.natAbs_mul] at h
  rw [Int.ofNat_dvd_left, Int.ofNat_dvd_left]
  exact hq.mul h
theorem dv_dvd {q : Nat} (hq : Pr q) {r : Int} : ∀ (t : Nat) (n v : Int), dv r t n = some v → (q : Int) ∣ n → (q : Int) ∣ r ∨ (q : Int) ∣ v
  | 0, n, v, h, hd => by simp [dv] at h; subst h; exact .inr hd
  | t + 1, n, v, h, hd => by
    simp only [dv] at h
    split at h
    · rename_i hm
      have e : n = r * (n / r) := by
        have := Int.mul_ediv_add_emod n r
        omega
      rw [e] at hd
      rcases pr_mul hq hd with h1 | h1
      · exact .inl h1
      · exact dv_dvd hq t _ v h h1
    · cases h
theorem pl_dvd {q : Nat} (hq : Pr q) : ∀ (l : List (Int × Int)) (n : Int), pl l n = some 1 → (q : Int) ∣ n → ∃ y ∈ l, (q : Int) ∣ y.1
  | [], n, h, hd => by
    simp [pl] at h; subst h
    have := Int.eq_one_of_dvd_one (by omega) hd
    have := hq.1
    omega
  | a :: r, n, h, hd => by
    rw [pl] at h
    by_cases c : 2 ≤ a.1 ∧ 1 ≤ a.2
    · rw [dT c] at h
      cases hd' : dv a.1 a.2.toNat n with
      | none => rw [hd'] at h; cases h
      | some w =>
        rw [hd'] at h
        rcases dv_dvd hq _ _ _ hd' hd with h1 | h1
        · exact ⟨a, List.mem_cons_self, h1⟩
        · obtain ⟨y, hy, hy2⟩ := pl_dvd hq r w h h1
          exact ⟨y, List.mem_cons_of_mem _ hy, hy2⟩
    · rw [dF c] at h; cases h
/-- A prime, as an integer. -/
def PrI (n : Int) : Prop := 2 ≤ n ∧ Pr n.toNat
theorem isB_pr {n : Int} : isB n ↔ PrI n := by
  constructor
  · rintro ⟨h2, h⟩
    refine ⟨h2, Pr.trial (by omega) fun d hd hdd hm => h d (by omega) ?_ ?_⟩
    · have : ((d * d : Nat) : Int) ≤ ((n.toNat : Nat) : Int) := by exact_mod_cast hdd
      rw [Int.toNat_of_nonneg (by omega)] at this
      simpa using this
    · have : ((n.toNat % d : Nat) : Int) = 0 := by rw [hm]; rfl
      rw [Int.natCast_emod, Int.toNat_of_nonneg (by omega)] at this
      exact this
  · rintro ⟨h2, h⟩
    refine ⟨h2, fun e he hee hm => ?_⟩
    refine h.no (d := e.toNat) (by omega) ?_ ?_
    · have : ((e.toNat * e.toNat : Nat) : Int) ≤ n.toNat := by
        rw [Int.natCast_mul, Int.toNat_of_nonneg (by omega), Int.toNat_of_nonneg (by omega)]; exact hee
      exact_mod_cast this
    · have : ((n.toNat % e.toNat : Nat) : Int) = 0 := by
        rw [Int.natCast_emod, Int.toNat_of_nonneg (by omega), Int.toNat_of_nonneg (by omega)]; exact hm
      exact_mod_cast this
end Go.Proofs.Ytanpdkllnmeenaa.Am
namespace Go.Proofs.Ytanpdkllnmeenaa.M
set_option linter.unusedVariables false
set_option maxRecDepth 100000
open Go Go.RowKit Go.Proofs Go.Proofs.Ytanpdkllnmeenaa.Am Fp

theorem pw_nat {p a n : Int} (hp : 0 ≤ p) (ha : 0 ≤ a) : pw p a n = ((a.toNat ^ n.toNat % p.toNat : Nat) : Int) := by
  unfold pw
  rw [Int.natCast_emod, Int.natCast_pow, Int.toNat_of_nonneg ha, Int.toNat_of_nonneg hp]
/-- The root of a proof whose parts are all prime. -/
theorem shows_root {kn : Int → Bool} (hkn : ∀ y, kn y = true → PrI y) {x : Int × Int × List (Int × Int)} (h : showsK kn x = true) :
    formB x = true ∧ x.2.1.toNat ^ (x.1.toNat - 1) % x.1.toNat = 1 ∧ ∀ q, Pr q → q ∣ x.1.toNat - 1 → x.2.1.toNat ^ ((x.1.toNat - 1) / q) % x.1.toNat ≠ 1 := by
  unfold showsK at h
  rw [Bool.and_eq_true, Bool.and_eq_true, List.all_eq_true] at h
  obtain ⟨h1, h2, h3⟩ := h
  obtain ⟨⟨a1, a2, a3, a4, a5, a6⟩, _, hp⟩ := form_facts h1
  have h2 := beq_iff_eq.1 h2
  rw [pw_nat (by omega) (by omega)] at h2
  have e1 : (x.1 - 1).toNat = x.1.toNat - 1 := by omega
  rw [e1] at h2
  refine ⟨h1, by omega, fun q hq hd hc => ?_⟩
  have hd' : (q : Int) ∣ x.1 - 1 := by
    have : (q : Int) ∣ ((x.1.toNat - 1 : Nat) : Int) := Int.natCast_dvd_natCast.2 hd
    have e : ((x.1.toNat - 1 : Nat) : Int) = x.1 - 1 := by omega
    rwa [e] at this
  obtain ⟨y, hy, hqy⟩ := pl_dvd hq _ _ hp hd'
  have h4 := h3 y hy
  rw [Bool.and_eq_true] at h4
  have hpy := hkn _ h4.1
  have hqe : q = y.1.toNat := by
    have : q ∣ y.1.toNat := by
      rw [Int.ofNat_dvd_left] at hqy
      have : y.1.natAbs = y.1.toNat := by have := hpy.1; omega
      rwa [this] at hqy
    rcases hpy.2.2 q this with e | e
    · have := hq.1; omega
    · exact e
  have h5 : ¬ pw x.1 x.2.1 ((x.1 - 1) / y.1) = 1 := fun h => by
    rw [beq_iff_eq.2 h] at h4
    simp at h4
  apply h5
  rw [pw_nat (by omega) (by omega)]
  have hpy1 := hpy.1
  have e2 : ((x.1 - 1) / y.1).toNat = (x.1.toNat - 1) / q := by
    have : (x.1 - 1) / y.1 = (((x.1.toNat - 1) / q : Nat) : Int) := by
      rw [Int.natCast_ediv, hqe, Int.toNat_of_nonneg (by omega)]
      congr 1
      omega
    rw [this, Int.toNat_natCast]
  rw [e2]
  omega
theorem shows_prime {kn : Int → Bool} (hkn : ∀ y, kn y = true → PrI y) {x : Int × Int × List (Int × Int)} (h : showsK kn x = true) : PrI x.1 := by
  obtain ⟨h1, h2, h3⟩ := shows_root hkn h
  obtain ⟨⟨a1, a2, a3, a4, a5, a6⟩, _, hp⟩ := form_facts h1
  exact ⟨by omega, root_prime (by omega) h2 h3⟩

theorem firstFrom_le : ∀ (l : List (Int × Int × List (Int × Int))) (i : Nat) (last : Int) (m : List (Unit × Int × Bool)), i ≤ firstFrom i last l m ∧ firstFrom i last l m ≤ i + l.length
  | [], i, last, m => by rw [firstFrom]; simp
  | x :: r, i, last, m => by
    rw [firstFrom]
    have := firstFrom_le r (i + 1) x.1 (mset m x.1 true)
    rw [List.length_cons]
    cases decide (i < 200) && (decide (i = 0 ∨ last < x.1) && showsB m x)
    · rw [cond_false]; omega
    · rw [cond_true]; omega
theorem firstFrom_cons {x : Int × Int × List (Int × Int)} {r : List (Int × Int × List (Int × Int))} {i : Nat} {last : Int} {m : List (Unit × Int × Bool)} (h : firstFrom i last (x :: r) m = i + (x :: r).length) :
    i < 200 ∧ (i = 0 ∨ last < x.1) ∧ showsB m x = true ∧ firstFrom (i + 1) x.1 r (mset m x.1 true) = (i + 1) + r.length := by
  rw [firstFrom, List.length_cons] at h
  cases hc : decide (i < 200) && (decide (i = 0 ∨ last < x.1) && showsB m x) with
  | false => rw [hc, cond_false] at h; omega
  | true =>
    rw [hc, cond_true] at h
    rw [Bool.and_eq_true, Bool.and_eq_true] at hc
    exact ⟨of_decide_eq_true hc.1, of_decide_eq_true hc.2.1, hc.2.2, by omega⟩
/-- All that a list shows is prime. -/
theorem first_prime : ∀ (l : List (Int × Int × List (Int × Int))) (i : Nat) (last : Int) (m : List (Unit × Int × Bool)), (∀ y, mget false m y = true → PrI y) → firstFrom i last l m = i + l.length →
    ∀ x ∈ l, PrI x.1 ∧ formB x = true ∧ x.2.1.toNat ^ (x.1.toNat - 1) % x.1.toNat = 1 ∧ ∀ q, Pr q → q ∣ x.1.toNat - 1 → x.2.1.toNat ^ ((x.1.toNat - 1) / q) % x.1.toNat ≠ 1
  | [], i, last, m, hm, h, x, hx => by cases hx
  | y :: r, i, last, m, hm, h, x, hx => by
    obtain ⟨_, _, h1, h2⟩ := firstFrom_cons h
    rw [showsB_K] at h1
    have hp := shows_prime hm h1
    rcases List.mem_cons.1 hx with rfl | hx
    · exact ⟨hp, shows_root hm h1⟩
    · refine first_prime r (i + 1) y.1 _ (fun z hz => ?_) h2 x hx
      rw [mget_mset] at hz
      split at hz
      · rename_i e; rw [← e]; exact hp
      · exact hm z hz
theorem two_prime : PrI 2 := ⟨by omega, Fp.trialB_spec (n := 2) (by decide)⟩
theorem known_two : ∀ y, mget false (mset [] 2 true) y = true → PrI y := by
  intro y hy
  rw [mget_mset] at hy
  split at hy
  · rename_i e; rw [← e]; exact two_prime
  · simp [mget] at hy
theorem list_prime {l : List (Int × Int × List (Int × Int))} (h : firstN l = l.length) : ∀ x ∈ l, PrI x.1 ∧ formB x = true ∧ x.2.1.toNat ^ (x.1.toNat - 1) % x.1.toNat = 1 ∧ ∀ q, Pr q → q ∣ x.1.toNat - 1 → x.2.1.toNat ^ ((x.1.toNat - 1) / q) % x.1.toNat ≠ 1 :=
  first_prime l 0 0 _ known_two (by rw [Nat.zero_add]; exact h)
theorem first_take : ∀ (l : List (Int × Int × List (Int × Int))) (j i : Nat) (last : Int) (m : List (Unit × Int × Bool)), firstFrom i last l m = i + l.length → firstFrom i last (l.take j) m = i + (l.take j).length
  | [], j, i, last, m, h => by rw [List.take_nil]; exact h
  | x :: r, 0, i, last, m, h => by rw [List.take_zero, firstFrom]; rfl
  | x :: r, j + 1, i, last, m, h => by
    obtain ⟨h1, h2, h3, h4⟩ := firstFrom_cons h
    rw [List.take_succ_cons, firstFrom, decide_eq_true h1, decide_eq_true h2, h3, Bool.true_and, Bool.true_and, cond_true, first_take r j _ _ _ h4, List.length_cons]
    omega
theorem list_take {l : List (Int × Int × List (Int × Int))} (h : firstN l = l.length) (j : Nat) : firstN (l.take j) = (l.take j).length := by
  have := first_take l j 0 0 _ (by rw [Nat.zero_add]; exact h)
  rwa [Nat.zero_add] at this
/-- Fermat: of a number of a list each power N - 1 is 1. -/
theorem fermat {g N : Nat} (hN : 2 ≤ N) (h1 : g ^ (N - 1) % N = 1) (hq : ∀ q, Pr q → q ∣ N - 1 → g ^ ((N - 1) / q) % N ≠ 1) (a : Nat) (ha0 : 0 < a) (ha : a < N) : a ^ (N - 1) % N = 1 := by
  obtain ⟨i, _, hi⟩ := root_all hN h1 hq a ha0 ha
  rw [← hi, ← Nat.pow_mod, ← Nat.pow_mul, Nat.mul_comm, Nat.pow_mul, Nat.pow_mod, h1, Nat.one_pow, Nat.mod_eq_of_lt (by omega)]
theorem pr_coprime {p a : Nat} (hp : Pr p) (h0 : 0 < a) (h1 : a < p) : Nat.gcd p a = 1 := by
  rw [Nat.gcd_comm]
  exact hp.coprime fun h => by have := Nat.le_of_dvd h0 h; omega
end Go.Proofs.Ytanpdkllnmeenaa.M
namespace Go.Proofs.Ytanpdkllnmeenaa.M
set_option linter.unusedVariables false
set_option maxRecDepth 100000
open Go Go.RowKit Go.Proofs Go.Proofs.Ytanpdkllnmeenaa.Am
theorem short_len {l : List (Int × Int × List (Int × Int))} (h : shortB l = true) : l.length ≤ 40 := by
  unfold shortB at h
  rw [Bool.and_eq_true] at h
  exact of_decide_eq_true h.1
theorem primeRight_true {l : List (Int × Int × List (Int × Int))} (p : Int) (hl : l.length < 281474976710656) (hv : ∀ x ∈ l, 0 ≤ x.2.1 ∧ ∀ y ∈ x.2.2, y.2 < 9223372036854775808) {R : Type} (ret : Bool → Option R) :
    affidavitlaw02_PrimeRight.f 501 l p ret = ret true := by
  rw [show (501 : Nat) = 500 + 1 from rfl, affidavitlaw02_PrimeRight.f, awake_spec (by omega), Bool.not_true, cond_false, short_spec hl (by omega)]
  cases hs : shortB l
  · rw [Bool.not_false, cond_true]
  · have h40 := short_len hs
    rw [Bool.not_true, cond_false, rfirst_spec hl hv (by omega), first_spec hl (by omega), eT rfl, check_spec hl (by omega), shows2_spec _ hl (by omega), rshows_spec _ hl hv (by omega)]
    have e : (((firstN l : Nat) : Int) == (l.length : Int)) = (firstN l == l.length) := by
      by_cases h : firstN l = l.length
      · rw [h]; simp
      · rw [beq_eq_false_iff_ne.2 h, beq_eq_false_iff_ne.2 (by omega)]
    rw [e, beq_self_eq_true, cond_true, beq_self_eq_true]
end Go.Proofs.Ytanpdkllnmeenaa.M
namespace Go.Proofs.Ytanpdkllnmeenaa
open Go Go.Shelf Go.RowKit Go.Lib Go.Proofs
shelf_lay_g SlLaysF0.n6 Slsf 6 at Try 33 as Try.sortProofs
end Go.Proofs.Ytanpdkllnmeenaa
namespace Go.Proofs.Ytanpdkllnmeenaa.M
set_option linter.unusedVariables false
set_option maxRecDepth 100000
open Go Go.RowKit Go.Proofs Go.Proofs.Ytanpdkllnmeenaa.Am Go.Lib
theorem isNaN_call (x : Int) (W : World) : Calls Try.prog 48 #[.int .u64 x] W fun e w' => e = .returned (.bool false) ∧ w' = W := by
  go_enter Try.func48, Try.ntmps48
  go_wp2
  go_ret
  simp
theorem compare_call (x y : Int) (W : World) : Calls Try.prog 35 #[.int .u64 x, .int .u64 y] W fun e w' => e = .returned (.int .i64 (compareInt x y)) ∧ w' = W := by
  have h1 := fun x => isNaN_call x W
  unfold compareInt
  by_cases c1 : x < y
  · rw [if_pos c1]
    go_enter Try.func35, Try.ntmps35
    go_wp2_with (go_at_call 48; refine (h1 _).mono ?_; rintro e w' ⟨rfl, rfl⟩)
    go_ret
    exact ⟨rfl, rfl⟩
  · rw [if_neg c1]
    by_cases c2 : x > y
    · rw [if_pos c2]
      go_enter Try.func35, Try.ntmps35
      go_wp2_with (go_at_call 48; refine (h1 _).mono ?_; rintro e w' ⟨rfl, rfl⟩)
      go_ret
      exact ⟨rfl, rfl⟩
    · rw [if_neg c2]
      go_enter Try.func35, Try.ntmps35
      go_wp2_with (go_at_call 48; refine (h1 _).mono ?_; rintro e w' ⟨rfl, rfl⟩)
      go_ret
      exact ⟨rfl, rfl⟩
theorem build1_call : CmpOk Try.prog 34 tProof (fun x => x.1) := by
  intro W F a b c1 c2 h1 h2
  obtain ⟨x1, x2, rfl, e1, y1, y2, rfl, e2, e3⟩ := h1
  obtain ⟨u1, u2, rfl, g1, v1, v2, rfl, g2, g3⟩ := h2
  have e1 : x1 = [.int .u64 a.1] := e1
  have e2 : y1 = [.int .u64 a.2.1] := e2
  have g1 : u1 = [.int .u64 b.1] := g1
  have g2 : v1 = [.int .u64 b.2.1] := g2
  obtain ⟨A, cap, e3, _⟩ := e3
  obtain ⟨B, cap2, g3, _⟩ := g3
  have e3 : y2 = [.slice A a.2.2.length cap] := e3
  have g3 : v2 = [.slice B b.2.2.length cap2] := g3
  subst e1 e2 e3 g1 g2 g3
  obtain ⟨a1, a2, a3⟩ := a
  obtain ⟨b1, b2, b3⟩ := b
  simp only at *
  have hc := fun W' => compare_call a1 b1 W'
  generalize compareInt a1 b1 = r at hc ⊢
  show Calls Try.prog 34 #[.agg #[.int .u64 a1, .int .u64 a2, .slice A a3.length cap], .agg #[.int .u64 b1, .int .u64 b2, .slice B b3.length cap2]] W _
  go_enter Try.func34, Try.ntmps34
  go_wp2_with (go_at_call 35; refine (hc _).mono ?_; rintro e w' ⟨rfl, rfl⟩)
  go_ret
  exact ⟨rfl, 0, _, by rw [Sort.alloc_eq_grow, Sort.alloc_eq_grow, Sort.grow_grow]; rfl⟩
theorem build1_enters : ∀ args w, (callFunc 34 args).run Try.prog w = .ok (.enter 34 args) w := enters_of Try.func34 (by kernel_rfl) rfl
theorem prOk : PrimsOk Try.prog pr := by
  intro g f p r h1 h2
  have h : ∀ {l : List (Nat × (Pack → Option AV))}, Am.look l g = some f → (g, f) ∈ l := fun h => look_mem h
  have h3 := h (l := [(33, sortF 42 tProof (fun x : tProof.den => x.1) 34)]) h1
  rw [List.mem_singleton] at h3
  injection h3 with e1 e2
  subst e1 e2
  obtain ⟨d, i, z, tk⟩ := cxOk.ty 42 tProof rfl
  obtain ⟨d1, i1, z1, tk1⟩ := cxOk.ty 22 (.sl tProof) rfl
  obtain ⟨_, i2, z2, ek⟩ := tk1.sl tProof rfl rfl
  exact sort_ok Try.sortProofs rfl tk ek rfl rfl build1_enters build1_call h2
end Go.Proofs.Ytanpdkllnmeenaa.M
namespace Go.Proofs.Ytanpdkllnmeenaa.M
set_option linter.unusedVariables false
set_option maxRecDepth 100000
open Go Go.RowKit Go.Proofs Go.Proofs.Ytanpdkllnmeenaa.Am
theorem has_l0 {k : Nat} {R : Type} (x0 : Bool → Option R) (x1 : Int → Option R) (p : Int) {l : List Int} (hl : l.length < 281474976710656) (d : Nat) : ∀ (m i : Nat), i + d = l.length → d < m →
    field_Has.L0 k x0 x1 m p l (l.length : Int) i = bif (l.drop i).all (fun x => decide (x < p)) then x1 p else x0 false := by
  induction d with
  | zero =>
    intro m i hi hm
    obtain ⟨m, rfl⟩ : ∃ j, m = j + 1 := ⟨m - 1, by omega⟩
    simp only [field_Has.L0, field_Has.B0]
    rw [dF (by omega), List.drop_of_length_le (by omega), List.all_nil, cond_true]
  | succ d ih =>
    intro m i hi hm
    obtain ⟨m, rfl⟩ : ∃ j, m = j + 1 := ⟨m - 1, by omega⟩
    simp only [field_Has.L0, field_Has.B0]
    rw [dT (by omega), aT (by omega), Int.toNat_natCast, ix (by omega), ih m (i + 1) (by omega) (by omega), drop_at (i := i) (by omega) (0 : Int), List.all_cons]
    by_cases h : l.getD i (0 : Int) < p
    · rw [dF (by omega), decide_eq_true h, Bool.true_and]
    · rw [dT (by omega), decide_eq_false h, Bool.false_and, cond_false]
/-- Are all numbers of the modulus? -/
def hasB (p : Int) (l : List Int) : Bool := l.all (fun x => decide (x < p)) && okB p
theorem has_spec (p : Int) {l : List Int} (hl : l.length < 281474976710656) {k : Nat} (hk : l.length + 3 ≤ k) {R : Type} (ret : Bool → Option R) : field_Has.f k p l ret = ret (hasB p l) := by
  obtain ⟨k, rfl⟩ : ∃ m, k = m + 1 := ⟨k - 1, by omega⟩
  simp only [field_Has.f]
  have := has_l0 (k := k) (fun t4 => ret t4) (fun p2 => field_Right.f k p2 (fun b => ret b)) p hl l.length k 0 (by omega) (by omega)
  rw [show ((0 : Nat) : Int) = 0 from rfl, List.drop_zero] at this
  rw [this, right_spec _ (by omega)]
  unfold hasB
  cases l.all (fun x => decide (x < p))
  · rw [cond_false, Bool.false_and]
  · rw [cond_true, Bool.true_and]
/-- field.Mul of numbers of the modulus. -/
theorem fMul_spec {p a b : Int} (hp2 : 2 ≤ p) (hp : p < 9223372036854775808) (ha : 0 ≤ a) (ha' : a < p) (hb : 0 ≤ b) (hb' : b < p) {k : Nat} (hk : 10 ≤ k) {R : Type} (ret : Int → Int → Option R) : field_Mul.f k p a b ret = ret (a * b % p) 0 := by
  obtain ⟨k, rfl⟩ : ∃ m, k = m + 2 := ⟨k - 2, by omega⟩
  simp only [field_Mul.f, field_two.f]
  have : hasB p [a, b] = true := by
    unfold hasB okB
    simp only [List.all_cons, List.all_nil, Bool.and_true, Bool.and_eq_true, decide_eq_true_eq]
    omega
  rw [has_spec p (by simp) (by simp; omega), this, Bool.not_true, cond_false, mul_spec (by omega) (by omega) ha (by omega) hb (by omega) (by omega)]
end Go.Proofs.Ytanpdkllnmeenaa.M
set_option linter.unusedVariables false
namespace Fp

/-- The sum of f 0, .., f (n - 1). -/
def sm {p : Nat} [NeZero p] : Nat → (Nat → Fin p) → Fin p
  | 0, _ => 0
  | n + 1, f => sm n f + f n

section
variable {p : Nat} [NeZero p]

theorem sm_zero (f : Nat → Fin p) : sm 0 f = 0 := rfl
theorem sm_succ (n : Nat) (f : Nat → Fin p) : sm (n + 1) f = sm n f + f n := rfl

theorem sm_congr {n : Nat} {f g : Nat → Fin p} (h : ∀ i, i < n → f i = g i) : sm n f = sm n g := by
  induction n with
  | zero => rfl
  | succ n ih =>
    rw [sm_succ, sm_succ, ih (fun i hi => h i (by omega)), h n (by omega)]

theorem sm_eq_zero {n : Nat} {f : Nat → Fin p} (h : ∀ i, i < n → f i = 0) : sm n f = 0 := by
  induction n with
  | zero => rfl
  | succ n ih =>
    rw [sm_succ, ih (fun i hi => h i (by omega)), h n (by omega)]
    grind

theorem sm_add (n : Nat) (f g : Nat → Fin p) : sm n (fun i => f i + g i) = sm n f + sm n g := by
  induction n with
  | zero => rw [sm_zero, sm_zero, sm_zero]; grind
  | succ n ih => rw [sm_succ, sm_succ, sm_succ, ih]; grind

theorem sm_sub (n : Nat) (f g : Nat → Fin p) : sm n (fun i => f i - g i) = sm n f - sm n g := by
  induction n with
  | zero => rw [sm_zero, sm_zero, sm_zero]; grind
  | succ n ih => rw [sm_succ, sm_succ, sm_succ, ih]; grind

theorem sm_neg (n : Nat) (f : Nat → Fin p) : sm n (fun i => - f i) = - sm n f := by
  induction n with
  | zero => rw [sm_zero, sm_zero]; grind
  | succ n ih => rw [sm_succ, sm_succ, ih]; grind

theorem sm_mul (n : Nat) (c : Fin p) (f : Nat → Fin p) : sm n (fun i => c * f i) = c * sm n f := by
  induction n with
  | zero => rw [sm_zero, sm_zero]; grind
  | succ n ih => rw [sm_succ, sm_succ, ih]; grind

theorem sm_mul_right (n : Nat) (c : Fin p) (f : Nat → Fin p) : sm n (fun i => f i * c) = sm n f * c := by
  induction n with
  | zero => rw [sm_zero, sm_zero]; grind
  | succ n ih => rw [sm_succ, sm_succ, ih]; grind

/-- The first one apart. -/
theorem sm_first (n : Nat) (f : Nat → Fin p) : sm (n + 1) f = f 0 + sm n (fun i => f (i + 1)) := by
  induction n with
  | zero => rw [sm_succ, sm_zero, sm_zero]; grind
  | succ n ih => rw [sm_succ, ih, sm_succ]; grind

theorem sm_append (n m : Nat) (f : Nat → Fin p) : sm (n + m) f = sm n f + sm m (fun i => f (n + i)) := by
  induction m with
  | zero => rw [sm_zero, Nat.add_zero]; grind
  | succ m ih => rw [Nat.add_succ, sm_succ, ih, sm_succ]; grind

/-- What stands behind place n adds nothing. -/
theorem sm_more {n m : Nat} (hm : n ≤ m) {f : Nat → Fin p} (h : ∀ i, n ≤ i → i < m → f i = 0) : sm m f = sm n f := by
  obtain ⟨k, rfl⟩ := Nat.exists_eq_add_of_le hm
  rw [sm_append, sm_eq_zero (n := k) (fun i hi => h (n + i) (by omega) (by omega))]
  grind

theorem sm_rev (n : Nat) (f : Nat → Fin p) : sm n (fun i => f (n - 1 - i)) = sm n f := by
  induction n with
  | zero => rfl
  | succ n ih =>
    rw [sm_first, sm_succ, ← ih]
    rw [sm_congr (f := fun i => f (n + 1 - 1 - (i + 1))) (g := fun i => f (n - 1 - i)) (fun i hi => by congr 1; omega)]
    have : n + 1 - 1 - 0 = n := by omega
    rw [this]
    grind

theorem sm_swap (n m : Nat) (f : Nat → Nat → Fin p) : sm n (fun i => sm m (f i)) = sm m (fun j => sm n (fun i => f i j)) := by
  induction n with
  | zero => exact (sm_eq_zero (fun _ _ => rfl)).symm
  | succ n ih =>
    rw [sm_succ, ih, ← sm_add]
    rfl

/-- One alone. -/
theorem sm_one {n : Nat} (k : Nat) (hk : k < n) {f : Nat → Fin p} (h : ∀ i, i < n → i ≠ k → f i = 0) : sm n f = f k := by
  induction n with
  | zero => omega
  | succ n ih =>
    rw [sm_succ]
    by_cases e : k = n
    · subst e
      rw [sm_eq_zero (fun i hi => h i (by omega) (by omega))]
      grind
    · rw [ih (by omega) (fun i hi hik => h i (by omega) hik), h n (by omega) (by omega)]
      grind

/-- A triangle, gone through by rows and by columns. -/
theorem sm_triangle (n : Nat) (f : Nat → Nat → Fin p) : sm n (fun i => sm (i + 1) (fun j => f j (i - j))) = sm n (fun j => sm (n - j) (fun k => f j k)) := by
  induction n with
  | zero => rfl
  | succ n ih =>
    rw [sm_succ, ih]
    have h1 : sm (n + 1) (fun j => sm (n + 1 - j) (fun k => f j k)) = sm (n + 1) (fun j => sm (n - j) (fun k => f j k) + f j (n - j)) := by
      refine sm_congr fun j hj => ?_
      have : n + 1 - j = (n - j) + 1 := by omega
      rw [this, sm_succ]
    rw [h1, sm_add, sm_succ n (fun j => sm (n - j) (fun k => f j k))]
    have h2 : n - n = 0 := by omega
    rw [h2, sm_zero]
    grind
end
end Fp

namespace Fp
open Classical

/-- A polynomial: its number at each power; from somewhere on 0. -/
structure Pl (p : Nat) [NeZero p] where
  co : Nat → Fin p
  fin : ∃ n, ∀ i, n ≤ i → co i = 0

section
variable {p : Nat} [NeZero p]

def cv (f g : Nat → Fin p) (n : Nat) : Fin p := sm (n + 1) (fun i => f i * g (n - i))

theorem cv_comm (f g : Nat → Fin p) (n : Nat) : cv f g n = cv g f n := by
  unfold cv
  rw [← sm_rev]
  refine sm_congr fun i hi => ?_
  have h1 : n + 1 - 1 - i = n - i := by omega
  have h2 : n - (n - i) = i := by omega
  rw [h1, h2]
  grind

theorem cv_assoc (f g h : Nat → Fin p) (n : Nat) : cv (cv f g) h n = cv f (cv g h) n := by
  have h1 : cv (cv f g) h n = sm (n + 1) (fun i => sm (i + 1) (fun j => f j * g (i - j) * h (n - j - (i - j)))) := by
    unfold cv
    refine sm_congr fun i hi => ?_
    rw [← sm_mul_right]
    refine sm_congr fun j hj => ?_
    have : n - j - (i - j) = n - i := by omega
    rw [this]
  rw [h1, sm_triangle (n + 1) (fun j k => f j * g k * h (n - j - k))]
  unfold cv
  refine sm_congr fun j hj => ?_
  rw [← sm_mul]
  have : n + 1 - j = n - j + 1 := by omega
  rw [this]
  refine sm_congr fun k hk => ?_
  grind

theorem cv_add (f g h : Nat → Fin p) (n : Nat) : cv f (fun i => g i + h i) n = cv f g n + cv f h n := by
  unfold cv
  rw [← sm_add]
  exact sm_congr fun i _ => by grind

theorem cv_bound {f g : Nat → Fin p} {a b : Nat} (hf : ∀ i, a ≤ i → f i = 0) (hg : ∀ i, b ≤ i → g i = 0) (i : Nat) (hi : a + b ≤ i + 1) : cv f g i = 0 := by
  unfold cv
  refine sm_eq_zero fun j hj => ?_
  by_cases h : a ≤ j
  · rw [hf j h]; grind
  · rw [hg (i - j) (by omega)]; grind

theorem cv_top {f g : Nat → Fin p} {a b : Nat} (hf : ∀ i, a < i → f i = 0) (hg : ∀ i, b < i → g i = 0) : cv f g (a + b) = f a * g b := by
  unfold cv
  rw [sm_one a (by omega) (fun j hj hja => ?_)]
  · have : a + b - a = b := by omega
    rw [this]
  · by_cases h : a < j
    · rw [hf j h]; grind
    · rw [hg (a + b - j) (by omega)]; grind

namespace Pl

theorem ext {f g : Pl p} (h : ∀ i, f.co i = g.co i) : f = g := by
  cases f; cases g; congr 1; exact funext h

instance : Zero (Pl p) := ⟨⟨fun _ => 0, 0, fun _ _ => rfl⟩⟩
/-- A number alone. -/
def C (c : Fin p) : Pl p := ⟨fun i => if i = 0 then c else 0, 1, fun i hi => by show (if i = 0 then c else 0) = _; rw [if_neg (by omega)]⟩
instance : One (Pl p) := ⟨C 1⟩
/-- A number at one power. -/
def T (c : Fin p) (n : Nat) : Pl p := ⟨fun i => if i = n then c else 0, n + 1, fun i hi => by show (if i = n then c else 0) = _; rw [if_neg (by omega)]⟩
instance : Add (Pl p) := ⟨fun f g => ⟨fun i => f.co i + g.co i, by
  obtain ⟨n, hn⟩ := f.fin; obtain ⟨m, hm⟩ := g.fin
  exact ⟨n + m, fun i hi => by show f.co i + g.co i = 0; rw [hn i (by omega), hm i (by omega)]; grind⟩⟩⟩
instance : Sub (Pl p) := ⟨fun f g => ⟨fun i => f.co i - g.co i, by
  obtain ⟨n, hn⟩ := f.fin; obtain ⟨m, hm⟩ := g.fin
  exact ⟨n + m, fun i hi => by show f.co i - g.co i = 0; rw [hn i (by omega), hm i (by omega)]; grind⟩⟩⟩
instance : Neg (Pl p) := ⟨fun f => ⟨fun i => - f.co i, by
  obtain ⟨n, hn⟩ := f.fin
  exact ⟨n, fun i hi => by show - f.co i = 0; rw [hn i (by omega)]; grind⟩⟩⟩
instance : Mul (Pl p) := ⟨fun f g => ⟨cv f.co g.co, by
  obtain ⟨n, hn⟩ := f.fin; obtain ⟨m, hm⟩ := g.fin
  exact ⟨n + m, fun i hi => cv_bound hn hm i (by omega)⟩⟩⟩

theorem zero_at (i : Nat) : (0 : Pl p).co i = 0 := rfl
theorem C_at (c : Fin p) (i : Nat) : (C c).co i = if i = 0 then c else 0 := rfl
theorem one_at (i : Nat) : (1 : Pl p).co i = if i = 0 then 1 else 0 := rfl
theorem T_at (c : Fin p) (n i : Nat) : (T c n).co i = if i = n then c else 0 := rfl
theorem add_at (f g : Pl p) (i : Nat) : (f + g).co i = f.co i + g.co i := rfl
theorem sub_at (f g : Pl p) (i : Nat) : (f - g).co i = f.co i - g.co i := rfl
theorem neg_at (f : Pl p) (i : Nat) : (-f).co i = - f.co i := rfl
theorem mul_at (f g : Pl p) (i : Nat) : (f * g).co i = cv f.co g.co i := rfl

theorem add_comm (f g : Pl p) : f + g = g + f := ext fun i => by rw [add_at, add_at]; grind
theorem add_assoc (f g h : Pl p) : f + g + h = f + (g + h) := ext fun i => by simp only [add_at]; grind
theorem add_zero (f : Pl p) : f + 0 = f := ext fun i => by rw [add_at, zero_at]; grind
theorem zero_add (f : Pl p) : 0 + f = f := by rw [add_comm, add_zero]
theorem add_neg (f : Pl p) : f + -f = 0 := ext fun i => by rw [add_at, neg_at, zero_at]; grind
theorem sub_eq (f g : Pl p) : f - g = f + -g := ext fun i => by rw [sub_at, add_at, neg_at]; grind
theorem mul_comm (f g : Pl p) : f * g = g * f := ext fun i => cv_comm _ _ i
theorem mul_assoc (f g h : Pl p) : f * g * h = f * (g * h) := ext fun i => cv_assoc _ _ _ i
theorem mul_add (f g h : Pl p) : f * (g + h) = f * g + f * h := ext fun i => cv_add _ _ _ i
theorem add_mul (f g h : Pl p) : (f + g) * h = f * h + g * h := by rw [mul_comm, mul_add, mul_comm h f, mul_comm h g]
theorem C_mul_at (c : Fin p) (f : Pl p) (i : Nat) : (C c * f).co i = c * f.co i := by
  rw [mul_at]
  unfold cv
  rw [sm_one 0 (by omega) (fun j _ hj => by rw [C_at, if_neg hj]; grind)]
  rw [C_at, if_pos rfl]
  rfl
theorem one_mul (f : Pl p) : 1 * f = f := ext fun i => by
  show (C 1 * f).co i = f.co i
  rw [C_mul_at]; grind
theorem mul_one (f : Pl p) : f * 1 = f := by rw [mul_comm, one_mul]
theorem zero_mul (f : Pl p) : 0 * f = 0 := ext fun i => by
  rw [mul_at, zero_at]; unfold cv
  exact sm_eq_zero fun j _ => by rw [zero_at]; grind
theorem mul_zero (f : Pl p) : f * 0 = 0 := by rw [mul_comm, zero_mul]
theorem neg_mul (f g : Pl p) : -f * g = -(f * g) := ext fun i => by
  rw [neg_at, mul_at, mul_at]; unfold cv
  rw [← sm_neg]
  exact sm_congr fun j _ => by rw [neg_at]; grind
theorem mul_neg (f g : Pl p) : f * -g = -(f * g) := by rw [mul_comm, neg_mul, mul_comm]
theorem mul_sub (f g h : Pl p) : f * (g - h) = f * g - f * h := by rw [sub_eq, mul_add, mul_neg, ← sub_eq]
theorem sub_mul (f g h : Pl p) : (f - g) * h = f * h - g * h := by rw [mul_comm, mul_sub, mul_comm h f, mul_comm h g]
theorem neg_add (f g : Pl p) : -(f + g) = -f + -g := ext fun i => by simp only [neg_at, add_at]; grind
theorem neg_neg (f : Pl p) : - -f = f := ext fun i => by simp only [neg_at]; grind
theorem neg_zero : -(0 : Pl p) = 0 := ext fun i => by simp only [neg_at, zero_at]; grind
theorem sub_self (f : Pl p) : f - f = 0 := by rw [sub_eq, add_neg]
theorem sub_zero (f : Pl p) : f - 0 = f := by rw [sub_eq, neg_zero, add_zero]
theorem add_sub_cancel (f g : Pl p) : f + g - g = f := by rw [sub_eq, add_assoc, add_neg, add_zero]
theorem sub_add_cancel (f g : Pl p) : f - g + g = f := by rw [sub_eq, add_assoc, add_comm (-g), add_neg, add_zero]
theorem eq_of_sub {f g : Pl p} (h : f - g = 0) : f = g := by rw [← sub_add_cancel f g, h, zero_add]
theorem C_mul (c d : Fin p) : C c * C d = C (c * d) := ext fun i => by
  rw [C_mul_at, C_at, C_at]; split <;> grind
theorem C_one : C (1 : Fin p) = 1 := rfl
theorem C_zero : C (0 : Fin p) = 0 := ext fun i => by rw [C_at, zero_at]; split <;> rfl
theorem T_eq (c : Fin p) (n : Nat) : T c n = C c * T 1 n := ext fun i => by rw [C_mul_at, T_at, T_at]; split <;> grind
theorem T_mul_at (c : Fin p) (n : Nat) (f : Pl p) (i : Nat) : (T c n * f).co i = if n ≤ i then c * f.co (i - n) else 0 := by
  rw [mul_at]; unfold cv
  by_cases h : n ≤ i
  · rw [if_pos h, sm_one n (by omega) (fun j _ hj => by rw [T_at, if_neg hj]; grind), T_at, if_pos rfl]
  · rw [if_neg h]
    exact sm_eq_zero fun j hj => by rw [T_at, if_neg (by omega)]; grind

instance : Std.Commutative (α := Pl p) (· * ·) := ⟨mul_comm⟩
instance : Std.Associative (α := Pl p) (· * ·) := ⟨mul_assoc⟩
instance : Std.Commutative (α := Pl p) (· + ·) := ⟨add_comm⟩
instance : Std.Associative (α := Pl p) (· + ·) := ⟨add_assoc⟩

/-! ### Sizes: one more than the degree; 0 for 0 -/
noncomputable def sz (f : Pl p) : Nat := Classical.choose (least _ f.fin)
theorem sz_zero_from (f : Pl p) {i : Nat} (h : sz f ≤ i) : f.co i = 0 := (Classical.choose_spec (least _ f.fin)).1 i h
theorem sz_le {f : Pl p} {n : Nat} (h : ∀ i, n ≤ i → f.co i = 0) : sz f ≤ n := by
  apply Nat.le_of_not_lt
  intro hlt
  exact (Classical.choose_spec (least _ f.fin)).2 n hlt h
theorem sz_top {f : Pl p} {d : Nat} (h : sz f = d + 1) : f.co d ≠ 0 := by
  intro h0
  have : sz f ≤ d := sz_le fun i hi => by
    by_cases e : i = d
    · rw [e]; exact h0
    · exact sz_zero_from f (by omega)
  omega
theorem sz_eq {f : Pl p} {d : Nat} (h0 : f.co d ≠ 0) (h : ∀ i, d < i → f.co i = 0) : sz f = d + 1 := by
  have h1 : sz f ≤ d + 1 := sz_le fun i hi => h i (by omega)
  have h2 : ¬ sz f ≤ d := fun hle => h0 (sz_zero_from f hle)
  omega
theorem lt_sz {f : Pl p} {d : Nat} (h0 : f.co d ≠ 0) : d < sz f := Nat.lt_of_not_le fun hle => h0 (sz_zero_from f hle)
theorem sz_zero : sz (0 : Pl p) = 0 := Nat.le_zero.1 (sz_le fun _ _ => rfl)
theorem eq_zero {f : Pl p} (h : sz f = 0) : f = 0 := ext fun i => sz_zero_from f (by omega)
theorem sz_pos {f : Pl p} (h : f ≠ 0) : 0 < sz f := Nat.pos_of_ne_zero fun e => h (eq_zero e)
/-- The number at the greatest power. -/
noncomputable def top (f : Pl p) : Fin p := f.co (sz f - 1)
theorem top_ne {f : Pl p} (h : f ≠ 0) : top f ≠ 0 := sz_top (d := sz f - 1) (by have := sz_pos h; omega)
theorem sz_add_le (f g : Pl p) : sz (f + g) ≤ max (sz f) (sz g) := sz_le fun i hi => by
  rw [add_at, sz_zero_from f (by omega), sz_zero_from g (by omega)]; grind
theorem sz_sub_le (f g : Pl p) : sz (f - g) ≤ max (sz f) (sz g) := sz_le fun i hi => by
  rw [sub_at, sz_zero_from f (by omega), sz_zero_from g (by omega)]; grind
theorem sz_mul_le (f g : Pl p) : sz (f * g) ≤ sz f + sz g - 1 := sz_le fun i hi =>
  cv_bound (a := sz f) (b := sz g) (fun j hj => sz_zero_from f hj) (fun j hj => sz_zero_from g hj) i (by omega)
theorem sz_neg (f : Pl p) : sz (-f) = sz f := by
  apply Nat.le_antisymm
  · exact sz_le fun i hi => by rw [neg_at, sz_zero_from f hi]; grind
  · exact sz_le fun i hi => by
      have := sz_zero_from (-f) hi
      rw [neg_at] at this
      grind
theorem sz_C_le (c : Fin p) : sz (C c) ≤ 1 := sz_le fun i hi => by rw [C_at, if_neg (by omega)]
theorem eq_C {f : Pl p} (h : sz f ≤ 1) : f = C (f.co 0) := ext fun i => by
  rw [C_at]
  split
  · rename_i e; rw [e]
  · exact sz_zero_from f (by omega)

/-! ### Values -/
def pw (x : Fin p) : Nat → Fin p
  | 0 => 1
  | n + 1 => pw x n * x
theorem pw_add (x : Fin p) (n m : Nat) : pw x (n + m) = pw x n * pw x m := by
  induction m with
  | zero => rw [Nat.add_zero, pw]; grind
  | succ m ih => rw [Nat.add_succ, pw, pw, ih]; grind
noncomputable def ev (f : Pl p) (x : Fin p) : Fin p := sm (sz f) (fun i => f.co i * pw x i)
theorem ev_bound (f : Pl p) (x : Fin p) {n : Nat} (h : ∀ i, n ≤ i → f.co i = 0) : ev f x = sm n (fun i => f.co i * pw x i) :=
  (sm_more (sz_le h) (fun i hi _ => by rw [sz_zero_from f hi]; grind)).symm
theorem ev_add (f g : Pl p) (x : Fin p) : ev (f + g) x = ev f x + ev g x := by
  have hf : ∀ i, max (sz f) (sz g) ≤ i → f.co i = 0 := fun i hi => sz_zero_from f (by omega)
  have hg : ∀ i, max (sz f) (sz g) ≤ i → g.co i = 0 := fun i hi => sz_zero_from g (by omega)
  rw [ev_bound f x hf, ev_bound g x hg, ev_bound (f + g) x (n := max (sz f) (sz g)) (fun i hi => by rw [add_at, hf i hi, hg i hi]; grind), ← sm_add]
  exact sm_congr fun i _ => by rw [add_at]; grind
theorem ev_mul (f g : Pl p) (x : Fin p) : ev (f * g) x = ev f x * ev g x := by
  rw [ev_bound (f * g) x (n := sz f + sz g) (fun i hi => cv_bound (fun j hj => sz_zero_from f hj) (fun j hj => sz_zero_from g hj) i (by omega))]
  have h1 : sm (sz f + sz g) (fun i => (f * g).co i * pw x i) = sm (sz f + sz g) (fun i => sm (i + 1) (fun j => (fun j k => f.co j * pw x j * (g.co k * pw x k)) j (i - j))) := by
    refine sm_congr fun i hi => ?_
    rw [mul_at]
    unfold cv
    rw [← sm_mul_right]
    refine sm_congr fun j hj => ?_
    have : i = j + (i - j) := by omega
    have e : pw x i = pw x j * pw x (i - j) := by rw [← pw_add]; congr 1
    rw [e]
    show _ = f.co j * pw x j * (g.co (i - j) * pw x (i - j))
    grind
  rw [h1, sm_triangle (sz f + sz g) (fun j k => f.co j * pw x j * (g.co k * pw x k)), sm_append]
  have h2 : sm (sz g) (fun i => (fun j => sm (sz f + sz g - j) (fun k => (fun j k => f.co j * pw x j * (g.co k * pw x k)) j k)) (sz f + i)) = 0 := by
    refine sm_eq_zero fun i _ => sm_eq_zero fun k _ => ?_
    show f.co (sz f + i) * pw x (sz f + i) * (g.co k * pw x k) = 0
    rw [sz_zero_from f (by omega)]; grind
  rw [h2]
  have h3 : sm (sz f) (fun j => sm (sz f + sz g - j) (fun k => (fun j k => f.co j * pw x j * (g.co k * pw x k)) j k)) = sm (sz f) (fun j => f.co j * pw x j * ev g x) := by
    refine sm_congr fun j hj => ?_
    show sm (sz f + sz g - j) (fun k => f.co j * pw x j * (g.co k * pw x k)) = _
    rw [sm_mul, ev_bound g x (n := sz f + sz g - j) (fun i hi => sz_zero_from g (by omega))]
  rw [h3, sm_mul_right]
  show ev f x * ev g x + 0 = _
  grind
theorem ev_C (c x : Fin p) : ev (C c) x = c := by
  rw [ev_bound (C c) x (n := 1) (fun i hi => by rw [C_at, if_neg (by omega)])]
  rw [sm_succ, sm_zero, C_at, if_pos rfl, pw]
  grind
theorem ev_zero (x : Fin p) : ev 0 x = 0 := by rw [← C_zero, ev_C]
theorem ev_T1 (c x : Fin p) : ev (T c 1) x = c * x := by
  rw [ev_bound (T c 1) x (n := 2) (fun i hi => by rw [T_at, if_neg (by omega)]), sm_succ, sm_succ, sm_zero, T_at, T_at, if_neg (by omega), if_pos rfl, pw, pw, pw]
  grind

/-! ### Over a field -/
/-- Every number but 0 has an inverse. -/
def Fld (p : Nat) [NeZero p] : Prop := (0 : Fin p) ≠ 1 ∧ ∀ a : Fin p, a ≠ 0 → ∃ b, a * b = 1
theorem Fld.mul_ne (hp : Fld p) {a b : Fin p} (ha : a ≠ 0) (hb : b ≠ 0) : a * b ≠ 0 := by
  obtain ⟨c, hc⟩ := hp.2 a ha
  intro h
  apply hb
  have : c * (a * b) = 0 := by rw [h]; grind
  grind
theorem sz_mul (hp : Fld p) {f g : Pl p} (hf : f ≠ 0) (hg : g ≠ 0) : sz (f * g) + 1 = sz f + sz g := by
  have h1 := sz_pos hf
  have h2 := sz_pos hg
  have ht : (f * g).co (sz f - 1 + (sz g - 1)) = top f * top g := cv_top (fun i hi => sz_zero_from f (by omega)) (fun i hi => sz_zero_from g (by omega))
  have := sz_eq (f := f * g) (d := sz f - 1 + (sz g - 1)) (by rw [ht]; exact hp.mul_ne (top_ne hf) (top_ne hg))
    (fun i hi => cv_bound (fun j hj => sz_zero_from f hj) (fun j hj => sz_zero_from g hj) i (by omega))
  omega
theorem mul_ne (hp : Fld p) {f g : Pl p} (hf : f ≠ 0) (hg : g ≠ 0) : f * g ≠ 0 := by
  intro h
  have h1 := sz_mul hp hf hg
  rw [h, sz_zero] at h1
  have := sz_pos hf
  have := sz_pos hg
  omega
theorem top_mul (hp : Fld p) {f g : Pl p} (hf : f ≠ 0) (hg : g ≠ 0) : top (f * g) = top f * top g := by
  have h := sz_mul hp hf hg
  have h1 := sz_pos hf
  have h2 := sz_pos hg
  have ht : (f * g).co (sz f - 1 + (sz g - 1)) = top f * top g := cv_top (fun i hi => sz_zero_from f (by omega)) (fun i hi => sz_zero_from g (by omega))
  rw [← ht]
  unfold top
  congr 1
  omega
theorem cancel (hp : Fld p) {f g h : Pl p} (hf : f ≠ 0) (e : f * g = f * h) : g = h := by
  apply eq_of_sub
  apply Classical.byContradiction
  intro hne
  exact mul_ne hp hf hne (by rw [mul_sub, e, sub_self])

/-- Divides. -/
def Dv (f g : Pl p) : Prop := ∃ h, g = f * h
theorem Dv.refl (f : Pl p) : Dv f f := ⟨1, (mul_one f).symm⟩
theorem Dv.trans {f g h : Pl p} : Dv f g → Dv g h → Dv f h
  | ⟨a, ha⟩, ⟨b, hb⟩ => ⟨a * b, by rw [hb, ha, mul_assoc]⟩
theorem Dv.zero (f : Pl p) : Dv f 0 := ⟨0, (mul_zero f).symm⟩
theorem Dv.add {f g h : Pl p} : Dv f g → Dv f h → Dv f (g + h)
  | ⟨a, ha⟩, ⟨b, hb⟩ => ⟨a + b, by rw [mul_add, ← ha, ← hb]⟩
theorem Dv.sub {f g h : Pl p} : Dv f g → Dv f h → Dv f (g - h)
  | ⟨a, ha⟩, ⟨b, hb⟩ => ⟨a - b, by rw [mul_sub, ← ha, ← hb]⟩
theorem Dv.mul_left {f g : Pl p} (h : Pl p) : Dv f g → Dv f (h * g)
  | ⟨a, ha⟩ => ⟨h * a, by rw [ha, ← mul_assoc, ← mul_assoc, mul_comm h f]⟩
theorem Dv.mul_right {f g : Pl p} (h : Pl p) (hd : Dv f g) : Dv f (g * h) := by rw [mul_comm]; exact hd.mul_left h
theorem Dv.of_mul (f g : Pl p) : Dv f (f * g) := ⟨g, rfl⟩
theorem Dv.of_mul' (f g : Pl p) : Dv f (g * f) := ⟨g, mul_comm _ _⟩
theorem Dv.eq_zero {g : Pl p} : Dv 0 g → g = 0
  | ⟨a, ha⟩ => by rw [ha, zero_mul]
theorem Dv.sz_le (hp : Fld p) {f g : Pl p} (h : Dv f g) (hg : g ≠ 0) : sz f ≤ sz g := by
  obtain ⟨a, rfl⟩ := h
  have hf : f ≠ 0 := fun e => hg (by rw [e, zero_mul])
  have ha : a ≠ 0 := fun e => hg (by rw [e, mul_zero])
  have := sz_mul hp hf ha
  have := sz_pos ha
  omega
/-- What divides each other, and begins with the same, is the same. -/
theorem Dv.antisymm (hp : Fld p) {f g : Pl p} (h1 : Dv f g) (h2 : Dv g f) (ht : top f = top g) : f = g := by
  by_cases hf : f = 0
  · subst hf; exact h1.eq_zero.symm
  · have hg : g ≠ 0 := fun e => hf (by subst e; exact h2.eq_zero)
    obtain ⟨a, ha⟩ := h1
    have ha0 : a ≠ 0 := fun e => hg (by rw [ha, e, mul_zero])
    have hs := h2.sz_le hp hf
    have hm := sz_mul hp hf ha0
    rw [← ha] at hm
    have hone : sz a ≤ 1 := by omega
    have hC := eq_C hone
    have htop := top_mul hp hf ha0
    rw [← ha] at htop
    have hta : top a = a.co 0 := by unfold top; congr 1; omega
    rw [hta, ← ht] at htop
    have hne := top_ne hf
    obtain ⟨b, hb⟩ := hp.2 _ hne
    have : a.co 0 = 1 := by grind
    rw [ha, hC, this]
    show f = f * 1
    rw [mul_one]
/-- A quotient and rest are the only ones. -/
theorem div_unique (hp : Fld p) {b q r q' r' : Pl p} (hr : sz r < sz b) (hr' : sz r' < sz b) (h : q * b + r = q' * b + r') : q = q' ∧ r = r' := by
  have hb : b ≠ 0 := fun e => by rw [e, sz_zero] at hr; omega
  have e : (q - q') * b = r' - r := by
    have : q * b + r - q' * b - r = q' * b + r' - q' * b - r := by rw [h]
    rw [sub_mul]
    calc q * b - q' * b = q * b + r - q' * b - r := by simp only [sub_eq]; rw [add_assoc (q * b) r, add_comm r, ← add_assoc (q * b), add_assoc _ r, add_neg, add_zero]
      _ = q' * b + r' - q' * b - r := this
      _ = r' - r := by rw [add_comm (q' * b) r', add_sub_cancel]
  by_cases hq : q - q' = 0
  · have hq' := eq_of_sub hq
    rw [hq, zero_mul] at e
    exact ⟨hq', (eq_of_sub e.symm).symm⟩
  · exfalso
    have := sz_mul hp hq hb
    rw [e] at this
    have := sz_sub_le r' r
    have := sz_pos hq
    omega
end Pl
end
end Fp

namespace Fp
theorem Pr.inv {p : Nat} [NeZero p] (hp : Pr p) (a : Fin p) (ha : a ≠ 0) : ∃ b, a * b = 1 := by
  have hav : a.val ≠ 0 := fun h => ha (Fin.ext (by rw [h]; rfl))
  have hnd : ¬ p ∣ a.val := fun h => by
    have := Nat.le_of_dvd (by omega) h
    have := a.isLt
    omega
  obtain ⟨x, y, h⟩ := bez a.val p
  rw [hp.coprime hnd] at h
  have hpp : (0 : Int) < p := by have := hp.1; omega
  refine ⟨Fin.ofNat p (x % p).toNat, Fin.ext ?_⟩
  rw [Fin.val_mul]
  show (a.val * ((x % p).toNat % p)) % p = 1 % p
  have hx0 := Int.emod_nonneg x (by omega : (p : Int) ≠ 0)
  have hx1 := Int.emod_lt_of_pos x hpp
  have e1 : (x % p).toNat % p = (x % p).toNat := Nat.mod_eq_of_lt (by omega)
  rw [e1]
  have e2 : (((a.val * (x % p).toNat) % p : Nat) : Int) = ((1 % p : Nat) : Int) := by
    rw [Int.natCast_emod, Int.natCast_mul, Int.toNat_of_nonneg hx0, Int.natCast_emod]
    rw [Int.mul_emod, Int.emod_emod_of_dvd _ (Int.dvd_refl _), ← Int.mul_emod]
    have : (a.val : Int) * x = 1 + p * (-y) := by grind
    rw [this, Int.add_mul_emod_self_left]
    rfl
  exact_mod_cast e2
theorem Pr.fld {p : Nat} [NeZero p] (hp : Pr p) : Pl.Fld p := by
  refine ⟨fun h => ?_, fun a ha => hp.inv a ha⟩
  have h1 : (0 : Fin p).val = (1 : Fin p).val := by rw [h]
  have h2 : (1 : Fin p).val = 1 % p := rfl
  rw [h2, Nat.mod_eq_of_lt (by have := hp.1; omega)] at h1
  exact absurd h1 (by show ¬ (0 : Nat) = 1; omega)

end Fp
set_option linter.unusedVariables false
namespace Fp
section
variable {p : Nat} [NeZero p]
/-- x less a number. -/
def lin (x : Fin p) : Pl p := Pl.C (-x) + Pl.T 1 1
theorem lin_ev (x : Fin p) (y : Fin p) : Pl.ev (lin x) y = y - x := by
  unfold lin
  rw [Pl.ev_add, Pl.ev_C, Pl.ev_T1]
  grind
def shl (f : Pl p) : Pl p := ⟨fun i => f.co (i + 1), f.fin.choose, fun i hi => f.fin.choose_spec (i + 1) (by omega)⟩
theorem shl_eq (f : Pl p) : f = Pl.C (f.co 0) + Pl.T 1 1 * shl f := Pl.ext fun i => by
  rw [Pl.add_at, Pl.C_at, Pl.T_mul_at]
  cases i with
  | zero => simp
  | succ i =>
    rw [if_neg (by omega), if_pos (by omega)]
    show f.co (i + 1) = 0 + 1 * f.co (i + 1 - 1 + 1)
    rw [Nat.add_sub_cancel]; grind
theorem factor (r : Fin p) : ∀ (n : Nat) (f : Pl p), (∀ i, n < i → f.co i = 0) → ∃ (q : Pl p) (c : Fin p), f = lin r * q + Pl.C c ∧ (∀ i, n ≤ i → q.co i = 0)
  | 0, f, h => ⟨0, f.co 0, by
      rw [Pl.mul_zero, Pl.zero_add]
      exact Pl.ext fun i => by
        rw [Pl.C_at]
        by_cases c : i = 0
        · rw [if_pos c, c]
        · rw [if_neg c]; exact h i (by omega), fun i _ => rfl⟩
  | n + 1, f, h => by
    obtain ⟨q, c, e, hq⟩ := factor r n (shl f) (fun i hi => h (i + 1) (by omega))
    refine ⟨Pl.T 1 1 * q + Pl.C c, f.co 0 + c * r, ?_, fun i hi => ?_⟩
    · have e2 : Pl.T 1 1 * shl f = Pl.T 1 1 * (lin r * q) + Pl.T 1 1 * Pl.C c := by rw [← Pl.mul_add, ← e]
      have e3 : lin r * Pl.C c = Pl.T 1 1 * Pl.C c - Pl.C (c * r) := by
        refine Pl.ext fun i => ?_
        rw [Pl.mul_comm, Pl.C_mul_at, Pl.sub_at, Pl.mul_comm, Pl.C_mul_at]
        unfold lin
        rw [Pl.add_at, Pl.C_at, Pl.C_at, Pl.T_at]
        split <;> grind
      calc f = Pl.C (f.co 0) + Pl.T 1 1 * shl f := shl_eq f
        _ = Pl.C (f.co 0) + (Pl.T 1 1 * (lin r * q) + Pl.T 1 1 * Pl.C c) := by rw [e2]
        _ = lin r * (Pl.T 1 1 * q + Pl.C c) + Pl.C (f.co 0 + c * r) := by
          rw [Pl.mul_add, e3, ← Pl.mul_assoc (lin r), Pl.mul_comm (lin r) (Pl.T 1 1), Pl.mul_assoc]
          refine Pl.ext fun i => ?_
          simp only [Pl.add_at, Pl.sub_at, Pl.C_at]
          split <;> grind
    · rw [Pl.add_at, Pl.T_mul_at, Pl.C_at, if_pos (by omega), if_neg (by omega), hq (i - 1) (by omega)]
      grind
theorem root_bound (hp : Pl.Fld p) : ∀ (n : Nat) (f : Pl p), (∀ i, n < i → f.co i = 0) → f ≠ 0 → ∀ rs : List (Fin p), rs.Nodup → (∀ r ∈ rs, Pl.ev f r = 0) → rs.length ≤ n
  | 0, f, h, h0, [], _, _ => by simp
  | 0, f, h, h0, r :: rs, _, hr => by
    exfalso
    have e : f = Pl.C (f.co 0) := Pl.ext fun i => by
      rw [Pl.C_at]
      by_cases c : i = 0
      · rw [if_pos c, c]
      · rw [if_neg c]; exact h i (by omega)
    have h1 := hr r List.mem_cons_self
    rw [e, Pl.ev_C] at h1
    apply h0
    rw [e, h1, Pl.C_zero]
  | n + 1, f, h, h0, [], _, _ => by simp
  | n + 1, f, h, h0, r :: rs, hn, hr => by
    obtain ⟨q, c, e, hq⟩ := factor r (n + 1) f h
    have hc : c = 0 := by
      have h1 := hr r List.mem_cons_self
      rw [e, Pl.ev_add, Pl.ev_mul, lin_ev, Pl.ev_C] at h1
      grind
    have e' : f = lin r * q := by rw [e, hc, Pl.C_zero, Pl.add_zero]
    rw [List.nodup_cons] at hn
    have := root_bound hp n q (fun i hi => hq i (by omega)) (fun hq0 => h0 (by rw [e', hq0, Pl.mul_zero])) rs hn.2 (fun s hs => by
      have h1 := hr s (List.mem_cons_of_mem _ hs)
      rw [e', Pl.ev_mul, lin_ev] at h1
      apply Classical.byContradiction
      intro hne
      refine hp.mul_ne (a := s - r) (b := Pl.ev q s) (fun h2 => hn.1 ?_) hne h1
      have : s = r := by grind
      rwa [← this])
    rw [List.length_cons]; omega

theorem pw_one (x : Fin p) : Pl.pw x 1 = x := by show (1 : Fin p) * x = x; grind
theorem one_pw (n : Nat) : Pl.pw (1 : Fin p) n = 1 := by
  induction n with
  | zero => rfl
  | succ n ih => rw [Pl.pw_add, ih, pw_one]; grind
theorem mul_pw (x y : Fin p) (n : Nat) : Pl.pw (x * y) n = Pl.pw x n * Pl.pw y n := by
  induction n with
  | zero => show (1 : Fin p) = 1 * 1; grind
  | succ n ih => rw [Pl.pw_add, Pl.pw_add, Pl.pw_add, ih, pw_one, pw_one, pw_one]; grind
theorem pw_mul (x : Fin p) (m n : Nat) : Pl.pw x (m * n) = Pl.pw (Pl.pw x m) n := by
  induction n with
  | zero => rfl
  | succ n ih => rw [Nat.mul_succ, Pl.pw_add, Pl.pw_add, ih, pw_one]
theorem pw_gcd (c : Fin p) : ∀ (m n : Nat), Pl.pw c m = 1 → Pl.pw c n = 1 → Pl.pw c (Nat.gcd m n) = 1 := by
  intro m n
  induction m, n using Nat.gcd.induction with
  | H0 n => intro _ h; rwa [Nat.gcd_zero_left]
  | H1 m n hm ih =>
    intro h1 h2
    rw [Nat.gcd_rec]
    refine ih ?_ h1
    have e := Nat.div_add_mod n m
    rw [← e, Pl.pw_add, pw_mul, h1, one_pw] at h2
    grind
theorem pw_coprime {c : Fin p} {m n : Nat} (h1 : Pl.pw c m = 1) (h2 : Pl.pw c n = 1) (h : Nat.gcd m n = 1) : c = 1 := by
  have := pw_gcd c m n h1 h2
  rwa [h, pw_one] at this

/-- All numbers but 0. -/
def units (p : Nat) [NeZero p] : List (Fin p) := (List.range (p - 1)).map fun i => Fin.ofNat p (i + 1)
theorem units_val {i : Nat} (h : i < p - 1) : (Fin.ofNat p (i + 1)).val = i + 1 := Nat.mod_eq_of_lt (by omega)
theorem mem_units {x : Fin p} : x ∈ units p ↔ x ≠ 0 := by
  unfold units
  rw [List.mem_map]
  constructor
  · rintro ⟨i, hi, rfl⟩ h
    rw [List.mem_range] at hi
    have := congrArg Fin.val h
    rw [units_val hi] at this
    have h0 : (0 : Fin p).val = 0 := rfl
    omega
  · intro h
    have hv : x.val ≠ 0 := fun e => h (Fin.ext (by rw [e]; rfl))
    have := x.isLt
    refine ⟨x.val - 1, List.mem_range.2 (by omega), Fin.ext ?_⟩
    rw [units_val (by omega)]; omega
theorem nodup_units : (units p).Nodup := by
  unfold units
  rw [List.nodup_iff_pairwise_ne, List.pairwise_map]
  refine List.Pairwise.imp_of_mem ?_ (List.nodup_iff_pairwise_ne.1 List.nodup_range)
  intro a b ha hb hab h
  rw [List.mem_range] at ha hb
  have := congrArg Fin.val h
  rw [units_val ha, units_val hb] at this
  omega
theorem length_units : (units p).length = p - 1 := by unfold units; rw [List.length_map, List.length_range]
theorem nodup_map {α β : Type} {f : α → β} (hf : ∀ a b, f a = f b → a = b) {l : List α} (h : l.Nodup) : (l.map f).Nodup := by
  rw [List.nodup_iff_pairwise_ne, List.pairwise_map]
  exact (List.nodup_iff_pairwise_ne.1 h).imp fun hab e => hab (hf _ _ e)
theorem perm_of_nodup {α : Type} [DecidableEq α] {a b : List α} (ha : a.Nodup) (hb : b.Nodup) (h : ∀ x, x ∈ a ↔ x ∈ b) : a.Perm b := by
  rw [List.perm_iff_count]
  intro x
  rw [ha.count, hb.count]
  by_cases c : x ∈ a
  · rw [if_pos c, if_pos ((h x).1 c)]
  · rw [if_neg c, if_neg fun h2 => c ((h x).2 h2)]
def prd (l : List (Fin p)) : Fin p := l.foldr (· * ·) 1
theorem prd_perm {a b : List (Fin p)} (h : a.Perm b) : prd a = prd b := by
  induction h with
  | nil => rfl
  | cons x _ ih => show x * prd _ = x * prd _; rw [ih]
  | swap x y l => show y * (x * prd l) = x * (y * prd l); grind
  | trans _ _ h1 h2 => exact h1.trans h2
theorem prd_map (a : Fin p) (l : List (Fin p)) : prd (l.map (a * ·)) = Pl.pw a l.length * prd l := by
  induction l with
  | nil => show (1 : Fin p) = 1 * 1; grind
  | cons x l ih =>
    show a * x * prd (l.map (a * ·)) = Pl.pw a (l.length + 1) * (x * prd l)
    rw [ih, Pl.pw_add, pw_one]; grind
theorem prd_ne (hp : Pl.Fld p) {l : List (Fin p)} (h : ∀ x ∈ l, x ≠ 0) : prd l ≠ 0 := by
  induction l with
  | nil => exact fun h => hp.1 h.symm
  | cons x l ih => exact hp.mul_ne (h x List.mem_cons_self) (ih fun y hy => h y (List.mem_cons_of_mem _ hy))
theorem fermatF (hp : Pl.Fld p) {a : Fin p} (ha : a ≠ 0) : Pl.pw a (p - 1) = 1 := by
  obtain ⟨b, hb⟩ := hp.2 a ha
  have hinj : ∀ x y : Fin p, a * x = a * y → x = y := fun x y h => by
    have : b * (a * x) = b * (a * y) := by rw [h]
    grind
  have hperm : ((units p).map (a * ·)).Perm (units p) := by
    refine perm_of_nodup (nodup_map hinj nodup_units) nodup_units fun x => ?_
    rw [mem_units, List.mem_map]
    constructor
    · rintro ⟨y, hy, rfl⟩
      exact hp.mul_ne ha (mem_units.1 hy)
    · intro hx
      refine ⟨b * x, mem_units.2 (hp.mul_ne (fun h => ?_) hx), by grind⟩
      rw [h] at hb
      apply hp.1
      grind
  have h := prd_perm hperm
  rw [prd_map, length_units] at h
  have hne := prd_ne hp (l := units p) fun x hx => mem_units.1 hx
  obtain ⟨c, hc⟩ := hp.2 _ hne
  have : Pl.pw a (p - 1) * prd (units p) * c = prd (units p) * c := by rw [h]
  grind
theorem not_all (hp : Pl.Fld p) {d : Nat} (h0 : 0 < d) (hd : d < p - 1) : ∃ a : Fin p, a ≠ 0 ∧ Pl.pw a d ≠ 1 := by
  apply Classical.byContradiction
  intro hc
  have hall : ∀ a : Fin p, a ≠ 0 → Pl.pw a d = 1 := fun a ha => Classical.byContradiction fun h => hc ⟨a, ha, h⟩
  have ev : ∀ x : Fin p, Pl.ev (Pl.T 1 d - Pl.C 1) x = Pl.pw x d - 1 := fun x => by
    rw [Pl.ev_bound _ _ (n := d + 1) (fun i hi => by rw [Pl.sub_at, Pl.T_at, Pl.C_at, if_neg (by omega), if_neg (by omega)]; grind)]
    obtain ⟨e, rfl⟩ : ∃ e, d = e + 1 := ⟨d - 1, by omega⟩
    rw [sm_first, sm_one e (by omega) (fun i hi hne => by
      rw [Pl.sub_at, Pl.T_at, Pl.C_at, if_neg (by omega), if_neg (by omega)]; grind)]
    rw [Pl.sub_at, Pl.T_at, Pl.C_at, Pl.sub_at, Pl.T_at, Pl.C_at, if_neg (by omega), if_pos rfl, if_pos rfl, if_neg (by omega)]
    show (0 - 1) * (1 : Fin p) + (1 - 0) * Pl.pw x (e + 1) = _
    grind
  have := root_bound hp d (Pl.T 1 d - Pl.C 1) (fun i hi => by rw [Pl.sub_at, Pl.T_at, Pl.C_at, if_neg (by omega), if_neg (by omega)]; grind) (fun h => by
      have h1 := congrArg (fun f => Pl.co f d) h
      simp only [Pl.sub_at, Pl.T_at, Pl.C_at, if_neg (show d ≠ 0 by omega), Pl.zero_at] at h1
      apply hp.1
      grind) (units p) nodup_units (fun r hr => by rw [ev, hall r (mem_units.1 hr)]; grind)
  rw [length_units] at this
  omega
/-- A number's power of a prime, and the rest. -/
theorem split_pow {q : Nat} (hq : Pr q) : ∀ (m : Nat), 0 < m → ∃ e m', m = q ^ e * m' ∧ ¬ q ∣ m' := by
  intro m
  induction m using Nat.strongRecOn with
  | ind m ih =>
    intro hm
    by_cases h : q ∣ m
    · obtain ⟨c, hc⟩ := h
      have hq2 := hq.1
      have hc0 : 0 < c := Nat.pos_of_ne_zero (by rintro rfl; omega)
      have hlt : c < m := by
        have : 2 * c ≤ q * c := Nat.mul_le_mul_right _ hq2
        omega
      obtain ⟨e, m', h1, h2⟩ := ih c hlt hc0
      exact ⟨e + 1, m', by rw [hc, h1, Nat.pow_succ]; grind, h2⟩
    · exact ⟨0, m, by simp, h⟩
theorem Pr.dvd_pow {r q : Nat} (hr : Pr r) : ∀ e, r ∣ q ^ e → r ∣ q
  | 0, h => by
    have := Nat.dvd_one.1 h
    have := hr.1
    omega
  | e + 1, h => by
    rw [Nat.pow_succ] at h
    exact (hr.mul h).elim (Pr.dvd_pow hr e) id
theorem Pr.eq {r q : Nat} (hr : Pr r) (hq : Pr q) (h : r ∣ q) : r = q := by
  rcases hq.2 r h with e | e
  · have := hr.1; omega
  · exact e
theorem exists_order (hp : Pl.Fld p) (h2 : 2 < p) : ∀ (m : Nat), 0 < m → m ∣ p - 1 → ∃ g : Fin p, Pl.pw g m = 1 ∧ ∀ q, Pr q → q ∣ m → Pl.pw g (m / q) ≠ 1 := by
  intro m
  induction m using Nat.strongRecOn with
  | ind m ih =>
    intro hm hd
    by_cases h1 : m = 1
    · subst h1
      exact ⟨1, one_pw 1, fun q hq hq1 => by have := Nat.dvd_one.1 hq1; have := hq.1; omega⟩
    · obtain ⟨q, hq, hqm⟩ := Pr.fac m (by omega)
      have hq2 := hq.1
      obtain ⟨e, m', hsplit, hnd⟩ := split_pow hq m hm
      have hm0 : 0 < m' := Nat.pos_of_ne_zero (by rintro rfl; exact hnd (Nat.dvd_zero q))
      have he : e ≠ 0 := by
        rintro rfl
        rw [Nat.pow_zero, Nat.one_mul] at hsplit
        exact hnd (hsplit ▸ hqm)
      obtain ⟨e, rfl⟩ : ∃ i, e = i + 1 := ⟨e - 1, by omega⟩
      have hqe : 0 < q ^ e := Nat.pow_pos (by omega)
      have hlt : m' < m := by
        have : 2 ≤ q ^ (e + 1) := by
          rw [Nat.pow_succ]
          have : 1 * 2 ≤ q ^ e * q := Nat.mul_le_mul hqe hq2
          omega
        have : 2 * m' ≤ q ^ (e + 1) * m' := Nat.mul_le_mul_right _ this
        omega
      obtain ⟨h, hh1, hh2⟩ := ih m' hlt hm0 (Nat.dvd_trans ⟨q ^ (e + 1), by rw [hsplit, Nat.mul_comm]⟩ hd)
      -- an element whose power (p - 1) / q is not 1
      obtain ⟨c, hc⟩ := hd
      have hn : p - 1 = q ^ (e + 1) * (m' * c) := by rw [hc, hsplit, Nat.mul_assoc]
      have hc0 : 0 < m' * c := Nat.pos_of_ne_zero fun h0 => by rw [h0, Nat.mul_zero] at hn; omega
      have hdq : 0 < q ^ e * (m' * c) := Nat.mul_pos hqe hc0
      have hn2 : p - 1 = q * (q ^ e * (m' * c)) := by rw [hn, Nat.pow_succ]; grind
      have hlt2 : q ^ e * (m' * c) < p - 1 := by
        have : 2 * (q ^ e * (m' * c)) ≤ q * (q ^ e * (m' * c)) := Nat.mul_le_mul_right _ hq2
        omega
      obtain ⟨a, ha0, ha⟩ := not_all hp hdq hlt2
      have hb1 : Pl.pw (Pl.pw a (m' * c)) (q ^ (e + 1)) = 1 := by
        rw [← pw_mul, Nat.mul_comm, ← hn, fermatF hp ha0]
      have hb2 : Pl.pw (Pl.pw a (m' * c)) (q ^ e) ≠ 1 := by
        rw [← pw_mul, Nat.mul_comm]; exact ha
      generalize Pl.pw a (m' * c) = b at hb1 hb2
      refine ⟨h * b, ?_, fun r hr hrm => ?_⟩
      · rw [mul_pw, hsplit, Nat.mul_comm, pw_mul, hh1, one_pw, Nat.mul_comm, pw_mul, hb1, one_pw]; grind
      · by_cases hrq : r = q
        · subst hrq
          have e1 : m / r = m' * r ^ e := by
            rw [hsplit, Nat.pow_succ]
            have : r ^ e * r * m' = r * (m' * r ^ e) := by grind
            rw [this]
            exact Nat.mul_div_cancel_left _ (by omega)
          rw [e1, mul_pw, pw_mul h, hh1, one_pw, Nat.mul_comm, pw_mul]
          intro h3
          have h4 : Pl.pw (Pl.pw b (r ^ e)) m' = 1 := by grind
          refine hb2 (pw_coprime (m := r) (n := m') ?_ h4 ?_)
          · rw [← pw_mul, ← Nat.pow_succ]; exact hb1
          · rw [Nat.gcd_comm]; exact hr.coprime hnd
        · have hrm' : r ∣ m' := by
            rw [hsplit] at hrm
            rcases hr.mul hrm with h3 | h3
            · exact absurd (hr.eq hq (hr.dvd_pow _ h3)) hrq
            · exact h3
          obtain ⟨d, hd'⟩ := hrm'
          have hr2 := hr.1
          have e0 : m' / r = d := by rw [hd']; exact Nat.mul_div_cancel_left _ (by omega)
          have e1 : m / r = d * q ^ (e + 1) := by
            rw [hsplit, hd']
            have : q ^ (e + 1) * (r * d) = r * (d * q ^ (e + 1)) := by grind
            rw [this]
            exact Nat.mul_div_cancel_left _ (by omega)
          have h5 := hh2 r hr ⟨d, hd'⟩
          rw [e0] at h5
          rw [e1, mul_pw, pw_mul h, Nat.mul_comm d, pw_mul b, hb1, one_pw]
          intro h3
          have h4 : Pl.pw (Pl.pw h d) (q ^ (e + 1)) = 1 := by grind
          refine h5 (pw_coprime (m := r) (n := q ^ (e + 1)) ?_ h4 ?_)
          · rw [← pw_mul, Nat.mul_comm, ← hd']; exact hh1
          · rw [Nat.gcd_comm]
            exact hr.coprime fun h6 => hrq (hr.eq hq (hr.dvd_pow _ h6))
theorem pw_val (x : Fin p) (n : Nat) : (Pl.pw x n).val = x.val ^ n % p := by
  induction n with
  | zero => show 1 % p = _; rw [Nat.pow_zero]
  | succ n ih => rw [Pl.pw_add, pw_one, Fin.val_mul, ih, Nat.pow_succ, Nat.mod_mul_mod]
end
/-- Each prime above 2 has a root. -/
theorem exists_root {N : Nat} (hN : Pr N) (h2 : 2 < N) : ∃ g, 0 < g ∧ g < N ∧ ∀ q, Pr q → q ∣ N - 1 → g ^ ((N - 1) / q) % N ≠ 1 := by
  haveI : NeZero N := ⟨by omega⟩
  have hp := Pr.fld hN
  obtain ⟨g, h1, hg⟩ := exists_order hp h2 (N - 1) (by omega) (Nat.dvd_refl _)
  have h1v : (1 : Fin N).val = 1 := Nat.mod_eq_of_lt (show 1 < N by omega)
  have hv : ∀ n, Pl.pw g n = 1 ↔ g.val ^ n % N = 1 := fun n => by
    rw [← pw_val]
    constructor
    · intro h; rw [h, h1v]
    · intro h; exact Fin.ext (by rw [h, h1v])
  refine ⟨g.val, Nat.pos_of_ne_zero fun h0 => ?_, g.isLt, fun q hq hd h => hg q hq hd ((hv _).2 h)⟩
  have := (hv _).1 h1
  rw [h0, Nat.zero_pow (by omega)] at this
  simp at this
theorem fermatN {N : Nat} (hN : Pr N) {a : Nat} (h0 : 0 < a) (h1 : a < N) : a ^ (N - 1) % N = 1 := by
  haveI : NeZero N := ⟨by omega⟩
  have hp := Pr.fld hN
  have hv : (Fin.ofNat N a).val = a := Nat.mod_eq_of_lt h1
  have := fermatF hp (a := Fin.ofNat N a) (fun h => by
    have := congrArg Fin.val h
    rw [hv] at this
    have h3 : (0 : Fin N).val = 0 := rfl
    omega)
  have h2 := congrArg Fin.val this
  rw [pw_val, hv] at h2
  rw [h2]
  exact Nat.mod_eq_of_lt (show 1 < N by omega)
end Fp
namespace Go.Proofs.Ytanpdkllnmeenaa.Am
open Go Fp
theorem dv_mem {r : Int} : ∀ (t : Nat) (n v : Int), dv r t n = some v → v ∣ n ∧ (1 ≤ t → r ∣ n)
  | 0, n, v, h => by simp [dv] at h; subst h; exact ⟨Int.dvd_refl _, fun h => by omega⟩
  | t + 1, n, v, h => by
    simp only [dv] at h
    split at h
    · rename_i hm
      obtain ⟨h1, _⟩ := dv_mem t _ v h
      have hd := Int.dvd_of_emod_eq_zero hm
      exact ⟨Int.dvd_trans h1 ⟨r, (Int.ediv_mul_cancel hd).symm⟩, fun _ => hd⟩
    · cases h
theorem pl_mem : ∀ (l : List (Int × Int)) (n v : Int), pl l n = some v → ∀ y ∈ l, y.1 ∣ n
  | [], n, v, h, y, hy => by cases hy
  | a :: r, n, v, h, y, hy => by
    rw [pl] at h
    by_cases c : 2 ≤ a.1 ∧ 1 ≤ a.2
    · rw [dT c] at h
      cases hd : dv a.1 a.2.toNat n with
      | none => rw [hd] at h; cases h
      | some w =>
        rw [hd] at h
        obtain ⟨h1, h2⟩ := dv_mem _ _ _ hd
        rcases List.mem_cons.1 hy with rfl | hy
        · exact h2 (by omega)
        · exact Int.dvd_trans (pl_mem r w v h y hy) h1
    · rw [dF c] at h; cases h
end Go.Proofs.Ytanpdkllnmeenaa.Am
namespace Go.Proofs.Ytanpdkllnmeenaa.M
set_option linter.unusedVariables false
set_option maxRecDepth 100000
open Go Go.RowKit Go.Proofs Go.Proofs.Ytanpdkllnmeenaa.Am Fp

/-- A number less 1, as a product. -/
def pts (q : Int) : List (Int × Int) := (partsN (q - 1)).1
/-- Is a number's no power (q - 1) / y of a part 1? -/
def goodR (q : Int) (g : Nat) : Bool := (pts q).all fun y => !(pw q g ((q - 1) / y.1) == 1)
noncomputable def rootN (q : Int) : Nat := Go.Proofs.Ytanpdkllnmeenaa.Am.least fun g => 1 ≤ g ∧ goodR q g = true
theorem pts_spec {q : Int} (h2 : 2 ≤ q) (hq : q < 2147483648) : partsN (q - 1) = (pts q, 0) ∧ pl (pts q) (q - 1) = some 1 ∧ inc (pts q) = true ∧ (∀ y ∈ pts q, PrI y.1 ∧ 1 ≤ y.2 ∧ y.2 ≤ 63 ∧ y.1 ≤ q - 1 ∧ y.1 ∣ q - 1) ∧ (pts q).length ≤ 65536 := by
  rcases partsN_spec (n := q - 1) (by omega) (by omega) with ⟨_, h⟩ | ⟨l, e, h1, h3, h4, h5⟩
  · omega
  · have e' : pts q = l := by unfold pts; rw [e]
    rw [e'] at *
    refine ⟨e, h1, h3, fun y hy => ?_, h5⟩
    have hd := pl_mem _ _ _ h1 y hy
    exact ⟨isB_pr.1 (h4 y hy).1, (h4 y hy).2.2.1, (h4 y hy).2.2.2, Int.le_of_dvd (by omega) hd, hd⟩
theorem toNat_sub1 {q : Int} (h : 2 ≤ q) : (q - 1).toNat = q.toNat - 1 := by omega
theorem div_nat {q y : Int} (h : 2 ≤ q) (hy : 2 ≤ y) : ((q - 1) / y).toNat = (q.toNat - 1) / y.toNat := by
  have : (q - 1) / y = (((q.toNat - 1) / y.toNat : Nat) : Int) := by
    rw [Int.natCast_ediv, Int.toNat_of_nonneg (by omega)]
    congr 1
    omega
  rw [this, Int.toNat_natCast]
theorem good_ex {q : Int} (hp : PrI q) (h3 : 3 ≤ q) (hq : q < 2147483648) : ∃ g : Nat, 1 ≤ g ∧ (g : Int) < q ∧ goodR q g = true := by
  obtain ⟨g, h0, h1, hg⟩ := exists_root hp.2 (by omega)
  refine ⟨g, h0, by omega, ?_⟩
  unfold goodR
  rw [List.all_eq_true]
  intro y hy
  obtain ⟨_, _, _, h4, _⟩ := pts_spec (q := q) (by omega) hq
  obtain ⟨a1, _, _, _, a5⟩ := h4 y hy
  have hd : y.1.toNat ∣ q.toNat - 1 := by
    have := Int.natAbs_dvd_natAbs.2 a5
    have e1 : y.1.natAbs = y.1.toNat := by have := a1.1; omega
    have e2 : (q - 1).natAbs = q.toNat - 1 := by omega
    rwa [e1, e2] at this
  have := hg _ a1.2 hd
  rw [pw_nat (by omega) (by omega), div_nat (by omega) a1.1, Int.toNat_natCast]
  rw [Bool.not_eq_true', beq_eq_false_iff_ne]
  omega
theorem root_facts {q : Int} (hp : PrI q) (h3 : 3 ≤ q) (hq : q < 2147483648) : 1 ≤ rootN q ∧ (rootN q : Int) < q ∧ goodR q (rootN q) = true ∧ ∀ g, 1 ≤ g → g < rootN q → goodR q g = false := by
  obtain ⟨g, h1, h2, h4⟩ := good_ex hp h3 hq
  obtain ⟨a, b⟩ := Go.Proofs.Ytanpdkllnmeenaa.Am.least_spec (p := fun g => 1 ≤ g ∧ goodR q g = true) ⟨g, h1, h4⟩
  have hle := b g ⟨h1, h4⟩
  refine ⟨a.1, ?_, a.2, fun g' h5 h6 => ?_⟩
  · show ((rootN q : Nat) : Int) < q
    unfold rootN
    omega
  · rw [← Bool.not_eq_true]
    intro h7
    have := b g' ⟨h5, h7⟩
    unfold rootN at h6
    omega
/-- The parts' numbers, as a map. -/
def knownP : List (Int × Int) → List (Unit × Int × Bool) → List (Unit × Int × Bool)
  | [], m => m
  | y :: r, m => knownP r (mset m y.1 true)
theorem knownP_get : ∀ (l : List (Int × Int)) (m : List (Unit × Int × Bool)) (y : Int), mget false (knownP l m) y = (l.any (fun x => x.1 == y) || mget false m y)
  | [], m, y => by rw [knownP, List.any_nil, Bool.false_or]
  | a :: r, m, y => by
    rw [knownP, knownP_get r, mget_mset, List.any_cons]
    by_cases h : a.1 = y
    · rw [if_pos h, beq_iff_eq.2 h, Bool.or_true, Bool.true_or, Bool.true_or]
    · rw [if_neg h, beq_eq_false_iff_ne.2 h, Bool.false_or]
theorem len20 {c : Int} (hc : 2 ≤ c) : ∀ (l : List (Int × Int)) (n : Int), (∀ y ∈ l, c ≤ y.1) → 1 ≤ n → pl l n = some 1 → c ^ l.length ≤ n
  | [], n, _, h1, _ => by simpa using h1
  | a :: r, n, hk, h1, h => by
    rw [pl] at h
    by_cases cc : 2 ≤ a.1 ∧ 1 ≤ a.2
    · rw [dT cc] at h
      cases hd : dv a.1 a.2.toNat n with
      | none => rw [hd] at h; cases h
      | some w =>
        rw [hd] at h
        have hw := dv_pos cc.1 _ _ _ h1 hd
        have ih := len20 hc r w (fun y hy => hk y (List.mem_cons_of_mem _ hy)) hw.1 h
        have hca := hk a List.mem_cons_self
        have hle : a.1 * w ≤ n := by
          obtain ⟨t, ht⟩ : ∃ t, a.2.toNat = t + 1 := ⟨a.2.toNat - 1, by omega⟩
          rw [ht] at hd
          simp only [dv] at hd
          split at hd
          · rename_i hm
            have e : a.1 * (n / a.1) = n := by have := Int.mul_ediv_add_emod n a.1; omega
            have hpos : 1 ≤ n / a.1 := by
              apply Classical.byContradiction
              intro hn
              have h0 : 0 ≤ n / a.1 := Int.ediv_nonneg (by omega) (by omega)
              have : n / a.1 = 0 := by omega
              rw [this] at e; omega
            have := dv_pos cc.1 _ _ _ hpos hd
            have : a.1 * w ≤ a.1 * (n / a.1) := Int.mul_le_mul_of_nonneg_left this.2 (by omega)
            omega
          · cases hd
        rw [List.length_cons, Int.pow_succ]
        have h5 : c ^ r.length * c ≤ w * a.1 := Int.mul_le_mul ih hca (by omega) (by omega)
        rw [Int.mul_comm w] at h5
        omega
    · rw [dF cc] at h; cases h
theorem pts_len {q : Int} (h3 : 3 ≤ q) (hq : q < 2147483648) : 1 ≤ (pts q).length ∧ (pts q).length ≤ 20 := by
  obtain ⟨_, h1, h2, h4, _⟩ := pts_spec (q := q) (by omega) hq
  generalize pts q = l at *
  match l, h1, h2, h4 with
  | [], h1, _, _ => rw [pl] at h1; injection h1; omega
  | a :: r, h1, h2, h4 =>
    refine ⟨by simp, ?_⟩
    have ha := (h4 a List.mem_cons_self).1.1
    have hr : ∀ (r : List (Int × Int)) (a : Int × Int), inc (a :: r) = true → ∀ y ∈ r, a.1 < y.1 := by
      intro r
      induction r with
      | nil => intro a _ y hy; cases hy
      | cons b r ih =>
        intro a hi y hy
        rw [inc, Bool.and_eq_true, decide_eq_true_eq] at hi
        rcases List.mem_cons.1 hy with rfl | hy
        · exact hi.1
        · have := ih b hi.2 y hy; omega
    rw [pl] at h1
    by_cases cc : 2 ≤ a.1 ∧ 1 ≤ a.2
    · rw [dT cc] at h1
      cases hd : dv a.1 a.2.toNat (q - 1) with
      | none => rw [hd] at h1; cases h1
      | some w =>
        rw [hd] at h1
        have hw := dv_pos cc.1 _ _ _ (show 1 ≤ q - 1 by omega) hd
        have := len20 (c := 3) (by omega) r w (fun y hy => by have := hr r a h2 y hy; omega) hw.1 h1
        rw [List.length_cons]
        apply Classical.byContradiction
        intro hc
        have h20 : (3 : Int) ^ 20 ≤ 3 ^ r.length := by
          have : 20 ≤ r.length := by omega
          obtain ⟨t, ht⟩ := Nat.exists_eq_add_of_le this
          rw [ht, Int.pow_add]
          have h0 : (1 : Int) ≤ 3 ^ t := by
            have : (0 : Int) < 3 ^ t := Int.pow_pos (by omega)
            omega
          have : (3 : Int) ^ 20 * 1 ≤ 3 ^ 20 * 3 ^ t := Int.mul_le_mul_of_nonneg_left h0 (by decide)
          omega
        have : ((3 : Int) ^ 20) = 3486784401 := by decide
        omega
    · rw [dF cc] at h1; cases h1
theorem pts_form {q g : Int} (h3 : 3 ≤ q) (hq : q < 2147483648) (h1 : 1 ≤ g) (hg : g < q) : formB (q, g, pts q) = true := by
  obtain ⟨_, a1, a2, _, _⟩ := pts_spec (q := q) (by omega) hq
  obtain ⟨b1, b2⟩ := pts_len h3 hq
  unfold formB
  rw [decide_eq_true (show _ ∧ _ from ⟨by omega, by omega, h1, hg, b1, b2⟩), a2, a1]
  rfl
theorem fermatI {q g : Int} (hp : PrI q) (h1 : 1 ≤ g) (hg : g < q) : pw q g (q - 1) = 1 := by
  have := hp.1
  rw [pw_nat (by omega) (by omega), toNat_sub1 (by omega), fermatN hp.2 (by omega) (by omega)]
  rfl
/-- What shows a prime: a good root. -/
theorem shows_good {q : Int} {g : Nat} (hp : PrI q) (h3 : 3 ≤ q) (hq : q < 2147483648) (h1 : 1 ≤ g) (hg : (g : Int) < q) {m : List (Unit × Int × Bool)} (hm : ∀ y ∈ pts q, mget false m y.1 = true) : showsB m (q, g, pts q) = goodR q g := by
  rw [showsB_K]
  unfold showsK goodR
  rw [pts_form h3 hq (by omega) hg, fermatI hp (by omega) hg, Bool.true_and, beq_self_eq_true, Bool.true_and]
  show List.all _ _ = List.all _ _
  have : ∀ l : List (Int × Int), (∀ y ∈ l, mget false m y.1 = true) → l.all (fun y => mget false m y.1 && !(pw q g ((q - 1) / y.1) == 1)) = l.all (fun y => !(pw q g ((q - 1) / y.1) == 1)) := by
    intro l
    induction l with
    | nil => intro _; rfl
    | cons a r ih =>
      intro h
      rw [List.all_cons, List.all_cons, h a List.mem_cons_self, Bool.true_and, ih fun y hy => h y (List.mem_cons_of_mem _ hy)]
  exact this _ hm

theorem proof_l0 {k : Nat} {R : Type} (x0 : Int → List (Int × Int) → Int → Int → List (Int × Int) → List (Unit × Int × Bool) → Option R) (p : Int) {l : List (Int × Int)} (hl : l.length < 281474976710656) (a b : Int) (c : List (Int × Int)) (d : Nat) : ∀ (m i : Nat) (odd : List (Unit × Int × Bool)), i + d = l.length → d < m →
    prime_proof.L0 k x0 m p l l (l.length : Int) i a b c odd = x0 p l a b c (knownP (l.drop i) odd) := by
  induction d with
  | zero =>
    intro m i odd hi hm
    obtain ⟨m, rfl⟩ : ∃ j, m = j + 1 := ⟨m - 1, by omega⟩
    simp only [prime_proof.L0, prime_proof.B0]
    rw [dF (by omega), List.drop_of_length_le (by omega), knownP]
  | succ d ih =>
    intro m i odd hi hm
    obtain ⟨m, rfl⟩ : ∃ j, m = j + 1 := ⟨m - 1, by omega⟩
    simp only [prime_proof.L0, prime_proof.B0]
    rw [dT (by omega), aT (by omega), Int.toNat_natCast, ix (by omega), ih m (i + 1) _ (by omega) (by omega), drop_at (i := i) (by omega) (0, 0), knownP]
theorem one_good {q : Int} (hp : PrI q) {g : Nat} (hg : (g : Int) < q) (h1 : 1 ≤ g) (hq : q < 2147483648) : oneB (q, (g : Int), pts q) (q - 1) = true := by
  have := hp.1
  unfold oneB
  rw [decide_eq_true (show _ ∧ _ from ⟨hg, by omega, by omega⟩), fermatI hp (by omega) hg]
  rfl
theorem proof_l2 {k : Nat} (hk : 200 ≤ k) {R : Type} (x0 : Bool → Int → Int → List (Int × Int) → Option R) (x1 : Int → Int → List (Int × Int) → Option R) {q : Int} (hp : PrI q) (h3 : 3 ≤ q) (hq : q < 2147483648) {od : List (Unit × Int × Bool)} (ho : ∀ y ∈ pts q, mget false od y.1 = true) (a b : Int) (c : List (Int × Int)) (d : Nat) : ∀ (m g : Nat), g + d = rootN q → 1 ≤ g → d < m →
    prime_proof.L2 k x0 x1 m q (pts q) g a b c od = x0 true q (rootN q) (pts q) := by
  obtain ⟨r1, r2, r3, r4⟩ := root_facts hp h3 hq
  induction d with
  | zero =>
    intro m g hg h1 hm
    obtain ⟨m, rfl⟩ : ∃ j, m = j + 1 := ⟨m - 1, by omega⟩
    have e : g = rootN q := by omega
    subst e
    simp only [prime_proof.L2, prime_proof.B2]
    rw [dT (by omega), shows_spec _ _ (by omega), shows_good hp h3 hq h1 r2 ho, r3]
    rfl
  | succ d ih =>
    intro m g hg h1 hm
    obtain ⟨m, rfl⟩ : ∃ j, m = j + 1 := ⟨m - 1, by omega⟩
    have hgq : (g : Int) < q := by omega
    simp only [prime_proof.L2, prime_proof.B2]
    rw [dT hgq, shows_spec _ _ (by omega), shows_good hp h3 hq h1 hgq ho, r4 g h1 (by omega), cond_false, wu_in (n := q - 1) (by omega) (by omega), one_spec (by show (0 : Int) ≤ g; omega) (by omega) (by omega) (by omega), one_good hp hgq h1 hq, Bool.not_true, cond_false, wu_in (n := (g : Int) + 1) (by omega) (by omega)]
    exact ih m (g + 1) (by omega) (by omega) (by omega)
/-- prime.proof of a prime. -/
theorem proof_spec {q : Int} (hp : PrI q) (h3 : 3 ≤ q) (hq : q < 2147483648) {k : Nat} (hk : 300 ≤ k) (hk2 : q < k) {R : Type} (ret : Int → Int → List (Int × Int) → Bool → Option R) : prime_proof.f k q (pts q) ret = ret q (rootN q) (pts q) true := by
  obtain ⟨k, rfl⟩ : ∃ m, k = m + 1 := ⟨k - 1, by omega⟩
  obtain ⟨b1, b2⟩ := pts_len h3 hq
  obtain ⟨r1, r2, r3, r4⟩ := root_facts hp h3 hq
  simp only [prime_proof.f]
  have h0 := proof_l0 (k := k) (fun p2 parts2 h02 h03 h11 odd1 =>
      prime_proof.L2 k (fun t5 h06 h07 h08 =>
        ret h06 h07 h08 t5) (fun h09 h010 h13 =>
        ret 0 0 ([]) false) k p2 parts2 1 h02 h03 h11 odd1) q (l := pts q) (by omega) 0 0 [] (pts q).length k 0 [] (by omega) (by omega)
  rw [show ((0 : Nat) : Int) = 0 from rfl, List.drop_zero] at h0
  rw [h0]
  have h2 := proof_l2 (k := k) (by omega) (fun t5 h06 h07 h08 =>
        ret h06 h07 h08 t5) (fun h09 h010 h13 =>
        ret 0 0 ([]) false) hp h3 hq (od := knownP (pts q) []) (fun y hy => by
          rw [knownP_get, show (pts q).any (fun x => x.1 == y.1) = true from List.any_eq_true.2 ⟨y, hy, beq_self_eq_true _⟩, Bool.true_or]) 0 0 [] (rootN q - 1) k 1 (by omega) (by omega) (by omega)
  rw [show ((1 : Nat) : Int) = 1 from rfl] at h2
  exact h2
/-- prime.proof of a number that is no prime. -/
theorem proof_none {q : Int} (hp : ¬ PrI q) (h3 : 3 ≤ q) (hq : q < 2147483648) {k : Nat} (hk : 300 ≤ k) (hk2 : q < k) {R : Type} (ret : Int → Int → List (Int × Int) → Bool → Option R) : prime_proof.f k q (pts q) ret = ret 0 0 [] false := by
  obtain ⟨k, rfl⟩ : ∃ m, k = m + 1 := ⟨k - 1, by omega⟩
  obtain ⟨b1, b2⟩ := pts_len h3 hq
  obtain ⟨_, _, _, hpt, _⟩ := pts_spec (q := q) (by omega) hq
  simp only [prime_proof.f]
  have h0 := proof_l0 (k := k) (fun p2 parts2 h02 h03 h11 odd1 =>
      prime_proof.L2 k (fun t5 h06 h07 h08 =>
        ret h06 h07 h08 t5) (fun h09 h010 h13 =>
        ret 0 0 ([]) false) k p2 parts2 1 h02 h03 h11 odd1) q (l := pts q) (by omega) 0 0 [] (pts q).length k 0 [] (by omega) (by omega)
  rw [show ((0 : Nat) : Int) = 0 from rfl, List.drop_zero] at h0
  rw [h0]
  have hno : ∀ g : Int, showsB (knownP (pts q) []) (q, g, pts q) = false := fun g => by
    rw [← Bool.not_eq_true]
    intro h
    rw [showsB_K] at h
    refine hp (shows_prime (fun y hy => ?_) h)
    rw [knownP_get] at hy
    simp only [mget, Bool.or_false] at hy
    obtain ⟨x, hx, e⟩ := List.any_eq_true.1 hy
    rw [← beq_iff_eq.1 e]
    exact (hpt x hx).1
  have key : ∀ (d m g : Nat), (g : Int) + d = q → 1 ≤ g → d < m → ∀ (a b : Int) (c : List (Int × Int)), prime_proof.L2 k (fun t5 h06 h07 h08 => ret h06 h07 h08 t5) (fun h09 h010 h13 => ret 0 0 ([]) false) m q (pts q) g a b c (knownP (pts q) []) = ret 0 0 [] false := by
    intro d
    induction d with
    | zero =>
      intro m g hg h1 hm a b c
      obtain ⟨m, rfl⟩ : ∃ j, m = j + 1 := ⟨m - 1, by omega⟩
      simp only [prime_proof.L2, prime_proof.B2]
      rw [dF (by omega)]
    | succ d ih =>
      intro m g hg h1 hm a b c
      obtain ⟨m, rfl⟩ : ∃ j, m = j + 1 := ⟨m - 1, by omega⟩
      simp only [prime_proof.L2, prime_proof.B2]
      rw [dT (by omega), shows_spec _ _ (by omega), hno, cond_false, wu_in (n := q - 1) (by omega) (by omega), one_spec (by show (0 : Int) ≤ g; omega) (by omega) (by omega) (by omega)]
      cases oneB (q, (g : Int), pts q) (q - 1) with
      | false => rfl
      | true =>
        rw [Bool.not_true, cond_false, wu_in (n := (g : Int) + 1) (by omega) (by omega)]
        exact ih m (g + 1) (by omega) (by omega) (by omega) a b c
  have := key (q - 1).toNat k 1 (by omega) (by omega) (by omega) 0 0 []
  rw [show ((1 : Nat) : Int) = 1 from rfl] at this
  exact this

/-- The reference's Root. -/
theorem root_l2 {k : Nat} (hk : 200 ≤ k) {R : Type} (x0 : Int → List (Int × Int) → Int → Bool → Option R) {q : Int} (h2 : 2 ≤ q) (hq : q < 2147483648) {g : Nat} (h1 : 1 ≤ g) (hg : (g : Int) < q) {l : List (Int × Int)} (hl : l.length < 281474976710656) (hy : ∀ y ∈ l, 2 ≤ y.1) (d : Nat) : ∀ (m i : Nat) (ok : Bool), i + d = l.length → d < m →
    affidavitref02_Root.L2 k x0 m q l g ok i = x0 q l g (ok && (l.drop i).all (fun y => !(pw q g ((q - 1) / y.1) == 1))) := by
  induction d with
  | zero =>
    intro m i ok hi hm
    obtain ⟨m, rfl⟩ : ∃ j, m = j + 1 := ⟨m - 1, by omega⟩
    simp only [affidavitref02_Root.L2, affidavitref02_Root.B2]
    rw [dF (by omega), List.drop_of_length_le (by omega), List.all_nil, Bool.and_true]
  | succ d ih =>
    intro m i ok hi hm
    obtain ⟨m, rfl⟩ : ∃ j, m = j + 1 := ⟨m - 1, by omega⟩
    have hmem := hy _ (getD_mem (l := l) (i := i) (by omega) (0, 0))
    have e1 : 0 ≤ (q - 1) / (l.getD i (0, 0)).1 := Int.ediv_nonneg (by omega) (by omega)
    have e2 : (q - 1) / (l.getD i (0, 0)).1 ≤ q - 1 := Int.ediv_le_self _ (by omega)
    simp only [affidavitref02_Root.L2, affidavitref02_Root.B2]
    rw [dT (by omega), drop_at (i := i) (by omega) (0, 0), List.all_cons]
    cases ok with
    | false => rw [cond_false, ix (by omega), ih m (i + 1) _ (by omega) (by omega), Bool.false_and, Bool.false_and]
    | true =>
      rw [cond_true, aT (by omega), Int.toNat_natCast, nT (by omega), wu_in (n := q - 1) (by omega) (by omega), Int.tdiv_eq_ediv_of_nonneg (by omega), wu_in e1 (by omega), rPow_spec (p := q) (a := (g : Int)) (by omega) (by omega) (by omega) hg 64 k _ (by omega) e1 (by omega) (by omega), ix (by omega), ih m (i + 1) _ (by omega) (by omega), Bool.true_and]
      rfl
theorem root_l0 {k : Nat} (hk : 200 ≤ k) {R : Type} (x0 : Int → Option R) (x1 : Unit → Option R) {q : Int} (hp : PrI q) (h3 : 3 ≤ q) (hq : q < 2147483648) (d : Nat) : ∀ (m g : Nat), g + d = rootN q → 1 ≤ g → d < m →
    affidavitref02_Root.L0 k x0 x1 m q (pts q) g = x0 (rootN q) := by
  obtain ⟨r1, r2, r3, r4⟩ := root_facts hp h3 hq
  obtain ⟨b1, b2⟩ := pts_len h3 hq
  obtain ⟨_, _, _, hpt, _⟩ := pts_spec (q := q) (by omega) hq
  induction d with
  | zero =>
    intro m g hg h1 hm
    obtain ⟨m, rfl⟩ : ∃ j, m = j + 1 := ⟨m - 1, by omega⟩
    have e : g = rootN q := by omega
    subst e
    simp only [affidavitref02_Root.L0, affidavitref02_Root.B0]
    have := root_l2 (k := k) hk (fun p3 l3 g2 ok1 => bif ok1 then (x0 g2) else (affidavitref02_Root.L0 k x0 x1 m p3 l3 (IntKind.wrap .u64 (g2 + 1)))) (q := q) (by omega) hq h1 r2 (l := pts q) (by omega) (fun y hy => (hpt y hy).1.1) (pts q).length k 0 true (by omega) (by omega)
    rw [show ((0 : Nat) : Int) = 0 from rfl, List.drop_zero, Bool.true_and] at this
    have r3' := r3
    unfold goodR at r3'
    rw [dT (by omega), this, r3']
    rfl
  | succ d ih =>
    intro m g hg h1 hm
    obtain ⟨m, rfl⟩ : ∃ j, m = j + 1 := ⟨m - 1, by omega⟩
    have hgq : (g : Int) < q := by omega
    simp only [affidavitref02_Root.L0, affidavitref02_Root.B0]
    have := root_l2 (k := k) hk (fun p3 l3 g2 ok1 => bif ok1 then (x0 g2) else (affidavitref02_Root.L0 k x0 x1 m p3 l3 (IntKind.wrap .u64 (g2 + 1)))) (q := q) (by omega) hq h1 hgq (l := pts q) (by omega) (fun y hy => (hpt y hy).1.1) (pts q).length k 0 true (by omega) (by omega)
    rw [show ((0 : Nat) : Int) = 0 from rfl, List.drop_zero, Bool.true_and] at this
    have r4' := r4 g h1 (by omega)
    unfold goodR at r4'
    rw [dT hgq, this, r4', cond_false, wu_in (n := (g : Int) + 1) (by omega) (by omega)]
    exact ih m (g + 1) (by omega) (by omega) (by omega)
theorem root_spec {q : Int} (hp : PrI q) (h3 : 3 ≤ q) (hq : q < 2147483648) {k : Nat} (hk : 300 ≤ k) (hk2 : q < k) {R : Type} (ret : Int → Option R) : affidavitref02_Root.f k q (pts q) ret = ret (rootN q) := by
  obtain ⟨k, rfl⟩ : ∃ m, k = m + 1 := ⟨k - 1, by omega⟩
  obtain ⟨r1, r2, r3, r4⟩ := root_facts hp h3 hq
  simp only [affidavitref02_Root.f]
  have := root_l0 (k := k) (by omega) (fun t4 => ret t4) (fun _ => ret 0) hp h3 hq (rootN q - 1) k 1 (by omega) (by omega) (by omega)
  rw [show ((1 : Nat) : Int) = 1 from rfl] at this
  exact this
end Go.Proofs.Ytanpdkllnmeenaa.M

/- What the printed text of bits.Rem64 tells: the rest of a number of two words by one word. Over the printed functions alone; no memory. What the printed texts of the field's calls tell: numbers modulo p, of numbers that are in range. Over the printed functions alone; no memory. -/
import Derived.Test.YtffcjgelcdilcaaPSerx2
import Derived.Test.YtffcjgelcdilcaaPl
import Derived.Test.YtffcjgelcdilcaaPSerx3
import Derived.Test.YtffcjgelcdilcaaPSerx1
import Derived.Test.YtffcjgelcdilcaaPSerx5
import Derived.Test.YtffcjgelcdilcaaSmall
set_option linter.unusedVariables false
set_option linter.unusedSimpArgs false
set_option linter.unusedSectionVars false
namespace Go.Proofs.Ytffcjgelcdilcaa.Spec
open Go.RowKit Go.Proofs.Ytffcjgelcdilcaa.PSer Go.Proofs.YtffcjgelcdilcaaW.PrintWords Go.Proofs.YtffcjgelcdilcaaW.PrintLast Go.Proofs.YtffcjgelcdilcaaW.PrintMore

theorem wu (n : Int) : IntKind.u64.wrap n = n % 18446744073709551616 := by
  simp only [IntKind.wrap, IntKind.signed, IntKind.bits]
  simp
theorem wu_in {n : Int} (h0 : 0 ≤ n) (h1 : n < 18446744073709551616) : IntKind.u64.wrap n = n := by rw [wu]; omega

theorem len_of {y : Int} {e t : Nat} (h1 : 1 ≤ t) (hlo : (2 : Int) ^ (t - 1) ≤ y / 2 ^ e) (hhi : y / 2 ^ e < (2 : Int) ^ t) : (2 : Int) ^ (t + e - 1) ≤ y ∧ y < (2 : Int) ^ (t + e) := by
  have hp : (0 : Int) < 2 ^ e := Int.pow_pos (by omega)
  constructor
  · have := (Int.le_ediv_iff_mul_le hp).1 hlo
    rw [← Int.pow_add] at this
    have e1 : t - 1 + e = t + e - 1 := by omega
    rwa [e1] at this
  · have := (Int.ediv_lt_iff_lt_mul hp).1 hhi
    rwa [← Int.pow_add] at this

def tab : ByteArray := ⟨#[0, 1, 2, 2, 3, 3, 3, 3, 4, 4, 4, 4, 4, 4, 4, 4, 5, 5, 5, 5, 5, 5, 5, 5, 5, 5, 5, 5, 5, 5, 5, 5, 6, 6, 6, 6, 6, 6, 6, 6, 6, 6, 6, 6, 6, 6, 6, 6, 6, 6, 6, 6, 6, 6, 6, 6, 6, 6, 6, 6, 6, 6, 6, 6, 7, 7, 7, 7, 7, 7, 7, 7, 7, 7, 7, 7, 7, 7, 7, 7, 7, 7, 7, 7, 7, 7, 7, 7, 7, 7, 7, 7, 7, 7, 7, 7, 7, 7, 7, 7, 7, 7, 7, 7, 7, 7, 7, 7, 7, 7, 7, 7, 7, 7, 7, 7, 7, 7, 7, 7, 7, 7, 7, 7, 7, 7, 7, 7, 8, 8, 8, 8, 8, 8, 8, 8, 8, 8, 8, 8, 8, 8, 8, 8, 8, 8, 8, 8, 8, 8, 8, 8, 8, 8, 8, 8, 8, 8, 8, 8, 8, 8, 8, 8, 8, 8, 8, 8, 8, 8, 8, 8, 8, 8, 8, 8, 8, 8, 8, 8, 8, 8, 8, 8, 8, 8, 8, 8, 8, 8, 8, 8, 8, 8, 8, 8, 8, 8, 8, 8, 8, 8, 8, 8, 8, 8, 8, 8, 8, 8, 8, 8, 8, 8, 8, 8, 8, 8, 8, 8, 8, 8, 8, 8, 8, 8, 8, 8, 8, 8, 8, 8, 8, 8, 8, 8, 8, 8, 8, 8, 8, 8, 8, 8, 8, 8, 8, 8, 8, 8, 8, 8, 8, 8, 8, 8]⟩
theorem tab_all : ∀ c : Fin 256, (0 ≤ bt tab (c.val : Int) ∧ bt tab (c.val : Int) ≤ 8) ∧ (c.val : Int) < (2 : Int) ^ (bt tab (c.val : Int)).toNat ∧ (0 < c.val → 1 ≤ (bt tab (c.val : Int)).toNat ∧ (2 : Int) ^ ((bt tab (c.val : Int)).toNat - 1) ≤ (c.val : Int)) := by decide +kernel
theorem tab_spec {c : Int} (h0 : 0 < c) (h1 : c < 256) : ∃ t : Nat, bt tab c = (t : Int) ∧ 1 ≤ t ∧ t ≤ 8 ∧ c < (2 : Int) ^ t ∧ (2 : Int) ^ (t - 1) ≤ c := by
  have h := tab_all ⟨c.toNat, by omega⟩
  have e : ((c.toNat : Nat) : Int) = c := Int.toNat_of_nonneg (by omega)
  simp only [e] at h
  obtain ⟨⟨h2, h3⟩, h4, h5⟩ := h
  obtain ⟨h6, h7⟩ := h5 (by omega)
  exact ⟨(bt tab c).toNat, by omega, h6, by omega, h4, h7⟩

set_option maxRecDepth 100000 in
theorem j0_spec (k : Nat) {x o : Int} (h0 : 0 < x) (h1 : x < 4294967296) (ho : 0 ≤ o) (ho' : o ≤ 32) :
    ∃ t : Nat, bits_Len64.j0 (k + 1) x o = some (o + t) ∧ 1 ≤ t ∧ t ≤ 32 ∧ (2 : Int) ^ (t - 1) ≤ x ∧ x < (2 : Int) ^ t := by
  simp only [bits_Len64.j0]
  by_cases c1 : x ≥ 65536
  · rw [if_pos c1]
    by_cases c2 : x / 65536 ≥ 256
    · rw [if_pos c2]
      have hc : x / 65536 / 256 % 256 = x / 16777216 := by omega
      rw [hc, if_pos (by omega), if_pos (by omega)]
      obtain ⟨t, ht, a1, a2, a3, a4⟩ := tab_spec (c := x / 16777216) (by omega) (by omega)
      obtain ⟨b1, b2⟩ := len_of (y := x) (e := 24) a1 a4 a3
      refine ⟨t + 24, ?_, by omega, by omega, b1, b2⟩
      show some (wrap64 ((wrap64 ((wrap64 (o + 16)) + 8)) + (wrap64 (bt tab (x / 16777216))))) = _
      rw [ht]; unfold wrap64; congr 1; omega
    · rw [if_neg c2]
      have hc : x / 65536 % 256 = x / 65536 := by omega
      rw [hc, if_pos (by omega), if_pos (by omega)]
      obtain ⟨t, ht, a1, a2, a3, a4⟩ := tab_spec (c := x / 65536) (by omega) (by omega)
      obtain ⟨b1, b2⟩ := len_of (y := x) (e := 16) a1 a4 a3
      refine ⟨t + 16, ?_, by omega, by omega, b1, b2⟩
      show some (wrap64 ((wrap64 (o + 16)) + (wrap64 (bt tab (x / 65536))))) = _
      rw [ht]; unfold wrap64; congr 1; omega
  · rw [if_neg c1]
    by_cases c2 : x ≥ 256
    · rw [if_pos c2]
      have hc : x / 256 % 256 = x / 256 := by omega
      rw [hc, if_pos (by omega), if_pos (by omega)]
      obtain ⟨t, ht, a1, a2, a3, a4⟩ := tab_spec (c := x / 256) (by omega) (by omega)
      obtain ⟨b1, b2⟩ := len_of (y := x) (e := 8) a1 a4 a3
      refine ⟨t + 8, ?_, by omega, by omega, b1, b2⟩
      show some (wrap64 ((wrap64 (o + 8)) + (wrap64 (bt tab (x / 256))))) = _
      rw [ht]; unfold wrap64; congr 1; omega
    · rw [if_neg c2]
      have hc : x % 256 = x := by omega
      rw [hc, if_pos (by omega), if_pos (by omega)]
      obtain ⟨t, ht, a1, a2, a3, a4⟩ := tab_spec (c := x) (by omega) (by omega)
      refine ⟨t, ?_, by omega, by omega, a4, a3⟩
      show some (wrap64 (o + (wrap64 (bt tab x)))) = _
      rw [ht]; unfold wrap64; congr 1; omega

theorem len64_spec (k : Nat) {y : Int} (h0 : 0 < y) (h1 : y < 18446744073709551616) :
    ∃ n : Nat, bits_Len64.f (k + 1) y = some (n : Int) ∧ 1 ≤ n ∧ n ≤ 64 ∧ (2 : Int) ^ (n - 1) ≤ y ∧ y < (2 : Int) ^ n := by
  unfold bits_Len64.f
  by_cases c : y ≥ 4294967296
  · rw [if_pos c]
    obtain ⟨t, ht, a1, a2, a3, a4⟩ := j0_spec k (x := y / 4294967296) (o := 32) (by omega) (by omega) (by omega) (by omega)
    obtain ⟨b1, b2⟩ := len_of (y := y) (e := 32) a1 a3 a4
    exact ⟨t + 32, by rw [ht]; congr 1; omega, by omega, by omega, b1, b2⟩
  · rw [if_neg c]
    obtain ⟨t, ht, a1, a2, a3, a4⟩ := j0_spec k (x := y) (o := 0) (by omega) (by omega) (by omega) (by omega)
    exact ⟨t, by rw [ht]; congr 1; omega, by omega, by omega, a3, a4⟩

/-- One digit of the quotient, being found: what holds at each round. -/
structure Digit (Y v1 v0 u d q r : Int) : Prop where
  hY : Y = v1 * 4294967296 + v0
  h1 : 2147483648 ≤ v1
  h2 : v1 < 4294967296
  h3 : 0 ≤ v0
  h4 : v0 < 4294967296
  h5 : 0 ≤ u
  h6 : u < Y
  h7 : 0 ≤ d
  h8 : d < 4294967296
  h9 : 0 ≤ q
  ha : 0 ≤ r
  hb : r < 4294967296
  hc : u = q * v1 + r
  hd : u * 4294967296 + d < (q + 1) * Y

theorem Digit.prod {Y v1 v0 u d q r : Int} (h : Digit Y v1 v0 u d q r) : q * Y = (u - r) * 4294967296 + q * v0 := by
  have e : u - r = q * v1 := by have := h.hc; omega
  rw [e, h.hY, Int.mul_add, Int.mul_assoc]

/-- The digit is too great. -/
theorem Digit.great {Y v1 v0 u d q r : Int} (h : Digit Y v1 v0 u d q r) (ht : 4294967296 ≤ q ∨ 4294967296 * r + d < q * v0) : u * 4294967296 + d < q * Y := by
  have hp := h.prod
  rcases ht with ht | ht
  · have h6 := h.h6
    have h8 := h.h8
    have hle : 4294967296 * Y ≤ q * Y := Int.mul_le_mul_of_nonneg_right ht (by have := h.h5; omega)
    omega
  · omega
theorem Digit.less {Y v1 v0 u d q r : Int} (h : Digit Y v1 v0 u d q r) (ht : u * 4294967296 + d < q * Y) (hr : r + v1 < 4294967296) : Digit Y v1 v0 u d (q - 1) (r + v1) := by
  have h9 : 0 < q := by
    apply Classical.byContradiction
    intro hn
    have := h.h9
    have : q = 0 := by omega
    rw [this] at ht
    have := h.h5; have := h.h7
    omega
  have hc := h.hc
  have ha := h.ha
  have h1 := h.h1
  exact { h with h9 := by omega, ha := by omega, hb := hr, hc := by rw [Int.sub_mul]; omega, hd := by rw [Int.sub_add_cancel]; exact ht }
/-- The right digit: the rest. -/
theorem Digit.ends {Y v1 v0 u d q r : Int} (h : Digit Y v1 v0 u d q r) (h1 : q < 4294967296) (h2 : q * v0 ≤ 4294967296 * r + d) : q * Y ≤ u * 4294967296 + d := by
  have hp := h.prod
  omega
/-- The round that goes beyond: it is the right one. -/
theorem Digit.breaks {Y v1 v0 u d q r : Int} (h : Digit Y v1 v0 u d q r) (ht : u * 4294967296 + d < q * Y) (hr : 4294967296 ≤ r + v1) :
    0 ≤ q - 1 ∧ q - 1 < 4294967296 ∧ (q - 1) * Y ≤ u * 4294967296 + d ∧ u * 4294967296 + d < (q - 1) * Y + Y := by
  have h9 : 0 < q := by
    apply Classical.byContradiction
    intro hn
    have := h.h9
    have : q = 0 := by omega
    rw [this] at ht
    have := h.h5; have := h.h7
    omega
  have hc : u = (q - 1) * v1 + (r + v1) := by have := h.hc; rw [Int.sub_mul]; omega
  have hlt : q - 1 < 4294967296 := by
    apply Classical.byContradiction
    intro hn
    have hle : 4294967296 * v1 ≤ (q - 1) * v1 := Int.mul_le_mul_of_nonneg_right (by omega) (by have := h.h1; omega)
    have := h.h6; have := h.hY; have := h.h4
    omega
  have hp : (q - 1) * Y = (u - (r + v1)) * 4294967296 + (q - 1) * v0 := by
    have e : u - (r + v1) = (q - 1) * v1 := by omega
    rw [e, h.hY, Int.mul_add, Int.mul_assoc]
  have hv : (q - 1) * v0 ≤ 4294967295 * 4294967295 := by
    have := h.h4; have := h.h3
    exact Int.mul_le_mul (by omega) (by omega) h.h3 (by omega)
  refine ⟨by omega, hlt, ?_, ?_⟩
  · have := h.h7
    omega
  · have e : (q - 1) * Y + Y = q * Y := by rw [Int.sub_mul]; omega
    omega

theorem rest_of {A Y q : Int} (h1 : q * Y ≤ A) (h2 : A < q * Y + Y) : A - q * Y = A % Y := by
  have e : A = (A - q * Y) + q * Y := by omega
  have : A % Y = (A - q * Y) % Y := by
    conv => lhs; rw [e]
    rw [Int.add_mul_emod_self_right]
  rw [this]
  exact (Int.emod_eq_of_lt (by omega) (by omega)).symm

/-- What is left, as the machine reckons it. -/
theorem left_of {A B d M : Int} (hM : M = 18446744073709551616) (h0 : 0 ≤ A + d - B) (h1 : A + d - B < M) (hd : 0 ≤ d) : (((A % M) + d) % M - B % M) % M = A + d - B := by
  subst hM
  omega

theorem shr_rest {X : Int} {s : Int} {n : Nat} (hs : s = n) (hn : n ≤ 64) : shr .u64 X s = X / 2 ^ n := by
  subst hs
  unfold shr
  have : min ((n : Int)).toNat IntKind.u64.bits = n := by
    show min ((n : Int)).toNat 64 = n
    omega
  rw [this]

/-- The second digit, and the end. -/
theorem l1_spec {Y v1 v0 u d : Int} {s : Nat} (hs : s ≤ 64) (hY64 : Y < 18446744073709551616) (x15 : Int) (n : Nat) : ∀ (k : Nat) (q r : Int), 2 * n + 2 ≤ k → 4294967296 - r ≤ n * 2147483648 → Digit Y v1 v0 u d q r →
    ∃ a, bits_Div64.l1 k Y s v1 v0 d x15 r u q = some (a, ((u * 4294967296 + d) % Y) / 2 ^ s) := by
  induction n with
  | zero =>
    intro k q r hk hn h
    have := h.hb
    omega
  | succ n ih =>
    intro k q r hk hn h
    obtain ⟨k, rfl⟩ : ∃ m, k = m + 2 := ⟨k - 2, by omega⟩
    have h1 := h.h1; have h2 := h.h2; have h3 := h.h3; have h4 := h.h4; have h5 := h.h5; have h6 := h.h6; have h7 := h.h7; have h8 := h.h8; have h9 := h.h9; have ha := h.ha; have hb := h.hb
    have hend : ∀ q' : Int, 0 ≤ q' → q' * Y ≤ u * 4294967296 + d → u * 4294967296 + d < q' * Y + Y → shr .u64 (IntKind.u64.wrap ((IntKind.u64.wrap ((IntKind.u64.wrap (u * 4294967296)) + d)) - (IntKind.u64.wrap (q' * Y)))) (s : Int) = ((u * 4294967296 + d) % Y) / 2 ^ s := by
      intro q' _ e1 e2
      rw [shr_rest rfl hs]
      simp only [wu]
      rw [left_of rfl (by omega) (by omega) h7, rest_of e1 e2]
    have hgo : ∀ _ : u * 4294967296 + d < q * Y, ∃ a, bits_Div64.j4 (k + 1) Y s v1 v0 d x15 r u q true = some (a, ((u * 4294967296 + d) % Y) / 2 ^ s) := by
      intro ht
      simp only [bits_Div64.j4, if_true]
      rw [wu_in (n := r + v1) (by omega) (by omega)]
      by_cases c : r + v1 ≥ 4294967296
      · rw [if_pos c, if_pos (by omega)]
        obtain ⟨e0, e1, e2, e3⟩ := h.breaks ht c
        rw [wu_in (n := q - 1) (by omega) (by omega), hend (q - 1) e0 e2 e3]
        exact ⟨_, rfl⟩
      · rw [if_neg c]
        have h' := h.less ht (by omega)
        have h9' := h'.h9
        have hle : q - 1 < 18446744073709551616 := by
          have := h'.hc
          apply Classical.byContradiction
          intro hnn
          have hle : 18446744073709551616 * v1 ≤ (q - 1) * v1 := Int.mul_le_mul_of_nonneg_right (by omega) (by omega)
          have := h'.ha
          omega
        rw [wu_in (n := q - 1) h9' hle]
        exact ih k (q - 1) (r + v1) (by omega) (by omega) h'
    simp only [bits_Div64.l1]
    by_cases c1 : q ≥ 4294967296
    · rw [if_pos c1]
      exact hgo (h.great (.inl c1))
    · rw [if_neg c1]
      have hqv : q * v0 ≤ 4294967295 * 4294967295 := Int.mul_le_mul (by omega) (by omega) h3 (by omega)
      have hqv0 : 0 ≤ q * v0 := Int.mul_nonneg h9 h3
      rw [wu_in (n := q * v0) hqv0 (by omega), wu_in (n := 4294967296 * r) (by omega) (by omega), wu_in (n := 4294967296 * r + d) (by omega) (by omega)]
      by_cases c2 : q * v0 > 4294967296 * r + d
      · rw [decide_eq_true c2]
        exact hgo (h.great (.inr c2))
      · rw [decide_eq_false c2]
        simp only [bits_Div64.j4, Bool.false_eq_true, if_false]
        have hle := h.ends (by omega) (by omega)
        have hlt := h.hd
        rw [Int.add_mul, Int.one_mul] at hlt
        rw [if_pos (by omega), hend q h9 hle hlt]
        exact ⟨_, rfl⟩

/-- Behind the first digit. -/
theorem j2_spec {Y v1 v0 u d d0 q : Int} {s : Nat} (hs : s ≤ 64) (hY64 : Y < 18446744073709551616) (hY : Y = v1 * 4294967296 + v0) (h1 : 2147483648 ≤ v1) (h2 : v1 < 4294967296) (h3 : 0 ≤ v0) (h4 : v0 < 4294967296)
    (hd : 0 ≤ d) (h0 : 0 ≤ d0) (h0' : d0 < 4294967296) (e1 : q * Y ≤ u * 4294967296 + d) (e2 : u * 4294967296 + d < q * Y + Y) (k : Nat) (hk : 7 ≤ k) :
    ∃ a, bits_Div64.j2 k Y s v1 v0 u d d0 q = some (a, ((((u * 4294967296 + d) % Y) * 4294967296 + d0) % Y) / 2 ^ s) := by
  obtain ⟨k, rfl⟩ : ∃ m, k = m + 1 := ⟨k - 1, by omega⟩
  simp only [bits_Div64.j2]
  rw [if_neg (by omega)]
  have hU : IntKind.u64.wrap ((IntKind.u64.wrap ((IntKind.u64.wrap (u * 4294967296)) + d)) - (IntKind.u64.wrap (q * Y))) = (u * 4294967296 + d) % Y := by
    simp only [wu]
    rw [left_of rfl (by omega) (by omega) hd, rest_of e1 e2]
  rw [hU]
  have hpos : 0 < Y := by omega
  have hR0 : 0 ≤ (u * 4294967296 + d) % Y := Int.emod_nonneg _ (by omega)
  have hR1 : (u * 4294967296 + d) % Y < Y := Int.emod_lt_of_pos _ hpos
  generalize (u * 4294967296 + d) % Y = R at hR0 hR1 ⊢
  have hdiv : Int.tdiv R v1 = R / v1 := Int.tdiv_eq_ediv_of_nonneg hR0
  have hm0 : 0 ≤ R % v1 := Int.emod_nonneg _ (by omega)
  have hm1 : R % v1 < v1 := Int.emod_lt_of_pos _ (by omega)
  have hme : R / v1 * v1 + R % v1 = R := Int.ediv_mul_add_emod R v1
  have hq0 : 0 ≤ R / v1 := Int.ediv_nonneg hR0 (by omega)
  have hq1 : R / v1 < 18446744073709551616 := by
    apply Classical.byContradiction
    intro hnn
    have hle : 18446744073709551616 * v1 ≤ R / v1 * v1 := Int.mul_le_mul_of_nonneg_right (by omega) (by omega)
    omega
  rw [hdiv, wu_in hq0 hq1]
  have hqv : 0 ≤ R / v1 * v1 := Int.mul_nonneg hq0 (by omega)
  rw [wu_in (n := R / v1 * v1) hqv (by omega), wu_in (n := R - R / v1 * v1) (by omega) (by omega)]
  have er : R - R / v1 * v1 = R % v1 := by omega
  rw [er]
  refine l1_spec hs hY64 q 2 k (R / v1) (R % v1) (by omega) (by omega) { hY := hY, h1 := h1, h2 := h2, h3 := h3, h4 := h4, h5 := hR0, h6 := hR1, h7 := h0, h8 := h0', h9 := hq0, ha := hm0, hb := by omega, hc := by omega, hd := ?_ }
  have hx : (R / v1 + 1) * Y = (R / v1 * v1 + v1) * 4294967296 + (R / v1 + 1) * v0 := by
    have : R / v1 * v1 + v1 = (R / v1 + 1) * v1 := by rw [Int.add_mul, Int.one_mul]
    rw [this, hY, Int.mul_add, Int.mul_assoc]
  have hy : 0 ≤ (R / v1 + 1) * v0 := Int.mul_nonneg (by omega) h3
  omega

/-- The first digit. -/
theorem l0_spec {Y v1 v0 u d d0 : Int} {s : Nat} (hs : s ≤ 64) (hY64 : Y < 18446744073709551616) (h0 : 0 ≤ d0) (h0' : d0 < 4294967296) (n : Nat) : ∀ (k : Nat) (q r : Int), 2 * n + 9 ≤ k → 4294967296 - r ≤ n * 2147483648 → Digit Y v1 v0 u d q r →
    ∃ a, bits_Div64.l0 k Y s v1 v0 u d d0 q r = some (a, ((((u * 4294967296 + d) % Y) * 4294967296 + d0) % Y) / 2 ^ s) := by
  induction n with
  | zero =>
    intro k q r hk hn h
    have := h.hb
    omega
  | succ n ih =>
    intro k q r hk hn h
    obtain ⟨k, rfl⟩ : ∃ m, k = m + 2 := ⟨k - 2, by omega⟩
    have h1 := h.h1; have h2 := h.h2; have h3 := h.h3; have h4 := h.h4; have h5 := h.h5; have h6 := h.h6; have h7 := h.h7; have h8 := h.h8; have h9 := h.h9; have ha := h.ha; have hb := h.hb
    have hgo : ∀ _ : u * 4294967296 + d < q * Y, ∃ a, bits_Div64.j1 (k + 1) Y s v1 v0 u d d0 q r true = some (a, ((((u * 4294967296 + d) % Y) * 4294967296 + d0) % Y) / 2 ^ s) := by
      intro ht
      simp only [bits_Div64.j1, if_true]
      rw [wu_in (n := r + v1) (by omega) (by omega)]
      by_cases c : r + v1 ≥ 4294967296
      · rw [if_pos c]
        obtain ⟨e0, e1, e2, e3⟩ := h.breaks ht c
        rw [wu_in (n := q - 1) (by omega) (by omega)]
        exact j2_spec hs hY64 h.hY h1 h2 h3 h4 h7 h0 h0' e2 e3 k (by omega)
      · rw [if_neg c]
        have h' := h.less ht (by omega)
        have h9' := h'.h9
        have hle : q - 1 < 18446744073709551616 := by
          have := h'.hc
          apply Classical.byContradiction
          intro hnn
          have hle : 18446744073709551616 * v1 ≤ (q - 1) * v1 := Int.mul_le_mul_of_nonneg_right (by omega) (by omega)
          have := h'.ha
          omega
        rw [wu_in (n := q - 1) h9' hle]
        exact ih k (q - 1) (r + v1) (by omega) (by omega) h'
    simp only [bits_Div64.l0]
    by_cases c1 : q ≥ 4294967296
    · rw [if_pos c1]
      exact hgo (h.great (.inl c1))
    · rw [if_neg c1]
      have hqv : q * v0 ≤ 4294967295 * 4294967295 := Int.mul_le_mul (by omega) (by omega) h3 (by omega)
      have hqv0 : 0 ≤ q * v0 := Int.mul_nonneg h9 h3
      rw [wu_in (n := q * v0) hqv0 (by omega), wu_in (n := 4294967296 * r) (by omega) (by omega), wu_in (n := 4294967296 * r + d) (by omega) (by omega)]
      by_cases c2 : q * v0 > 4294967296 * r + d
      · rw [decide_eq_true c2]
        exact hgo (h.great (.inr c2))
      · rw [decide_eq_false c2]
        simp only [bits_Div64.j1, Bool.false_eq_true, if_false]
        have hle := h.ends (by omega) (by omega)
        have hlt := h.hd
        rw [Int.add_mul, Int.one_mul] at hlt
        exact j2_spec hs hY64 h.hY h1 h2 h3 h4 h7 h0 h0' hle hlt k (by omega)

theorem u64_mask {x : Int} (h0 : 0 ≤ x) (h1 : x < 18446744073709551616) : Go.bits .and .u64 x 4294967295 = x % 4294967296 :=
  bits_mask .u64 64 (by decide) (fun n a b => wu_in a (by simpa using b)) 32 (by decide) x h0 (by simpa using h1)

theorem div64_spec {hi lo y : Int} (h0 : 0 ≤ hi) (h1 : hi < y) (h2 : 0 ≤ lo) (h3 : lo < 18446744073709551616) (h4 : y < 18446744073709551616) (k : Nat) (hk : 13 ≤ k) :
    ∃ a, bits_Div64.f k hi lo y = some (a, (hi * 18446744073709551616 + lo) % y) := by
  obtain ⟨k', rfl⟩ : ∃ m, k = m + 1 := ⟨k - 1, by omega⟩
  unfold bits_Div64.f
  rw [if_neg (by omega), if_neg (by omega)]
  by_cases c : hi = 0
  · rw [if_pos c]
    subst c
    exact ⟨IntKind.u64.wrap (Int.tdiv lo y), by rw [Int.tmod_eq_emod_of_nonneg h2, Int.zero_mul, Int.zero_add]⟩
  · rw [if_neg c]
    obtain ⟨n, hn, n1, n2, n3, n4⟩ := len64_spec k' (y := y) (by omega) h4
    obtain ⟨s, hs⟩ : ∃ s : Nat, s = 64 - n := ⟨_, rfl⟩
    have hlz : bits_LeadingZeros64.f (k' + 1) y = some (s : Int) := by
      unfold bits_LeadingZeros64.f
      rw [hn]
      simp only [Option.bind_some]
      unfold wrap64
      congr 1
      omega
    rw [hlz]
    simp only [Option.bind_some]
    rw [wu_in (n := (s : Int)) (by omega) (by omega), if_pos (by omega), wu_in (n := 64 - (s : Int)) (by omega) (by omega), if_pos (by omega)]
    have hp : (0 : Int) < 2 ^ s := Int.pow_pos (by omega)
    have e64 : (2 : Int) ^ n * 2 ^ s = 18446744073709551616 := by
      rw [← Int.pow_add]
      have : n + s = 64 := by omega
      rw [this]; rfl
    have e63 : (2 : Int) ^ (n - 1) * 2 ^ s = 9223372036854775808 := by
      rw [← Int.pow_add]
      have : n - 1 + s = 63 := by omega
      rw [this]; rfl
    have eS : (2 : Int) ^ s * 2 ^ (64 - s) = 18446744073709551616 := by
      rw [← Int.pow_add]
      have : s + (64 - s) = 64 := by omega
      rw [this]; rfl
    have hY1 : y * 2 ^ s < 18446744073709551616 := by rw [← e64]; exact Int.mul_lt_mul_of_pos_right n4 hp
    have hY0 : 9223372036854775808 ≤ y * 2 ^ s := by rw [← e63]; exact Int.mul_le_mul_of_nonneg_right n3 (by omega)
    have hmin : ∀ j : Nat, j ≤ 64 → min ((j : Int)).toNat IntKind.u64.bits = j := fun j hj => by
      show min ((j : Int)).toNat 64 = j
      omega
    have hsY : shl .u64 y (s : Int) = y * 2 ^ s := by
      unfold shl
      rw [hmin s (by omega), wu_in (by omega) hY1]
    have hsh : shl .u64 hi (s : Int) = hi * 2 ^ s := by
      unfold shl
      rw [hmin s (by omega), wu_in (Int.mul_nonneg h0 (by omega))]
      exact Int.lt_trans (Int.mul_lt_mul_of_pos_right h1 hp) hY1
    have hsl : shl .u64 lo (s : Int) = (lo * 2 ^ s) % 18446744073709551616 := by
      unfold shl
      rw [hmin s (by omega), wu]
    have hsr : shr .u64 lo (64 - (s : Int)) = lo / 2 ^ (64 - s) := by
      unfold shr
      have : min (64 - (s : Int)).toNat IntKind.u64.bits = 64 - s := by
        show min (64 - (s : Int)).toNat 64 = 64 - s
        omega
      rw [this]
    rw [hsY, hsh, hsl, hsr]
    have hpr : (0 : Int) < 2 ^ (64 - s) := Int.pow_pos (by omega)
    have hr0 : 0 ≤ lo / 2 ^ (64 - s) := Int.ediv_nonneg h2 (by omega)
    have hr1 : lo / 2 ^ (64 - s) < 2 ^ s := by
      rw [Int.ediv_lt_iff_lt_mul hpr, eS]
      exact h3
    have hh : hi * 2 ^ s + 2 ^ s ≤ y * 2 ^ s := by
      have : hi * 2 ^ s + 2 ^ s = (hi + 1) * 2 ^ s := by rw [Int.add_mul, Int.one_mul]
      rw [this]
      exact Int.mul_le_mul_of_nonneg_right (by omega) (by omega)
    have hhn : 0 ≤ hi * 2 ^ s := Int.mul_nonneg h0 (by omega)
    have hsn : (2 : Int) ^ s ≤ 18446744073709551616 := by omega
    have hor : Go.bits .or .u64 (hi * 2 ^ s) (lo / 2 ^ (64 - s)) = hi * 2 ^ s + lo / 2 ^ (64 - s) :=
      bits_join .u64 64 (by decide) (fun n a b => wu_in a (by simpa using b)) s _ _ hhn (Int.mul_emod_left _ _) (by simpa using (by omega : hi * 2 ^ s < 18446744073709551616)) hr0 hr1 (by simpa using (by omega : lo / 2 ^ (64 - s) < 18446744073709551616))
    rw [hor]
    -- both words, moved
    have hlow : lo * 2 ^ s = (lo / 2 ^ (64 - s)) * 18446744073709551616 + (lo * 2 ^ s) % 18446744073709551616 := by
      have e1 : lo * 2 ^ s / 18446744073709551616 = lo / 2 ^ (64 - s) := by
        rw [← eS, Int.mul_comm (2 ^ s) (2 ^ (64 - s)), Int.mul_ediv_mul_of_pos_left _ _ hp]
      have := Int.ediv_mul_add_emod (lo * 2 ^ s) 18446744073709551616
      rw [e1] at this
      exact this.symm
    obtain ⟨L, hL⟩ : ∃ L, L = (lo * 2 ^ s) % 18446744073709551616 := ⟨_, rfl⟩
    obtain ⟨U, hU⟩ : ∃ U, U = hi * 2 ^ s + lo / 2 ^ (64 - s) := ⟨_, rfl⟩
    obtain ⟨Y, hYd⟩ : ∃ Y, Y = y * 2 ^ s := ⟨_, rfl⟩
    have hfull : (hi * 18446744073709551616 + lo) * 2 ^ s = U * 18446744073709551616 + L := by
      rw [Int.add_mul, hlow, ← hL, hU, Int.add_mul]
      have : hi * 18446744073709551616 * 2 ^ s = hi * 2 ^ s * 18446744073709551616 := by
        rw [Int.mul_assoc, Int.mul_comm 18446744073709551616, ← Int.mul_assoc]
      omega
    rw [← hL, ← hU, ← hYd]
    rw [← hYd] at hY0 hY1 hh
    have hL0 : 0 ≤ L := by omega
    have hL1 : L < 18446744073709551616 := by omega
    have hU0 : 0 ≤ U := by omega
    have hU1 : U < Y := by omega
    rw [u64_mask hL0 hL1, u64_mask (by omega) hY1, if_neg (by omega)]
    obtain ⟨v1, hv1⟩ : ∃ v, v = Y / 4294967296 := ⟨_, rfl⟩
    rw [← hv1]
    have hdiv : Int.tdiv U v1 = U / v1 := Int.tdiv_eq_ediv_of_nonneg hU0
    have hm0 : 0 ≤ U % v1 := Int.emod_nonneg _ (by omega)
    have hm1 : U % v1 < v1 := Int.emod_lt_of_pos _ (by omega)
    have hme : U / v1 * v1 + U % v1 = U := Int.ediv_mul_add_emod U v1
    have hq0 : 0 ≤ U / v1 := Int.ediv_nonneg hU0 (by omega)
    have hq1 : U / v1 < 18446744073709551616 := by
      apply Classical.byContradiction
      intro hnn
      have hle : 18446744073709551616 * v1 ≤ U / v1 * v1 := Int.mul_le_mul_of_nonneg_right (by omega) (by omega)
      omega
    have hqv : 0 ≤ U / v1 * v1 := Int.mul_nonneg hq0 (by omega)
    rw [hdiv, wu_in hq0 hq1, wu_in (n := U / v1 * v1) hqv (by omega), wu_in (n := U - U / v1 * v1) (by omega) (by omega)]
    have er : U - U / v1 * v1 = U % v1 := by omega
    rw [er]
    have hlast : (U / v1 + 1) * Y = (U / v1 * v1 + v1) * 4294967296 + (U / v1 + 1) * (Y % 4294967296) := by
      have e1 : U / v1 * v1 + v1 = (U / v1 + 1) * v1 := by rw [Int.add_mul, Int.one_mul]
      have e2 : Y = v1 * 4294967296 + Y % 4294967296 := by omega
      rw [e1]
      conv => lhs; rw [e2]
      rw [Int.mul_add, Int.mul_assoc]
    have hlast0 : 0 ≤ (U / v1 + 1) * (Y % 4294967296) := Int.mul_nonneg (by omega) (by omega)
    obtain ⟨a, ha⟩ := l0_spec (Y := Y) (v1 := v1) (v0 := Y % 4294967296) (u := U) (d := L / 4294967296) (d0 := L % 4294967296) (s := s) (by omega) hY1 (by omega) (by omega) 2 (k' + 1) (U / v1) (U % v1) (by omega) (by omega)
      { hY := by omega, h1 := by omega, h2 := by omega, h3 := by omega, h4 := by omega, h5 := hU0, h6 := hU1, h7 := by omega, h8 := by omega, h9 := hq0, ha := hm0, hb := by omega, hc := by omega, hd := by omega }
    rw [ha]
    refine ⟨a, ?_⟩
    congr 2
    have hYpos : 0 < Y := by omega
    have e1 : ((U * 4294967296 + L / 4294967296) % Y * 4294967296 + L % 4294967296) % Y = (U * 18446744073709551616 + L) % Y := by
      have : U * 18446744073709551616 + L = (U * 4294967296 + L / 4294967296) * 4294967296 + L % 4294967296 := by omega
      rw [this]
      generalize U * 4294967296 + L / 4294967296 = Z
      rw [Int.add_emod, Int.mul_emod, Int.emod_emod, ← Int.mul_emod, ← Int.add_emod]
    rw [e1, ← hfull, hYd, Int.mul_comm _ ((2 : Int) ^ s), Int.mul_comm y, Int.mul_emod_mul_of_pos _ _ hp, Int.mul_comm ((2 : Int) ^ s)]
    exact Int.mul_ediv_cancel _ (by omega)

/-- The rest of a number of two words. -/
theorem rem64_spec {hi lo y : Int} (h0 : 0 ≤ hi) (h2 : 0 ≤ lo) (h3 : lo < 18446744073709551616) (hy : 0 < y) (h4 : y < 18446744073709551616) (k : Nat) (hk : 13 ≤ k) :
    bits_Rem64.f k hi lo y = some ((hi * 18446744073709551616 + lo) % y) := by
  unfold bits_Rem64.f
  rw [if_neg (by omega), Int.tmod_eq_emod_of_nonneg h0]
  obtain ⟨a, ha⟩ := div64_spec (hi := hi % y) (lo := lo) (y := y) (Int.emod_nonneg _ (by omega)) (Int.emod_lt_of_pos _ hy) h2 h3 h4 k hk
  rw [ha]
  simp only [Option.bind_some]
  congr 1
  rw [Int.add_emod, Int.mul_emod, Int.emod_emod, ← Int.mul_emod, ← Int.add_emod]

end Go.Proofs.Ytffcjgelcdilcaa.Spec

namespace Go.Proofs.Ytffcjgelcdilcaa.Spec
open Go.RowKit Go.Proofs.Ytffcjgelcdilcaa.PSer Go.Proofs.YtffcjgelcdilcaaW.PrintWords Go.Proofs.YtffcjgelcdilcaaW.PrintLast Go.Proofs.YtffcjgelcdilcaaW.PrintMore

theorem w64_in {n : Int} (h0 : -9223372036854775808 ≤ n) (h1 : n < 9223372036854775808) : wrap64 n = n := by unfold wrap64; omega
theorem rd_nat (l : List Int) (i : Nat) : rd l (i : Int) = l.getD i 0 := by unfold rd; rw [Int.toNat_natCast]
theorem rd_lt {l : List Int} {i : Nat} (h : i < l.length) : rd l (i : Int) = l[i] := by rw [rd_nat, List.getD_eq_getElem?_getD, List.getElem?_eq_getElem h]; rfl

/-- A modulus that may be. -/
def okB (p : Int) : Bool := decide (2 ≤ p) && decide (p < 9223372036854775808)
def hasB (p : Int) (l : List Int) : Bool := (l.all fun x => decide (x < p)) && okB p

theorem right_spec (p : Int) : field_Right.f p = some (okB p) := by
  unfold field_Right.f okB
  by_cases h : p ≥ 2
  · rw [if_pos h, decide_eq_true (p := 2 ≤ p) h, Bool.true_and]
  · rw [if_neg h, decide_eq_false (p := 2 ≤ p) h, Bool.false_and]

theorem has_l0 {p : Int} {l : List Int} (hl : l.length < 4611686018427387904) (d : Nat) : ∀ k i : Nat, i + d = l.length → d < k → field_Has.l0 k p l (l.length : Int) (i : Int) = some (((l.drop i).all fun x => decide (x < p)) && okB p) := by
  induction d with
  | zero =>
    intro k i hi hk
    obtain ⟨k, rfl⟩ : ∃ m, k = m + 1 := ⟨k - 1, by omega⟩
    simp only [field_Has.l0]
    rw [if_neg (by omega), right_spec, List.drop_of_length_le (by omega)]
    rfl
  | succ d ih =>
    intro k i hi hk
    obtain ⟨k, rfl⟩ : ∃ m, k = m + 1 := ⟨k - 1, by omega⟩
    simp only [field_Has.l0]
    rw [if_pos (by omega), if_pos (by omega), if_pos (by omega)]
    have hlt : i < l.length := by omega
    rw [rd_lt hlt, List.drop_eq_getElem_cons hlt, List.all_cons]
    by_cases h : l[i] ≥ p
    · rw [if_pos h, decide_eq_false (p := l[i] < p) (by omega)]
      rfl
    · rw [if_neg h, decide_eq_true (p := l[i] < p) (by omega), w64_in (by omega) (by omega)]
      have := ih k (i + 1) (by omega) (by omega)
      rw [show ((i + 1 : Nat) : Int) = (i : Int) + 1 by omega] at this
      rw [this, Bool.true_and]

theorem has_spec {p : Int} {l : List Int} (hl : l.length < 4611686018427387904) {k : Nat} (hk : l.length < k) : field_Has.f k p l = some (hasB p l) := by
  unfold field_Has.f
  exact has_l0 hl l.length k 0 (by omega) hk

theorem has_two {p a b : Int} {k : Nat} (hk : 3 ≤ k) : field_Has.f k p [a, b] = some (decide (a < p) && (decide (b < p) && okB p)) := by
  rw [has_spec (by simp) (by simp; omega)]
  simp [hasB, Bool.and_assoc]
theorem has_one {p a : Int} {k : Nat} (hk : 2 ≤ k) : field_Has.f k p [a] = some (decide (a < p) && okB p) := by
  rw [has_spec (by simp) (by simp; omega)]
  simp [hasB]

theorem mul64_spec {a b : Int} (ha : 0 ≤ a) (ha' : a < 18446744073709551616) (hb : 0 ≤ b) (hb' : b < 18446744073709551616) : bits_Mul64.f a b = some (a * b / 18446744073709551616, (a * b) % 18446744073709551616) := by
  unfold bits_Mul64.f
  rw [u64_mask ha ha', u64_mask hb hb', wu (a * b)]
  obtain ⟨x1, hx1⟩ : ∃ x, x = a / 4294967296 := ⟨_, rfl⟩
  obtain ⟨x0, hx0⟩ : ∃ x, x = a % 4294967296 := ⟨_, rfl⟩
  obtain ⟨y1, hy1⟩ : ∃ x, x = b / 4294967296 := ⟨_, rfl⟩
  obtain ⟨y0, hy0⟩ : ∃ x, x = b % 4294967296 := ⟨_, rfl⟩
  rw [← hx1, ← hx0, ← hy1, ← hy0]
  have hab : a * b = x1 * y1 * 18446744073709551616 + (x1 * y0 + x0 * y1) * 4294967296 + x0 * y0 := by
    have e1 : a = x1 * 4294967296 + x0 := by omega
    have e2 : b = y1 * 4294967296 + y0 := by omega
    rw [e1, e2]
    grind
  have b11 : 0 ≤ x1 * y1 := Int.mul_nonneg (by omega) (by omega)
  have b10 : 0 ≤ x1 * y0 := Int.mul_nonneg (by omega) (by omega)
  have b01 : 0 ≤ x0 * y1 := Int.mul_nonneg (by omega) (by omega)
  have b00 : 0 ≤ x0 * y0 := Int.mul_nonneg (by omega) (by omega)
  have c11 : x1 * y1 ≤ 4294967295 * 4294967295 := Int.mul_le_mul (by omega) (by omega) (by omega) (by omega)
  have c10 : x1 * y0 ≤ 4294967295 * 4294967295 := Int.mul_le_mul (by omega) (by omega) (by omega) (by omega)
  have c01 : x0 * y1 ≤ 4294967295 * 4294967295 := Int.mul_le_mul (by omega) (by omega) (by omega) (by omega)
  have c00 : x0 * y0 ≤ 4294967295 * 4294967295 := Int.mul_le_mul (by omega) (by omega) (by omega) (by omega)
  rw [hab]
  generalize x1 * y1 = p11 at *
  generalize x1 * y0 = p10 at *
  generalize x0 * y1 = p01 at *
  generalize x0 * y0 = p00 at *
  rw [wu_in (n := p11) (by omega) (by omega), wu_in (n := p10) (by omega) (by omega), wu_in (n := p01) (by omega) (by omega), wu_in (n := p00) (by omega) (by omega)]
  rw [wu_in (n := p10 + p00 / 4294967296) (by omega) (by omega)]
  rw [u64_mask (by omega) (by omega)]
  rw [wu_in (n := (p10 + p00 / 4294967296) % 4294967296 + p01) (by omega) (by omega)]
  rw [wu_in (n := p11 + (p10 + p00 / 4294967296) / 4294967296) (by omega) (by omega)]
  rw [wu_in (n := p11 + (p10 + p00 / 4294967296) / 4294967296 + ((p10 + p00 / 4294967296) % 4294967296 + p01) / 4294967296) (by omega) (by omega)]
  congr 2
  omega

section
variable {p : Nat} {a b : Int}

theorem mul_spec (hp2 : 2 ≤ p) (hp : (p : Int) < 9223372036854775808) (ha : 0 ≤ a) (ha' : a < p) (hb : 0 ≤ b) (hb' : b < p) {k : Nat} (hk : 13 ≤ k) : field_Mul.f k p a b = some (a * b % p, 0) := by
  have hok : okB (p : Int) = true := by unfold okB; rw [decide_eq_true (by omega), decide_eq_true hp]; rfl
  unfold field_Mul.f field_two_mul.f
  rw [has_two (by omega), decide_eq_true ha', decide_eq_true hb', hok]
  simp only [Option.bind_some, Bool.and_self, if_true]
  unfold field_mul.f
  rw [mul64_spec ha (by omega) hb (by omega)]
  simp only [Option.bind_some]
  have h0 : 0 ≤ a * b := Int.mul_nonneg ha hb
  rw [rem64_spec (by omega) (by omega) (by omega) (by omega) (by omega) k hk]
  simp only [Option.bind_some]
  congr 3
  omega
theorem add_spec (hp2 : 2 ≤ p) (hp : (p : Int) < 9223372036854775808) (ha : 0 ≤ a) (ha' : a < p) (hb : 0 ≤ b) (hb' : b < p) {k : Nat} (hk : 13 ≤ k) : field_Add.f k p a b = some ((a + b) % p, 0) := by
  have hok : okB (p : Int) = true := by unfold okB; rw [decide_eq_true (by omega), decide_eq_true hp]; rfl
  unfold field_Add.f field_two_add.f
  rw [has_two (by omega), decide_eq_true ha', decide_eq_true hb', hok]
  simp only [Option.bind_some, Bool.and_self, if_true]
  unfold field_add.f
  rw [wu_in (n := a + b) (by omega) (by omega)]
  by_cases h : a + b < p
  · rw [if_pos h]
    simp only [Option.bind_some]
    rw [Int.emod_eq_of_lt (by omega) h]
  · rw [if_neg h, wu_in (n := a + b - p) (by omega) (by omega)]
    simp only [Option.bind_some]
    congr 2
    rw [← Int.sub_emod_right, Int.emod_eq_of_lt (by omega) (by omega)]
theorem sub_spec (hp2 : 2 ≤ p) (hp : (p : Int) < 9223372036854775808) (ha : 0 ≤ a) (ha' : a < p) (hb : 0 ≤ b) (hb' : b < p) {k : Nat} (hk : 13 ≤ k) : field_Sub.f k p a b = some ((a - b) % p, 0) := by
  have hok : okB (p : Int) = true := by unfold okB; rw [decide_eq_true (by omega), decide_eq_true hp]; rfl
  unfold field_Sub.f field_two_sub.f
  rw [has_two (by omega), decide_eq_true ha', decide_eq_true hb', hok]
  simp only [Option.bind_some, Bool.and_self, if_true]
  unfold field_sub.f
  by_cases h : a ≥ b
  · rw [if_pos h, wu_in (n := a - b) (by omega) (by omega)]
    simp only [Option.bind_some]
    rw [Int.emod_eq_of_lt (by omega) (by omega)]
  · rw [if_neg h, wu_in (n := (p : Int) - b) (by omega) (by omega), wu_in (n := a + (p - b)) (by omega) (by omega)]
    simp only [Option.bind_some]
    congr 2
    rw [← Int.add_emod_right, Int.emod_eq_of_lt (by omega) (by omega)]
    omega
end

/-- Euclid's rule, at each round: of p and a. x and y turn their signs by turns. -/
structure Eu (p a r s x y X Y : Int) : Prop where
  h1 : 0 ≤ s
  h2 : s < r
  h3 : 0 ≤ X
  h4 : 0 ≤ Y
  h5 : x = X ∧ y = -Y ∨ x = -X ∧ y = Y
  h6 : X * s + Y * r = p
  h7 : X ≤ p
  h8 : ∃ c, x * a = r + c * p
  h9 : ∃ c, y * a = s + c * p
  ha : ∀ d, d ∣ r → d ∣ s → d ∣ p ∧ d ∣ a

theorem Eu.next {p a r s x y X Y : Int} (hp : p < 9223372036854775808) (h : Eu p a r s x y X Y) (hs : s ≠ 0) :
    Eu p a s (r - r / s * s) y (x - r / s * y) Y (X + r / s * Y) ∧ 0 ≤ r / s ∧ 0 ≤ r / s * s ∧ r / s * s ≤ r ∧ 0 ≤ r / s * Y ∧ X + r / s * Y ≤ p ∧ r ≤ p + r ∧ r - r / s * s = r % s := by
  have h1 := h.h1; have h2 := h.h2; have h3 := h.h3; have h4 := h.h4; have h6 := h.h6; have h7 := h.h7
  have hq : 0 ≤ r / s := Int.ediv_nonneg (by omega) h1
  have hm : r / s * s + r % s = r := Int.ediv_mul_add_emod r s
  have hm0 : 0 ≤ r % s := Int.emod_nonneg _ hs
  have hm1 : r % s < s := Int.emod_lt_of_pos _ (by omega)
  have hqY : 0 ≤ r / s * Y := Int.mul_nonneg hq h4
  have hqs : 0 ≤ r / s * s := Int.mul_nonneg hq h1
  have hYr : 0 ≤ Y * r := Int.mul_nonneg h4 (by omega)
  have hXs : 0 ≤ X * s := Int.mul_nonneg h3 h1
  have h6' : Y * (r - r / s * s) + (X + r / s * Y) * s = p := by
    rw [← h6]; grind
  have hYm : 0 ≤ Y * (r - r / s * s) := Int.mul_nonneg h4 (by omega)
  have hle : X + r / s * Y ≤ p := by
    have h0 : 0 ≤ X + r / s * Y := by omega
    have : (X + r / s * Y) * 1 ≤ (X + r / s * Y) * s := Int.mul_le_mul_of_nonneg_left (by omega) h0
    omega
  have hYp : Y ≤ p := by
    have : Y * 1 ≤ Y * r := Int.mul_le_mul_of_nonneg_left (by omega) h4
    omega
  refine ⟨{ h1 := by omega, h2 := by omega, h3 := h4, h4 := by omega, h5 := ?_, h6 := h6', h7 := hYp, h8 := h.h9, h9 := ?_, ha := ?_ }, hq, hqs, by omega, hqY, hle, by omega, by omega⟩
  · rcases h.h5 with ⟨e1, e2⟩ | ⟨e1, e2⟩
    · right; rw [e1, e2]; exact ⟨rfl, by grind⟩
    · left; rw [e1, e2]; exact ⟨rfl, by grind⟩
  · obtain ⟨c, hc⟩ := h.h8
    obtain ⟨d, hd⟩ := h.h9
    refine ⟨c - r / s * d, ?_⟩
    have e : (x - r / s * y) * a = x * a - r / s * (y * a) := by grind
    rw [e, hc, hd]; grind
  · intro d hd1 hd2
    refine h.ha d ?_ hd1
    have e : r = (r - r / s * s) + r / s * s := by omega
    rw [e]
    exact Int.dvd_add hd2 (Int.dvd_mul_of_dvd_right hd1)

theorem inv_l0 {p a : Int} (hp : p < 9223372036854775808) (hp2 : 2 ≤ p) (n : Nat) : ∀ (k : Nat) (r s x y X Y : Int), s ≤ n → n < k → r ≤ p → Eu p a r s x y X Y →
    ∃ x' g, field_inv.l0 k p r s x y = some (x', decide (g = 1)) ∧ 0 < g ∧ g ∣ p ∧ g ∣ a ∧ (g = 1 → 0 ≤ x' ∧ x' < p ∧ a * x' % p = 1) := by
  induction n with
  | zero =>
    intro k r s x y X Y hs hk hr h
    obtain ⟨k, rfl⟩ : ∃ m, k = m + 1 := ⟨k - 1, by omega⟩
    have h1 := h.h1; have h2 := h.h2; have h3 := h.h3; have h4 := h.h4; have h7 := h.h7
    have hs0 : s = 0 := by omega
    subst hs0
    simp only [field_inv.l0, if_true]
    have hx : -p ≤ x ∧ x ≤ p := by rcases h.h5 with ⟨e1, _⟩ | ⟨e1, _⟩ <;> omega
    have hg := h.ha r (Int.dvd_refl r) (Int.dvd_zero r)
    have key : r = 1 → ∀ x', (x' = x ∨ x' = x + p) → a * x' % p = 1 := by
      intro e x' hx'
      obtain ⟨c, hc⟩ := h.h8
      have : ∃ c', a * x' = 1 + p * c' := by
        rcases hx' with rfl | rfl
        · exact ⟨c, by rw [Int.mul_comm, hc, e, Int.mul_comm c]⟩
        · exact ⟨c + a, by rw [Int.mul_add, Int.mul_comm a x, hc, e]; grind⟩
      obtain ⟨c', hc'⟩ := this
      rw [hc', Int.add_mul_emod_self_left]
      exact Int.emod_eq_of_lt (by omega) (by omega)
    have hne : r = 1 → x ≠ p ∧ x ≠ -p ∧ x ≠ 0 := by
      intro e
      refine ⟨fun e2 => ?_, fun e2 => ?_, fun e2 => ?_⟩
      · have := key e x (.inl rfl)
        rw [e2, Int.mul_emod_left] at this
        omega
      · have := key e (x + p) (.inr rfl)
        rw [e2] at this
        rw [show -p + p = 0 by omega, Int.mul_zero] at this
        simp at this
      · have := key e x (.inl rfl)
        rw [e2, Int.mul_zero] at this
        simp at this
    by_cases c : x < 0
    · rw [if_pos c, w64_in (n := p) (by omega) hp, w64_in (n := x + p) (by omega) (by omega)]
      refine ⟨IntKind.u64.wrap (x + p), r, rfl, by omega, hg.1, hg.2, fun e => ?_⟩
      rw [wu_in (by omega) (by omega)]
      have := hne e
      exact ⟨by omega, by omega, key e _ (.inr rfl)⟩
    · rw [if_neg c]
      refine ⟨IntKind.u64.wrap x, r, rfl, by omega, hg.1, hg.2, fun e => ?_⟩
      rw [wu_in (by omega) (by omega)]
      have := hne e
      exact ⟨by omega, by omega, key e _ (.inl rfl)⟩
  | succ n ih =>
    intro k r s x y X Y hs hk hr h
    by_cases hs0 : s = 0
    · exact ih k r s x y X Y (by omega) (by omega) hr h
    · obtain ⟨k, rfl⟩ : ∃ m, k = m + 1 := ⟨k - 1, by omega⟩
      have h1 := h.h1; have h2 := h.h2; have h3 := h.h3; have h4 := h.h4; have h7 := h.h7
      obtain ⟨hn, hq, hqs, hqs', hqY, hle, _, hrm⟩ := h.next hp hs0
      simp only [field_inv.l0]
      rw [if_neg hs0, Int.tdiv_eq_ediv_of_nonneg (by omega)]
      have hqr : r / s ≤ r := Int.ediv_le_self _ (by omega)
      rw [w64_in (n := r / s) (by omega) (by omega), w64_in (n := r / s * s) (by omega) (by omega), w64_in (n := r - r / s * s) (by omega) (by omega)]
      have hqy : -p ≤ r / s * y ∧ r / s * y ≤ p ∧ -p ≤ x - r / s * y ∧ x - r / s * y ≤ p := by
        rcases h.h5 with ⟨e1, e2⟩ | ⟨e1, e2⟩
        · rw [e1, e2, Int.mul_neg]; omega
        · rw [e1, e2]; omega
      rw [w64_in (n := r / s * y) (by omega) (by omega), w64_in (n := x - r / s * y) (by omega) (by omega)]
      have hm1 : r % s < s := Int.emod_lt_of_pos _ (by omega)
      exact ih k s (r - r / s * s) y (x - r / s * y) Y (X + r / s * Y) (by omega) (by omega) (by omega) hn

/-- field's inv: there is an inverse, or there is none. -/
theorem inv0_spec {p : Nat} {a : Int} (hp2 : 2 ≤ p) (hp : (p : Int) < 9223372036854775808) (ha : 0 ≤ a) (ha' : a < p) :
    ∃ x b, Ev (fun k => field_inv.f k p a) (x, b) ∧ ((b = true ∧ 0 ≤ x ∧ x < p ∧ a * x % p = 1) ∨ (b = false ∧ ∀ c, a * c % p ≠ 1)) := by
  have h0 : Eu p a p a 0 1 0 1 := { h1 := ha, h2 := ha', h3 := by omega, h4 := by omega, h5 := .inr ⟨rfl, rfl⟩, h6 := by omega, h7 := by omega, h8 := ⟨-1, by omega⟩, h9 := ⟨0, by omega⟩, ha := fun d h1 h2 => ⟨h1, h2⟩ }
  obtain ⟨x, g, hx, g0, g1, g2, g3⟩ := inv_l0 (p := p) (a := a) hp (by omega) a.toNat (a.toNat + 1) p a 0 1 0 1 (by omega) (by omega) (by omega) h0
  have hEv : Ev (fun k => field_inv.f k p a) (x, decide (g = 1)) := by
    refine Ev.of (field_inv.mono _ _) (k := a.toNat + 1) ?_
    unfold field_inv.f
    rw [w64_in (n := (p : Int)) (by omega) hp, w64_in (n := a) (by omega) (by omega)]
    exact hx
  by_cases hg : g = 1
  · exact ⟨x, true, by rw [decide_eq_true hg] at hEv; exact hEv, .inl ⟨rfl, g3 hg⟩⟩
  · refine ⟨x, false, by rw [decide_eq_false hg] at hEv; exact hEv, .inr ⟨rfl, fun c hc => ?_⟩⟩
    -- a divisor of p and a divides 1
    have hd : g ∣ 1 := by
      have e : (1 : Int) = a * c - p * (a * c / p) := by
        have := Int.mul_ediv_add_emod (a * c) p
        omega
      rw [e]
      exact Int.dvd_sub (Int.dvd_mul_of_dvd_left g2) (Int.dvd_mul_of_dvd_left g1)
    have : g = 1 ∨ g = -1 := by
      have := Int.natAbs_dvd_natAbs.2 hd
      have h1 : g.natAbs = 1 := Nat.dvd_one.1 this
      omega
    rcases this with e | e
    · exact hg e
    · omega
/-- field's mul. -/
theorem fmul_spec {p : Nat} {a b : Int} (hp2 : 2 ≤ p) (hp : (p : Int) < 9223372036854775808) (ha : 0 ≤ a) (ha' : a < p) (hb : 0 ≤ b) (hb' : b < p) {k : Nat} (hk : 13 ≤ k) : field_mul.f k p a b = some (a * b % p) := by
  unfold field_mul.f
  rw [mul64_spec ha (by omega) hb (by omega)]
  simp only [Option.bind_some]
  have h0 : 0 ≤ a * b := Int.mul_nonneg ha hb
  rw [rem64_spec (by omega) (by omega) (by omega) (by omega) (by omega) k hk]
  simp only [Option.bind_some]
  rw [show a * b / 18446744073709551616 * 18446744073709551616 + a * b % 18446744073709551616 = a * b from by omega]
/-- field.Div: a quotient, or none. -/
theorem div_spec {p : Nat} {a b : Int} (hp2 : 2 ≤ p) (hp : (p : Int) < 9223372036854775808) (ha : 0 ≤ a) (ha' : a < p) (hb : 0 ≤ b) (hb' : b < p) :
    ∃ x e, Ev (fun k => field_Div.f k p a b) (x, e) ∧ ((e = 0 ∧ 0 ≤ x ∧ x < p ∧ x * b % p = a) ∨ (e = 5 ∧ x = 0 ∧ ∀ c, b * c % p ≠ 1)) := by
  have hok : okB (p : Int) = true := by unfold okB; rw [decide_eq_true (by omega), decide_eq_true hp]; rfl
  obtain ⟨x, e, hEv, h⟩ := inv0_spec hp2 hp hb hb'
  have hHas : Ev (fun k => field_Has.f k p [a, b]) true := ⟨3, fun k hk => by show field_Has.f k p [a, b] = _; rw [has_two hk, decide_eq_true ha', decide_eq_true hb', hok]; rfl⟩
  rcases h with ⟨rfl, h1, h2, h3⟩ | ⟨rfl, h⟩
  · refine ⟨a * x % p, 0, ?_, .inl ⟨rfl, Int.emod_nonneg _ (by omega), Int.emod_lt_of_pos _ (by omega), ?_⟩⟩
    · refine Ev.congr (f := fun k => (field_Has.f k p [a, b]).bind _) (fun k => rfl) (Ev.bind hHas ?_)
      simp only [if_true]
      refine Ev.bind hEv (Ev.iteT rfl (Ev.bind (a := a * x % p) ⟨13, fun k hk => fmul_spec hp2 hp ha ha' h1 h2 hk⟩ (Ev.now _)))
    · rw [Int.mul_emod, Int.emod_emod, ← Int.mul_emod, Int.mul_assoc, Int.mul_comm x b, Int.mul_emod, h3, Int.mul_one, Int.emod_emod, Int.emod_eq_of_lt ha ha']
  · refine ⟨0, 5, ?_, .inr ⟨rfl, rfl, h⟩⟩
    refine Ev.congr (f := fun k => (field_Has.f k p [a, b]).bind _) (fun k => rfl) (Ev.bind hHas ?_)
    simp only [if_true]
    exact Ev.bind hEv (Ev.iteF (by simp) (Ev.now _))
end Go.Proofs.Ytffcjgelcdilcaa.Spec

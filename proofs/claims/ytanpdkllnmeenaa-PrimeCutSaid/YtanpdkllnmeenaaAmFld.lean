/- What am's functions of the field tell. -/
import Derived.Test.YtanpdkllnmeenaaAmNum
import Derived.Test.YtanpdkllnmeenaaAmFn
namespace Go.Proofs.Ytanpdkllnmeenaa.M
set_option linter.unusedVariables false
set_option maxRecDepth 100000
open Go Go.RowKit Go.Proofs Go.Proofs.Ytanpdkllnmeenaa.Am

theorem str0_tab : str0 = tab := rfl
theorem tab_size : tab.size = 256 := rfl

theorem leaf {x c E : Int} (e : Nat) (hE : E = e) (he : e ≤ 56) (hc : c = x / 2 ^ e) (h0 : 0 < c) (h1 : c < 256) :
    ∃ n : Nat, IntKind.wrap .i64 (E + IntKind.wrap .i64 (byteAt str0 (IntKind.wrap .u8 c).toNat)) = n ∧ (0 ≤ IntKind.wrap .u8 c ∧ IntKind.wrap .u8 c < (str0.size : Int)) ∧ 1 ≤ n ∧ n ≤ 64 ∧ (2 : Int) ^ (n - 1) ≤ x ∧ x < (2 : Int) ^ n := by
  rw [show (str0 : ByteArray) = tab from rfl]
  have hw : IntKind.wrap .u8 c = c := by rw [IntKind.wrap_u8]; omega
  obtain ⟨t, ht, a1, a2, a3, a4⟩ := tab_spec h0 h1
  subst hc
  obtain ⟨b1, b2⟩ := len_of (y := x) (e := e) a1 a4 a3
  refine ⟨t + e, ?_, ?_, by omega, by omega, b1, b2⟩
  · rw [hw, ht, w64_in (n := (t : Int)) (by omega) (by omega), hE, w64_in (by omega) (by omega)]; omega
  · rw [hw, tab_size]; omega

theorem len64_spec {k : Nat} (hk : 1 ≤ k) {y : Int} (h0 : 0 < y) (h1 : y < 18446744073709551616) :
    ∃ n : Nat, (∀ {R : Type} (ret : Int → Option R), bits_Len64.f k y ret = ret n) ∧ 1 ≤ n ∧ n ≤ 64 ∧ (2 : Int) ^ (n - 1) ≤ y ∧ y < (2 : Int) ^ n := by
  obtain ⟨k, rfl⟩ : ∃ m, k = m + 1 := ⟨k - 1, by omega⟩
  simp only [bits_Len64.f, shr32, shr16, shr8]
  by_cases c : y ≥ 4294967296
  · by_cases c1 : y / 4294967296 ≥ 65536
    · by_cases c2 : y / 4294967296 / 65536 ≥ 256
      · obtain ⟨n, e, b, h⟩ := leaf (x := y) (c := y / 4294967296 / 65536 / 256) (E := IntKind.wrap .i64 ((IntKind.wrap .i64 ((32 : Int) + 16)) + 8)) 56 rfl (by omega) (by omega) (by omega) (by omega)
        refine ⟨n, fun ret => ?_, h⟩
        rw [dT c, dT (by omega), dT c1, dT (by omega), dT c2, dT (by omega), aT b, e]
      · obtain ⟨n, e, b, h⟩ := leaf (x := y) (c := y / 4294967296 / 65536) (E := IntKind.wrap .i64 ((32 : Int) + 16)) 48 rfl (by omega) (by omega) (by omega) (by omega)
        refine ⟨n, fun ret => ?_, h⟩
        rw [dT c, dT (by omega), dT c1, dT (by omega), dF c2, aT b, e]
    · by_cases c2 : y / 4294967296 ≥ 256
      · obtain ⟨n, e, b, h⟩ := leaf (x := y) (c := y / 4294967296 / 256) (E := IntKind.wrap .i64 ((32 : Int) + 8)) 40 rfl (by omega) (by omega) (by omega) (by omega)
        refine ⟨n, fun ret => ?_, h⟩
        rw [dT c, dT (by omega), dF c1, dT c2, dT (by omega), aT b, e]
      · obtain ⟨n, e, b, h⟩ := leaf (x := y) (c := y / 4294967296) (E := (32 : Int)) 32 rfl (by omega) (by omega) (by omega) (by omega)
        refine ⟨n, fun ret => ?_, h⟩
        rw [dT c, dT (by omega), dF c1, dF c2, aT b, e]
  · by_cases c1 : y ≥ 65536
    · by_cases c2 : y / 65536 ≥ 256
      · obtain ⟨n, e, b, h⟩ := leaf (x := y) (c := y / 65536 / 256) (E := IntKind.wrap .i64 ((IntKind.wrap .i64 ((0 : Int) + 16)) + 8)) 24 rfl (by omega) (by omega) (by omega) (by omega)
        refine ⟨n, fun ret => ?_, h⟩
        rw [dF c, dT c1, dT (by omega), dT c2, dT (by omega), aT b, e]
      · obtain ⟨n, e, b, h⟩ := leaf (x := y) (c := y / 65536) (E := IntKind.wrap .i64 ((0 : Int) + 16)) 16 rfl (by omega) (by omega) (by omega) (by omega)
        refine ⟨n, fun ret => ?_, h⟩
        rw [dF c, dT c1, dT (by omega), dF c2, aT b, e]
    · by_cases c2 : y ≥ 256
      · obtain ⟨n, e, b, h⟩ := leaf (x := y) (c := y / 256) (E := IntKind.wrap .i64 ((0 : Int) + 8)) 8 rfl (by omega) (by omega) (by omega) (by omega)
        refine ⟨n, fun ret => ?_, h⟩
        rw [dF c, dF c1, dT c2, dT (by omega), aT b, e]
      · obtain ⟨n, e, b, h⟩ := leaf (x := y) (c := y) (E := (0 : Int)) 0 rfl (by omega) (by omega) (by omega) (by omega)
        refine ⟨n, fun ret => ?_, h⟩
        rw [dF c, dF c1, dF c2, aT b, e]

/-- The second digit, and the end. -/
theorem d_l2 {Y v1 v0 u d : Int} (hY64 : Y < 18446744073709551616) (q1 : Int) (n : Nat) : ∀ (m : Nat) (q r : Int), n + 1 ≤ m → 4294967296 - r ≤ n * 2147483648 → Digit Y v1 v0 u d q r →
    ∃ q', 0 ≤ q' ∧ q' * Y ≤ u * 4294967296 + d ∧ u * 4294967296 + d < q' * Y + Y ∧ ∀ (k : Nat) {R : Type} (x0 : Int → Int → Int → Int → Int → Int → Option R) (s : Int), bits_Div64.L2 k x0 m Y s v1 v0 d q1 r u q = x0 Y s d q1 u q' := by
  induction n with
  | zero =>
    intro m q r hk hn h
    have := h.hb
    omega
  | succ n ih =>
    intro m q r hk hn h
    obtain ⟨m, rfl⟩ : ∃ j, m = j + 1 := ⟨m - 1, by omega⟩
    have h1 := h.h1; have h2 := h.h2; have h3 := h.h3; have h4 := h.h4; have h5 := h.h5; have h6 := h.h6; have h7 := h.h7; have h8 := h.h8; have h9 := h.h9; have ha := h.ha; have hb := h.hb
    simp only [bits_Div64.L2, bits_Div64.B2]
    have hgo : ∀ _ : u * 4294967296 + d < q * Y, ∃ q', 0 ≤ q' ∧ q' * Y ≤ u * 4294967296 + d ∧ u * 4294967296 + d < q' * Y + Y ∧ ∀ (k : Nat) {R : Type} (x0 : Int → Int → Int → Int → Int → Int → Option R) (s : Int), (bif (decide ((IntKind.wrap .u64 (r + v1)) ≥ 4294967296)) then
      (x0 Y s d q1 u (IntKind.wrap .u64 (q - 1)))
    else
      (bits_Div64.L2 k x0 m Y s v1 v0 d q1 (IntKind.wrap .u64 (r + v1)) u (IntKind.wrap .u64 (q - 1)))) = x0 Y s d q1 u q' := by
      intro ht
      rw [wu_in (n := r + v1) (by omega) (by omega)]
      by_cases c : r + v1 ≥ 4294967296
      · obtain ⟨e0, e1, e2, e3⟩ := h.breaks ht c
        rw [wu_in (n := q - 1) (by omega) (by omega)]
        exact ⟨q - 1, e0, e2, e3, fun k {R} x0 s => by rw [dT c]⟩
      · have h' := h.less ht (by omega)
        have h9' := h'.h9
        have hle : q - 1 < 18446744073709551616 := by
          have := h'.hc
          apply Classical.byContradiction
          intro hnn
          have hle : 18446744073709551616 * v1 ≤ (q - 1) * v1 := Int.mul_le_mul_of_nonneg_right (by omega) (by omega)
          have := h'.ha
          omega
        rw [wu_in (n := q - 1) h9' hle]
        obtain ⟨q', b0, b1, b2, b3⟩ := ih m (q - 1) (r + v1) (by omega) (by omega) h'
        exact ⟨q', b0, b1, b2, fun k {R} x0 s => by rw [dF c, b3]⟩
    by_cases c1 : q ≥ 4294967296
    · obtain ⟨q', b0, b1, b2, b3⟩ := hgo (h.great (.inl c1))
      exact ⟨q', b0, b1, b2, fun k {R} x0 s => by rw [dT c1, b3]⟩
    · have hqv : q * v0 ≤ 4294967295 * 4294967295 := Int.mul_le_mul (by omega) (by omega) h3 (by omega)
      have hqv0 : 0 ≤ q * v0 := Int.mul_nonneg h9 h3
      rw [wu_in (n := q * v0) hqv0 (by omega), wu_in (n := 4294967296 * r) (by omega) (by omega), wu_in (n := 4294967296 * r + d) (by omega) (by omega)]
      by_cases c2 : q * v0 > 4294967296 * r + d
      · obtain ⟨q', b0, b1, b2, b3⟩ := hgo (h.great (.inr c2))
        exact ⟨q', b0, b1, b2, fun k {R} x0 s => by rw [dF c1, dT c2, b3]⟩
      · have hle := h.ends (by omega) (by omega)
        have hlt := h.hd
        rw [Int.add_mul, Int.one_mul] at hlt
        exact ⟨q, h9, hle, hlt, fun k {R} x0 s => by rw [dF c1, dF c2]⟩
/-- The first digit. -/
theorem d_l0 {Y v1 v0 u d : Int} (hY64 : Y < 18446744073709551616) (n : Nat) : ∀ (m : Nat) (q r : Int), n + 1 ≤ m → 4294967296 - r ≤ n * 2147483648 → Digit Y v1 v0 u d q r →
    ∃ q', 0 ≤ q' ∧ q' * Y ≤ u * 4294967296 + d ∧ u * 4294967296 + d < q' * Y + Y ∧ ∀ (k : Nat) {R : Type} (x0 : Int → Int → Int → Int → Int → Int → Int → Int → Option R) (s d0 : Int), bits_Div64.L0 k x0 m Y s v1 v0 u d d0 q r = x0 Y s v1 v0 u d d0 q' := by
  induction n with
  | zero =>
    intro m q r hk hn h
    have := h.hb
    omega
  | succ n ih =>
    intro m q r hk hn h
    obtain ⟨m, rfl⟩ : ∃ j, m = j + 1 := ⟨m - 1, by omega⟩
    have h1 := h.h1; have h2 := h.h2; have h3 := h.h3; have h4 := h.h4; have h5 := h.h5; have h6 := h.h6; have h7 := h.h7; have h8 := h.h8; have h9 := h.h9; have ha := h.ha; have hb := h.hb
    simp only [bits_Div64.L0, bits_Div64.B0]
    have hgo : ∀ _ : u * 4294967296 + d < q * Y, ∃ q', 0 ≤ q' ∧ q' * Y ≤ u * 4294967296 + d ∧ u * 4294967296 + d < q' * Y + Y ∧ ∀ (k : Nat) {R : Type} (x0 : Int → Int → Int → Int → Int → Int → Int → Int → Option R) (s d0 : Int), (bif (decide ((IntKind.wrap .u64 (r + v1)) ≥ 4294967296)) then
      (x0 Y s v1 v0 u d d0 (IntKind.wrap .u64 (q - 1)))
    else
      (bits_Div64.L0 k x0 m Y s v1 v0 u d d0 (IntKind.wrap .u64 (q - 1)) (IntKind.wrap .u64 (r + v1)))) = x0 Y s v1 v0 u d d0 q' := by
      intro ht
      rw [wu_in (n := r + v1) (by omega) (by omega)]
      by_cases c : r + v1 ≥ 4294967296
      · obtain ⟨e0, e1, e2, e3⟩ := h.breaks ht c
        rw [wu_in (n := q - 1) (by omega) (by omega)]
        exact ⟨q - 1, e0, e2, e3, fun k {R} x0 s d0 => by rw [dT c]⟩
      · have h' := h.less ht (by omega)
        have h9' := h'.h9
        have hle : q - 1 < 18446744073709551616 := by
          have := h'.hc
          apply Classical.byContradiction
          intro hnn
          have hle : 18446744073709551616 * v1 ≤ (q - 1) * v1 := Int.mul_le_mul_of_nonneg_right (by omega) (by omega)
          have := h'.ha
          omega
        rw [wu_in (n := q - 1) h9' hle]
        obtain ⟨q', b0, b1, b2, b3⟩ := ih m (q - 1) (r + v1) (by omega) (by omega) h'
        exact ⟨q', b0, b1, b2, fun k {R} x0 s d0 => by rw [dF c, b3]⟩
    by_cases c1 : q ≥ 4294967296
    · obtain ⟨q', b0, b1, b2, b3⟩ := hgo (h.great (.inl c1))
      exact ⟨q', b0, b1, b2, fun k {R} x0 s d0 => by rw [dT c1, b3]⟩
    · have hqv : q * v0 ≤ 4294967295 * 4294967295 := Int.mul_le_mul (by omega) (by omega) h3 (by omega)
      have hqv0 : 0 ≤ q * v0 := Int.mul_nonneg h9 h3
      rw [wu_in (n := q * v0) hqv0 (by omega), wu_in (n := 4294967296 * r) (by omega) (by omega), wu_in (n := 4294967296 * r + d) (by omega) (by omega)]
      by_cases c2 : q * v0 > 4294967296 * r + d
      · obtain ⟨q', b0, b1, b2, b3⟩ := hgo (h.great (.inr c2))
        exact ⟨q', b0, b1, b2, fun k {R} x0 s d0 => by rw [dF c1, dT c2, b3]⟩
      · have hle := h.ends (by omega) (by omega)
        have hlt := h.hd
        rw [Int.add_mul, Int.one_mul] at hlt
        exact ⟨q, h9, hle, hlt, fun k {R} x0 s d0 => by rw [dF c1, dF c2]⟩

theorem lz_spec {k n : Nat} {y : Int} (hk : 2 ≤ k) (hn : ∀ {R : Type} (ret : Int → Option R), bits_Len64.f (k - 1) y ret = ret n) (h1 : 1 ≤ n) (h2 : n ≤ 64) {R : Type} (ret : Int → Option R) :
    bits_LeadingZeros64.f k y ret = ret ((64 - n : Nat) : Int) := by
  obtain ⟨k, rfl⟩ : ∃ m, k = m + 1 := ⟨k - 1, by omega⟩
  simp only [bits_LeadingZeros64.f]
  rw [show k = k + 1 - 1 from rfl, hn, w64_in (by omega) (by omega)]
  congr 1; omega

theorem div64_spec {hi lo y : Int} (h0 : 0 ≤ hi) (h1 : hi < y) (h2 : 0 ≤ lo) (h3 : lo < 18446744073709551616) (h4 : y < 18446744073709551616) {k : Nat} (hk : 5 ≤ k) :
    ∃ a, ∀ {R : Type} (ret : Int → Int → Option R), bits_Div64.f k hi lo y ret = ret a ((hi * 18446744073709551616 + lo) % y) := by
  obtain ⟨k, rfl⟩ : ∃ m, k = m + 1 := ⟨k - 1, by omega⟩
  simp only [bits_Div64.f]
  by_cases c : hi = 0
  · subst c
    refine ⟨IntKind.u64.wrap (Int.tdiv lo y), fun ret => ?_⟩
    rw [eF (by omega), dF (by omega), eT rfl, nT (by omega), nT (by omega), Int.tmod_eq_emod_of_nonneg h2, Int.zero_mul, Int.zero_add]
  · obtain ⟨n, hn, n1, n2, n3, n4⟩ := len64_spec (k := k - 1) (y := y) (by omega) (by omega) h4
    have hlz := fun {R : Type} (ret : Int → Option R) => lz_spec (k := k) (by omega) hn n1 n2 ret
    obtain ⟨s, hs⟩ : ∃ s : Nat, s = 64 - n := ⟨_, rfl⟩
    simp only [hlz, ← hs]
    rw [wu_in (n := (s : Int)) (by omega) (by omega), wu_in (n := 64 - (s : Int)) (by omega) (by omega)]
    have hp : (0 : Int) < 2 ^ s := Int.pow_pos (by omega)
    have e64 : (2 : Int) ^ n * 2 ^ s = 18446744073709551616 := by
      rw [← Int.pow_add]
      have : n + s = 64 := by omega
      rw [this]; rfl
    have e63 : (2 : Int) ^ (n - 1) * 2 ^ s = 9223372036854775808 := by
      rw [← Int.pow_add]
      have : n - 1 + s = 63 := by omega
      rw [this]; rfl
    have eS : (2 : Int) ^ s * 2 ^ (64 - s) = 18446744073709551616 := by
      rw [← Int.pow_add]
      have : s + (64 - s) = 64 := by omega
      rw [this]; rfl
    have hY1 : y * 2 ^ s < 18446744073709551616 := by rw [← e64]; exact Int.mul_lt_mul_of_pos_right n4 hp
    have hY0 : 9223372036854775808 ≤ y * 2 ^ s := by rw [← e63]; exact Int.mul_le_mul_of_nonneg_right n3 (by omega)
    have hmin : min ((s : Int)).toNat (IntKind.bits .u64) = s := by
      show min ((s : Int)).toNat 64 = s
      omega
    have hmin2 : min (64 - (s : Int)).toNat (IntKind.bits .u64) = 64 - s := by
      show min (64 - (s : Int)).toNat 64 = 64 - s
      omega
    have hsY : IntKind.wrap .u64 (y * 2 ^ s) = y * 2 ^ s := wu_in (by omega) hY1
    have hsh : IntKind.wrap .u64 (hi * 2 ^ s) = hi * 2 ^ s := by
      rw [wu_in (Int.mul_nonneg h0 (by omega))]
      exact Int.lt_trans (Int.mul_lt_mul_of_pos_right h1 hp) hY1
    have hsl : IntKind.wrap .u64 (lo * 2 ^ s) = (lo * 2 ^ s) % 18446744073709551616 := wu _
    have hsr : Int.fdiv lo (2 ^ (64 - s)) = lo / 2 ^ (64 - s) := Int.fdiv_eq_ediv_of_nonneg _ (Int.le_of_lt (Int.pow_pos (by omega)))
    rw [hmin, hmin2, hsY, hsh, hsl, hsr]
    have hpr : (0 : Int) < 2 ^ (64 - s) := Int.pow_pos (by omega)
    have hr0 : 0 ≤ lo / 2 ^ (64 - s) := Int.ediv_nonneg h2 (by omega)
    have hr1 : lo / 2 ^ (64 - s) < 2 ^ s := by
      rw [Int.ediv_lt_iff_lt_mul hpr, eS]
      exact h3
    have hh : hi * 2 ^ s + 2 ^ s ≤ y * 2 ^ s := by
      have : hi * 2 ^ s + 2 ^ s = (hi + 1) * 2 ^ s := by rw [Int.add_mul, Int.one_mul]
      rw [this]
      exact Int.mul_le_mul_of_nonneg_right (by omega) (by omega)
    have hhn : 0 ≤ hi * 2 ^ s := Int.mul_nonneg h0 (by omega)
    have hsn : (2 : Int) ^ s ≤ 18446744073709551616 := by omega
    rw [m_or s hhn (Int.mul_emod_left _ _) (by omega) hr0 hr1 (by omega)]
    have hlow : lo * 2 ^ s = (lo / 2 ^ (64 - s)) * 18446744073709551616 + (lo * 2 ^ s) % 18446744073709551616 := by
      have e1 : lo * 2 ^ s / 18446744073709551616 = lo / 2 ^ (64 - s) := by
        rw [← eS, Int.mul_comm (2 ^ s) (2 ^ (64 - s)), Int.mul_ediv_mul_of_pos_left _ _ hp]
      have := Int.ediv_mul_add_emod (lo * 2 ^ s) 18446744073709551616
      rw [e1] at this
      exact this.symm
    obtain ⟨L, hL⟩ : ∃ L, L = (lo * 2 ^ s) % 18446744073709551616 := ⟨_, rfl⟩
    obtain ⟨U, hU⟩ : ∃ U, U = hi * 2 ^ s + lo / 2 ^ (64 - s) := ⟨_, rfl⟩
    obtain ⟨Y, hYd⟩ : ∃ Y, Y = y * 2 ^ s := ⟨_, rfl⟩
    have hfull : (hi * 18446744073709551616 + lo) * 2 ^ s = U * 18446744073709551616 + L := by
      rw [Int.add_mul, hlow, ← hL, hU, Int.add_mul]
      have : hi * 18446744073709551616 * 2 ^ s = hi * 2 ^ s * 18446744073709551616 := by
        rw [Int.mul_assoc, Int.mul_comm 18446744073709551616, ← Int.mul_assoc]
      omega
    rw [← hL, ← hU, ← hYd]
    rw [← hYd] at hY0 hY1 hh
    have hL0 : 0 ≤ L := by omega
    have hL1 : L < 18446744073709551616 := by omega
    have hU0 : 0 ≤ U := by omega
    have hU1 : U < Y := by omega
    simp only [shr32]
    rw [m_mask hL0 hL1, m_mask (by omega) hY1]
    obtain ⟨v1, hv1⟩ : ∃ v, v = Y / 4294967296 := ⟨_, rfl⟩
    rw [← hv1]
    have hdiv : Int.tdiv U v1 = U / v1 := Int.tdiv_eq_ediv_of_nonneg hU0
    have hm0 : 0 ≤ U % v1 := Int.emod_nonneg _ (by omega)
    have hm1 : U % v1 < v1 := Int.emod_lt_of_pos _ (by omega)
    have hme : U / v1 * v1 + U % v1 = U := Int.ediv_mul_add_emod U v1
    have hq0 : 0 ≤ U / v1 := Int.ediv_nonneg hU0 (by omega)
    have hq1 : U / v1 < 18446744073709551616 := by
      apply Classical.byContradiction
      intro hnn
      have hle : 18446744073709551616 * v1 ≤ U / v1 * v1 := Int.mul_le_mul_of_nonneg_right (by omega) (by omega)
      omega
    have hqv : 0 ≤ U / v1 * v1 := Int.mul_nonneg hq0 (by omega)
    rw [hdiv, wu_in hq0 hq1, wu_in (n := U / v1 * v1) hqv (by omega), wu_in (n := U - U / v1 * v1) (by omega) (by omega)]
    have er : U - U / v1 * v1 = U % v1 := by omega
    rw [er]
    have hlast : ∀ U d : Int, (U / v1 + 1) * Y = (U / v1 * v1 + v1) * 4294967296 + (U / v1 + 1) * (Y % 4294967296) := by
      intro U d
      have e1 : U / v1 * v1 + v1 = (U / v1 + 1) * v1 := by rw [Int.add_mul, Int.one_mul]
      have e2 : Y = v1 * 4294967296 + Y % 4294967296 := by omega
      rw [e1]
      conv => lhs; rw [e2]
      rw [Int.mul_add, Int.mul_assoc]
    have hx := hlast U 0
    have hlast0 : 0 ≤ (U / v1 + 1) * (Y % 4294967296) := Int.mul_nonneg (by omega) (by omega)
    obtain ⟨q, q0, qa, qb, hq⟩ := d_l0 (Y := Y) (v1 := v1) (v0 := Y % 4294967296) (u := U) (d := L / 4294967296) hY1 2 k (U / v1) (U % v1) (by omega) (by omega)
      { hY := by omega, h1 := by omega, h2 := by omega, h3 := by omega, h4 := by omega, h5 := hU0, h6 := hU1, h7 := by omega, h8 := by omega, h9 := hq0, ha := hm0, hb := by omega, hc := by omega, hd := by omega }
    have hYpos : 0 < Y := by omega
    have hU' : IntKind.wrap .u64 ((IntKind.wrap .u64 ((IntKind.wrap .u64 (U * 4294967296)) + L / 4294967296)) - (IntKind.wrap .u64 (q * Y))) = (U * 4294967296 + L / 4294967296) % Y := by
      simp only [wu]
      rw [left_of rfl (by omega) (by omega) (by omega), rest_of qa qb]
    obtain ⟨V, hV⟩ : ∃ V, V = (U * 4294967296 + L / 4294967296) % Y := ⟨_, rfl⟩
    rw [← hV] at hU'
    have hR0 : 0 ≤ V := by rw [hV]; exact Int.emod_nonneg _ (by omega)
    have hR1 : V < Y := by rw [hV]; exact Int.emod_lt_of_pos _ hYpos
    have hdiv2 : Int.tdiv V v1 = V / v1 := Int.tdiv_eq_ediv_of_nonneg hR0
    have vm0 : 0 ≤ V % v1 := Int.emod_nonneg _ (by omega)
    have vm1 : V % v1 < v1 := Int.emod_lt_of_pos _ (by omega)
    have vme : V / v1 * v1 + V % v1 = V := Int.ediv_mul_add_emod V v1
    have vq0 : 0 ≤ V / v1 := Int.ediv_nonneg hR0 (by omega)
    have vq1 : V / v1 < 18446744073709551616 := by
      apply Classical.byContradiction
      intro hnn
      have hle : 18446744073709551616 * v1 ≤ V / v1 * v1 := Int.mul_le_mul_of_nonneg_right (by omega) (by omega)
      omega
    have vqv : 0 ≤ V / v1 * v1 := Int.mul_nonneg vq0 (by omega)
    have ev : V - V / v1 * v1 = V % v1 := by omega
    have hx' := hlast V 0
    have hlast1 : 0 ≤ (V / v1 + 1) * (Y % 4294967296) := Int.mul_nonneg (by omega) (by omega)
    obtain ⟨q', q0', qa', qb', hq'⟩ := d_l2 (Y := Y) (v1 := v1) (v0 := Y % 4294967296) (u := V) (d := L % 4294967296) hY1 q 2 k (V / v1) (V % v1) (by omega) (by omega)
      { hY := by omega, h1 := by omega, h2 := by omega, h3 := by omega, h4 := by omega, h5 := hR0, h6 := hR1, h7 := by omega, h8 := by omega, h9 := vq0, ha := vm0, hb := by omega, hc := by omega, hd := by omega }
    have hU'' : IntKind.wrap .u64 ((IntKind.wrap .u64 ((IntKind.wrap .u64 (V * 4294967296)) + L % 4294967296)) - (IntKind.wrap .u64 (q' * Y))) = (V * 4294967296 + L % 4294967296) % Y := by
      simp only [wu]
      rw [left_of rfl (by omega) (by omega) (by omega), rest_of qa' qb']
    refine ⟨IntKind.wrap .u64 ((IntKind.wrap .u64 (q * 4294967296)) + q'), fun ret => ?_⟩
    rw [eF (by omega), dF (by omega), eF c, dT (by omega), dT (by omega), dT (by omega), dT (by omega), dT (by omega), dT (by omega), nT (by omega), hq]
    rw [nT (by omega), hU', hdiv2, wu_in vq0 vq1, wu_in (n := V / v1 * v1) vqv (by omega), wu_in (n := V - V / v1 * v1) (by omega) (by omega), ev, hq', dT (by omega), hU'', hmin]
    congr 1
    rw [Int.fdiv_eq_ediv_of_nonneg _ (Int.le_of_lt hp), hV]
    have e1 : ((U * 4294967296 + L / 4294967296) % Y * 4294967296 + L % 4294967296) % Y = (U * 18446744073709551616 + L) % Y := by
      have : U * 18446744073709551616 + L = (U * 4294967296 + L / 4294967296) * 4294967296 + L % 4294967296 := by omega
      rw [this]
      generalize U * 4294967296 + L / 4294967296 = Z
      rw [Int.add_emod, Int.mul_emod, Int.emod_emod, ← Int.mul_emod, ← Int.add_emod]
    rw [e1, ← hfull, hYd, Int.mul_comm _ ((2 : Int) ^ s), Int.mul_comm y, Int.mul_emod_mul_of_pos _ _ hp, Int.mul_comm ((2 : Int) ^ s)]
    exact Int.mul_ediv_cancel _ (by omega)

/-- The rest of a number of two words. -/
theorem rem64_spec {hi lo y : Int} (h0 : 0 ≤ hi) (h2 : 0 ≤ lo) (h3 : lo < 18446744073709551616) (hy : 0 < y) (h4 : y < 18446744073709551616) {k : Nat} (hk : 6 ≤ k) {R : Type} (ret : Int → Option R) :
    bits_Rem64.f k hi lo y ret = ret ((hi * 18446744073709551616 + lo) % y) := by
  obtain ⟨k, rfl⟩ : ∃ m, k = m + 1 := ⟨k - 1, by omega⟩
  simp only [bits_Rem64.f]
  obtain ⟨a, ha⟩ := div64_spec (hi := hi % y) (lo := lo) (y := y) (Int.emod_nonneg _ (by omega)) (Int.emod_lt_of_pos _ hy) h2 h3 h4 (k := k) (by omega)
  rw [nT (by omega), Int.tmod_eq_emod_of_nonneg h0, ha]
  congr 1
  rw [Int.add_emod, Int.mul_emod, Int.emod_emod, ← Int.mul_emod, ← Int.add_emod]

theorem mul64_spec {a b : Int} (ha : 0 ≤ a) (ha' : a < 18446744073709551616) (hb : 0 ≤ b) (hb' : b < 18446744073709551616) {k : Nat} (hk : 1 ≤ k) {R : Type} (ret : Int → Int → Option R) : bits_Mul64.f k a b ret = ret (a * b / 18446744073709551616) ((a * b) % 18446744073709551616) := by
  obtain ⟨k, rfl⟩ : ∃ m, k = m + 1 := ⟨k - 1, by omega⟩
  simp only [bits_Mul64.f, shr32]
  rw [m_mask ha ha', m_mask hb hb', wu (a * b)]
  rw [dT (by omega), dT (by omega), dT (by omega), dT (by omega), dT (by omega)]
  obtain ⟨x1, hx1⟩ : ∃ x, x = a / 4294967296 := ⟨_, rfl⟩
  obtain ⟨x0, hx0⟩ : ∃ x, x = a % 4294967296 := ⟨_, rfl⟩
  obtain ⟨y1, hy1⟩ : ∃ x, x = b / 4294967296 := ⟨_, rfl⟩
  obtain ⟨y0, hy0⟩ : ∃ x, x = b % 4294967296 := ⟨_, rfl⟩
  rw [← hx1, ← hx0, ← hy1, ← hy0]
  have hab : a * b = x1 * y1 * 18446744073709551616 + (x1 * y0 + x0 * y1) * 4294967296 + x0 * y0 := by
    have e1 : a = x1 * 4294967296 + x0 := by omega
    have e2 : b = y1 * 4294967296 + y0 := by omega
    rw [e1, e2]
    grind
  have b11 : 0 ≤ x1 * y1 := Int.mul_nonneg (by omega) (by omega)
  have b10 : 0 ≤ x1 * y0 := Int.mul_nonneg (by omega) (by omega)
  have b01 : 0 ≤ x0 * y1 := Int.mul_nonneg (by omega) (by omega)
  have b00 : 0 ≤ x0 * y0 := Int.mul_nonneg (by omega) (by omega)
  have c11 : x1 * y1 ≤ 4294967295 * 4294967295 := Int.mul_le_mul (by omega) (by omega) (by omega) (by omega)
  have c10 : x1 * y0 ≤ 4294967295 * 4294967295 := Int.mul_le_mul (by omega) (by omega) (by omega) (by omega)
  have c01 : x0 * y1 ≤ 4294967295 * 4294967295 := Int.mul_le_mul (by omega) (by omega) (by omega) (by omega)
  have c00 : x0 * y0 ≤ 4294967295 * 4294967295 := Int.mul_le_mul (by omega) (by omega) (by omega) (by omega)
  rw [hab]
  generalize x1 * y1 = p11 at *
  generalize x1 * y0 = p10 at *
  generalize x0 * y1 = p01 at *
  generalize x0 * y0 = p00 at *
  rw [wu_in (n := p11) (by omega) (by omega), wu_in (n := p10) (by omega) (by omega), wu_in (n := p01) (by omega) (by omega), wu_in (n := p00) (by omega) (by omega)]
  rw [wu_in (n := p10 + p00 / 4294967296) (by omega) (by omega)]
  rw [m_mask (by omega) (by omega)]
  rw [wu_in (n := (p10 + p00 / 4294967296) % 4294967296 + p01) (by omega) (by omega)]
  rw [wu_in (n := p11 + (p10 + p00 / 4294967296) / 4294967296) (by omega) (by omega)]
  rw [wu_in (n := p11 + (p10 + p00 / 4294967296) / 4294967296 + ((p10 + p00 / 4294967296) % 4294967296 + p01) / 4294967296) (by omega) (by omega)]
  congr 1
  omega

/-- A modulus that may be. -/
def okB (p : Int) : Bool := decide (2 ≤ p) && decide (p < 9223372036854775808)

theorem mul_spec {p a b : Int} (hp2 : 0 < p) (hp : p < 18446744073709551616) (ha : 0 ≤ a) (ha' : a < 18446744073709551616) (hb : 0 ≤ b) (hb' : b < 18446744073709551616) {k : Nat} (hk : 7 ≤ k) {R : Type} (ret : Int → Option R) :
    field_mul.f k p a b ret = ret (a * b % p) := by
  obtain ⟨k, rfl⟩ : ∃ m, k = m + 1 := ⟨k - 1, by omega⟩
  simp only [field_mul.f]
  have h0 : 0 ≤ a * b := Int.mul_nonneg ha hb
  rw [mul64_spec ha (by omega) hb (by omega) (by omega), rem64_spec (by omega) (by omega) (by omega) (by omega) (by omega) (by omega)]
  congr 2
  omega

theorem right_spec (p : Int) {k : Nat} (hk : 1 ≤ k) {R : Type} (ret : Bool → Option R) : field_Right.f k p ret = ret (okB p) := by
  obtain ⟨k, rfl⟩ : ∃ m, k = m + 1 := ⟨k - 1, by omega⟩
  simp only [field_Right.f]
  unfold okB
  by_cases h : p ≥ 2
  · rw [dT h, decide_eq_true (p := 2 ≤ p) h, Bool.true_and]
  · rw [dF h, decide_eq_false (p := 2 ≤ p) h, Bool.false_and]

/-- Has of one number. -/
theorem has_one (p a : Int) {k : Nat} (hk : 3 ≤ k) {R : Type} (ret : Bool → Option R) : field_Has.f k p [a] ret = ret (decide (a < p) && okB p) := by
  obtain ⟨k, rfl⟩ : ∃ m, k = m + 3 := ⟨k - 3, by omega⟩
  simp only [field_Has.f, field_Has.L0, field_Has.B0, List.length_singleton]
  rw [dT (by omega), aT (by omega)]
  show (bif decide (a ≥ p) then _ else _) = _
  by_cases h : a ≥ p
  · rw [dT h, decide_eq_false (p := a < p) (by omega)]; rfl
  · rw [dF h, w64_in (by omega) (by omega), dF (by omega), right_spec _ (by omega), decide_eq_true (p := a < p) (by omega)]; rfl

end Go.Proofs.Ytanpdkllnmeenaa.M

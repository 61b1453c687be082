/- A proof's form: its parts are told in order, and their product is the number less 1. The program's, and the reference's. -/
import Derived.Test.YtanpdkllnmeenaaAmPow
namespace Go.Proofs.Ytanpdkllnmeenaa.Am
open Go
theorem drop_at {α : Type} {l : List α} {i : Nat} (h : i < l.length) (d : α) : l.drop i = l.getD i d :: l.drop (i + 1) := by
  rw [List.drop_eq_getElem_cons h, List.getD_eq_getElem?_getD, List.getElem?_eq_getElem h]; rfl
theorem getD_mem {α : Type} {l : List α} {i : Nat} (h : i < l.length) (d : α) : l.getD i d ∈ l := by
  rw [List.getD_eq_getElem?_getD, List.getElem?_eq_getElem h]; exact List.getElem_mem h
theorem ix {i : Nat} (h : i < 4611686018427387904) : IntKind.wrap .i64 ((i : Int) + 1) = ((i + 1 : Nat) : Int) := by rw [w64_in (by omega) (by omega)]; omega
theorem ixm {i : Nat} (h : i < 4611686018427387904) (h1 : 1 ≤ i) : IntKind.wrap .i64 ((i : Int) - 1) = ((i - 1 : Nat) : Int) := by rw [w64_in (by omega) (by omega)]; omega

/-- The keys rise. -/
def inc : List (Int × Int) → Bool
  | a :: b :: r => decide (a.1 < b.1) && inc (b :: r)
  | _ => true
/-- n divided t times by q, if it goes. -/
def dv (q : Int) : Nat → Int → Option Int
  | 0, n => some n
  | t + 1, n => if n % q = 0 then dv q t (n / q) else none
/-- n divided by all parts. -/
def pl : List (Int × Int) → Int → Option Int
  | [], n => some n
  | a :: r, n => bif decide (2 ≤ a.1 ∧ 1 ≤ a.2) then (dv a.1 a.2.toNat n).bind (pl r) else none

theorem div_half {n q : Int} {j : Nat} (hq : 2 ≤ q) (h1 : 1 ≤ n) (h2 : n < 2 ^ j) (hd : n % q = 0) : 1 ≤ n / q ∧ n / q < 2 ^ (j - 1) ∧ 1 ≤ j ∧ n / q < n := by
  have e := Int.mul_ediv_add_emod n q
  have hq' : 0 < n / q := by
    apply Classical.byContradiction
    intro hn
    have h0 : 0 ≤ n / q := Int.ediv_nonneg (by omega) (by omega)
    have : n / q = 0 := by omega
    rw [this, hd] at e
    omega
  have h3 : 2 * (n / q) ≤ q * (n / q) := Int.mul_le_mul_of_nonneg_right hq (by omega)
  cases j with
  | zero => simp at h2; omega
  | succ j =>
    have hpw : (2 : Int) ^ (j + 1) = 2 ^ j * 2 := Int.pow_succ _ _
    exact ⟨by omega, by simp only [Nat.add_sub_cancel]; omega, by omega, by omega⟩
theorem dv_pos {q : Int} (hq : 2 ≤ q) : ∀ (t : Nat) (n n' : Int), 1 ≤ n → dv q t n = some n' → 1 ≤ n' ∧ n' ≤ n
  | 0, n, n', h, e => by simp [dv] at e; omega
  | t + 1, n, n', h, e => by
    simp only [dv] at e
    split at e
    · rename_i hd
      have hlt : n < 2 ^ n.toNat := by
        have h2 := @Nat.lt_two_pow_self n.toNat
        have : ((n.toNat : Nat) : Int) < ((2 ^ n.toNat : Nat) : Int) := by exact_mod_cast h2
        rw [Int.toNat_of_nonneg (by omega)] at this
        simpa using this
      obtain ⟨h1, _, _, h2⟩ := div_half hq h hlt hd
      have := dv_pos hq t _ n' h1 e
      omega
    · cases e
theorem dv_none {q : Int} (hq : 2 ≤ q) : ∀ (j t : Nat) (n : Int), 1 ≤ n → n < 2 ^ j → j ≤ t → dv q t n = none
  | 0, t, n, h1, h2, ht => by simp at h2; omega
  | j + 1, 0, n, h1, h2, ht => by omega
  | j + 1, t + 1, n, h1, h2, ht => by
    simp only [dv]
    split
    · rename_i hd
      obtain ⟨a, b, _, _⟩ := div_half hq h1 h2 hd
      exact dv_none hq j t _ a (by simpa using b) (by omega)
    · rfl
end Go.Proofs.Ytanpdkllnmeenaa.Am
namespace Go.Proofs.Ytanpdkllnmeenaa.M
set_option linter.unusedVariables false
set_option maxRecDepth 100000
open Go Go.RowKit Go.Proofs Go.Proofs.Ytanpdkllnmeenaa.Am

theorem formed_l0 {k : Nat} {R : Type} (x0 : Bool → Option R) (x1 : Int → Int → List (Int × Int) → Option R) (a b : Int) {l : List (Int × Int)} (hl : l.length < 281474976710656) (d : Nat) : ∀ m i : Nat, 1 ≤ i → i + d = l.length → d < m →
    prime_formed.L0 k x0 x1 m i a b l = bif inc (l.drop (i - 1)) then x1 a b l else x0 false := by
  induction d with
  | zero =>
    intro m i hi hd hm
    obtain ⟨m, rfl⟩ : ∃ j, m = j + 1 := ⟨m - 1, by omega⟩
    simp only [prime_formed.L0, prime_formed.B0]
    rw [dF (by omega), drop_at (i := i - 1) (by omega) (0, 0), List.drop_of_length_le (by omega)]
    rfl
  | succ d ih =>
    intro m i hi hd hm
    obtain ⟨m, rfl⟩ : ∃ j, m = j + 1 := ⟨m - 1, by omega⟩
    simp only [prime_formed.L0, prime_formed.B0]
    have e2 : (i - 1) + 1 = i := by omega
    rw [dT (by omega), ixm (by omega) hi, aT (by omega), aT (by omega), ix (by omega), ih m (i + 1) (by omega) (by omega) (by omega), drop_at (i := i - 1) (by omega) (0, 0), e2, Nat.add_sub_cancel]
    rw [drop_at (i := i) (by omega) (0, 0)]
    rw [Int.toNat_natCast, Int.toNat_natCast, inc]
    by_cases h : (l.getD (i - 1) (0, 0)).1 < (l.getD i (0, 0)).1
    · rw [dF (by omega), decide_eq_true h]; rfl
    · rw [dT (by omega), decide_eq_false h]; rfl

theorem product_l2 {k : Nat} {R : Type} (x0 : Bool → Option R) (x1 : Int → List (Int × Int) → Int → Int → Option R) (t7 : List (Int × Int)) (t8 t9 y : Int) {q T : Int} (hq : 2 ≤ q) (hT : T < 9223372036854775808) (j : Nat) : ∀ (m : Nat) (i n : Int) (d : Nat), j + 2 ≤ m → 0 ≤ i → i + d = T → 1 ≤ n → n < 2 ^ j → n < 18446744073709551616 →
    prime_product.L2 k x0 x1 m n t7 t8 t9 T i q y = (dv q d n).elim (x0 false) (fun v => x1 v t7 t8 t9) := by
  induction j with
  | zero => intro m i n d hm hi hd h1 h2 _; simp at h2; omega
  | succ j ih =>
    intro m i n d hm hi hd h1 h2 h3
    obtain ⟨m, rfl⟩ : ∃ j, m = j + 1 := ⟨m - 1, by omega⟩
    simp only [prime_product.L2, prime_product.B2]
    cases d with
    | zero => rw [dF (by omega)]; rfl
    | succ d =>
      rw [dT (by omega), nT (by omega), Int.tmod_eq_emod_of_nonneg (by omega)]
      simp only [dv]
      by_cases hd' : n % q = 0
      · obtain ⟨a1, a2, _, a3⟩ := div_half hq h1 h2 hd'
        rw [nF hd', nT (by omega), if_pos hd', Int.tdiv_eq_ediv_of_nonneg (by omega), wu_in (by omega) (by omega), w64_in (by omega) (by omega)]
        exact ih m _ _ d (by omega) (by omega) (by omega) a1 (by simpa using a2) (by omega)
      · rw [nT hd', if_neg hd']; rfl

theorem product_l0 {k : Nat} (hk : 66 ≤ k) {R : Type} (x0 : Bool → Option R) (x1 : Int → Option R) {l : List (Int × Int)} (hl : l.length < 281474976710656) (d : Nat) : ∀ (m i : Nat) (n : Int), i + d = l.length → d < m → 1 ≤ n → n < 9223372036854775808 →
    prime_product.L0 k x0 x1 m n l (l.length : Int) i = (pl (l.drop i) n).elim (x0 false) x1 := by
  induction d with
  | zero =>
    intro m i n hi hm h1 h2
    obtain ⟨m, rfl⟩ : ∃ j, m = j + 1 := ⟨m - 1, by omega⟩
    simp only [prime_product.L0, prime_product.B0]
    rw [dF (by omega), List.drop_of_length_le (by omega)]
    rfl
  | succ d ih =>
    intro m i n hi hm h1 h2
    obtain ⟨m, rfl⟩ : ∃ j, m = j + 1 := ⟨m - 1, by omega⟩
    simp only [prime_product.L0, prime_product.B0]
    rw [dT (by omega), aT (by omega), drop_at (i := i) (by omega) (0, 0)]
    rw [Int.toNat_natCast, pl]
    generalize l.getD i (0, 0) = a
    by_cases c1 : a.1 < 2
    · rw [dT c1, dF (p := 2 ≤ a.1 ∧ 1 ≤ a.2) (by omega)]; rfl
    · by_cases c2 : a.2 < 1
      · rw [dF c1, dT c2, dF (p := 2 ≤ a.1 ∧ 1 ≤ a.2) (by omega)]; rfl
      · rw [dF c1, dF c2, dT (p := 2 ≤ a.1 ∧ 1 ≤ a.2) (by omega)]
        by_cases c3 : a.2 > 63
        · rw [dT c3, dv_none (by omega) 63 _ n h1 (by simpa using h2) (by omega)]; rfl
        · rw [dF c3, product_l2 x0 _ l _ _ _ (by omega) (by omega) 63 k 0 n a.2.toNat (by omega) (by omega) (by omega) h1 (by simpa using h2) (by omega)]
          cases hdv : dv a.1 a.2.toNat n with
          | none => rfl
          | some v =>
            have := dv_pos (by omega) _ _ _ h1 hdv
            simp only [Option.elim, Option.bind_some]
            rw [ix (by omega), ih m (i + 1) v (by omega) (by omega) (by omega) (by omega)]
            rfl

theorem product_spec {l : List (Int × Int)} {n : Int} (hl : l.length < 281474976710656) (h1 : 1 ≤ n) (h2 : n < 9223372036854775808) {k : Nat} (hk : 68 + l.length ≤ k) {R : Type} (ret : Bool → Option R) :
    prime_product.f k l n ret = ret (pl l n == some 1) := by
  obtain ⟨k, rfl⟩ : ∃ m, k = m + 1 := ⟨k - 1, by omega⟩
  simp only [prime_product.f]
  have := product_l0 (k := k) (by omega) (fun t41 => ret t41) (fun n4 => ret (n4 == 1)) hl l.length k 0 n (by omega) (by omega) h1 h2
  rw [show ((0 : Nat) : Int) = 0 from rfl] at this
  rw [this, List.drop_zero]
  cases pl l n with
  | none => rfl
  | some v => rfl

/-- A proof's form is right. -/
def formB (x : Int × Int × List (Int × Int)) : Bool := decide (2 < x.1 ∧ x.1 < 9223372036854775808 ∧ 1 ≤ x.2.1 ∧ x.2.1 < x.1 ∧ 1 ≤ x.2.2.length ∧ x.2.2.length ≤ 20) && (inc x.2.2 && (pl x.2.2 (x.1 - 1) == some 1))

theorem formed_spec (x : Int × Int × List (Int × Int)) {k : Nat} (hk : 90 ≤ k) {R : Type} (ret : Bool → Option R) : prime_formed.f k x ret = ret (formB x) := by
  obtain ⟨k, rfl⟩ : ∃ m, k = m + 1 := ⟨k - 1, by omega⟩
  obtain ⟨N, a, l⟩ := x
  simp only [prime_formed.f]
  by_cases c : 2 < N ∧ N < 9223372036854775808 ∧ 1 ≤ a ∧ a < N ∧ 1 ≤ l.length ∧ l.length ≤ 20
  · have e : formB (N, a, l) = (inc l && (pl l (N - 1) == some 1)) := by
      unfold formB; rw [decide_eq_true c, Bool.true_and]
    rw [e, dF (by omega), dF (by omega), dF (by omega), dF (by omega), dF (by omega), dF (by omega)]
    have := formed_l0 (k := k) (fun t2 => ret t2) (fun x4 x5 x6 => prime_product.f k x6 (IntKind.wrap .u64 (x4 - 1)) (fun b => ret b)) N a (l := l) (by omega) (l.length - 1) k 1 (by omega) (by omega) (by omega)
    rw [show ((1 : Nat) : Int) = 1 from rfl] at this
    rw [this, Nat.sub_self, List.drop_zero, wu_in (by omega) (by omega), product_spec (by omega) (by omega) (by omega) (by omega)]
    cases inc l
    · rw [Bool.false_and]; rfl
    · rw [Bool.true_and]; rfl
  · have e : formB (N, a, l) = false := by
      unfold formB; rw [decide_eq_false c, Bool.false_and]
    rw [e]
    by_cases c1 : N ≤ 2
    · rw [dT c1]
    · by_cases c2 : N ≥ 9223372036854775808
      · rw [dF c1, dT c2]
      · by_cases c3 : a < 1
        · rw [dF c1, dF c2, dT c3]
        · by_cases c4 : a ≥ N
          · rw [dF c1, dF c2, dF c3, dT c4]
          · by_cases c5 : (l.length : Int) < 1
            · rw [dF c1, dF c2, dF c3, dF c4, dT c5]
            · rw [dF c1, dF c2, dF c3, dF c4, dF c5, dT (by omega)]

end Go.Proofs.Ytanpdkllnmeenaa.M

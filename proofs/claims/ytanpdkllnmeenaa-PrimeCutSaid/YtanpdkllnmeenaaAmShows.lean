/- prime.shows: what a proof shows, if some numbers are known. prime.First, Check, Shows. -/
import Derived.Test.YtanpdkllnmeenaaAmForm
namespace Go.Proofs.Ytanpdkllnmeenaa.Am
open Go
theorem pl_keys : ∀ (l : List (Int × Int)) (n v : Int), pl l n = some v → ∀ y ∈ l, 2 ≤ y.1 ∧ 1 ≤ y.2
  | [], n, v, h, y, hy => by cases hy
  | a :: r, n, v, h, y, hy => by
    rw [pl] at h
    by_cases c : 2 ≤ a.1 ∧ 1 ≤ a.2
    · rw [dT c] at h
      cases hd : dv a.1 a.2.toNat n with
      | none => rw [hd] at h; cases h
      | some w =>
        rw [hd] at h
        cases hy with
        | head => exact c
        | tail _ hy => exact pl_keys r w v h y hy
    · rw [dF c] at h; cases h
end Go.Proofs.Ytanpdkllnmeenaa.Am
namespace Go.Proofs.Ytanpdkllnmeenaa.M
set_option linter.unusedVariables false
set_option maxRecDepth 100000
open Go Go.RowKit Go.Proofs Go.Proofs.Ytanpdkllnmeenaa.Am

def oneB (x : Int × Int × List (Int × Int)) (n : Int) : Bool := decide (x.2.1 < x.1 ∧ 2 ≤ x.1 ∧ x.1 < 9223372036854775808) && (pw x.1 x.2.1 n == 1)
theorem one_spec {x : Int × Int × List (Int × Int)} {n : Int} (h : 0 ≤ x.2.1) (h0 : 0 ≤ n) (h1 : n < 18446744073709551616) {k : Nat} (hk : 67 ≤ k) {R : Type} (ret : Bool → Option R) : prime_one.f k x n ret = ret (oneB x n) := by
  obtain ⟨k, rfl⟩ : ∃ m, k = m + 1 := ⟨k - 1, by omega⟩
  simp only [prime_one.f]
  rw [pow_spec h h0 h1 (by omega)]
  unfold oneB
  by_cases c : x.2.1 < x.1 ∧ 2 ≤ x.1 ∧ x.1 < 9223372036854775808
  · rw [if_pos c, decide_eq_true c, Bool.true_and]
  · rw [if_neg c, decide_eq_false c, Bool.false_and]; rfl

def partB (known : List (Unit × Int × Bool)) (x : Int × Int × List (Int × Int)) (y : Int × Int) : Bool := mget false known y.1 && !(oneB x ((x.1 - 1) / y.1))
theorem shows1_spec {known : List (Unit × Int × Bool)} {x : Int × Int × List (Int × Int)} {y : Int × Int} (h : 0 ≤ x.2.1) (hx : 1 ≤ x.1) (hx' : x.1 < 9223372036854775808) (hy : 2 ≤ y.1) {k : Nat} (hk : 68 ≤ k) {R : Type} (ret : Bool → Option R) :
    prime_shows_1.f k y known x ret = ret (!(partB known x y)) := by
  obtain ⟨k, rfl⟩ : ∃ m, k = m + 1 := ⟨k - 1, by omega⟩
  simp only [prime_shows_1.f]
  unfold partB
  have h1 : 0 ≤ (x.1 - 1) / y.1 := Int.ediv_nonneg (by omega) (by omega)
  have h2 : (x.1 - 1) / y.1 ≤ x.1 - 1 := Int.ediv_le_self _ (by omega)
  rw [nT (by omega), wu_in (n := x.1 - 1) (by omega) (by omega), Int.tdiv_eq_ediv_of_nonneg (by omega), wu_in h1 (by omega), one_spec h h1 (by omega) (by omega)]
  cases mget false known y.1
  · rw [Bool.not_false, Bool.false_and, Bool.not_false]; rfl
  · rw [Bool.not_true, Bool.true_and, Bool.not_not]; rfl

theorem index_l0 {known : List (Unit × Int × Bool)} {x : Int × Int × List (Int × Int)} (h : 0 ≤ x.2.1) (hx : 1 ≤ x.1) (hx' : x.1 < 9223372036854775808) {k : Nat} (hk : 68 ≤ k) {l : List (Int × Int)} (hl : l.length < 281474976710656) (hy : ∀ y ∈ l, 2 ≤ y.1) (d : Nat) : ∀ (m i : Nat), i + d = l.length → d < m →
    ∃ j : Int, 0 ≤ j ∧ ∀ {R : Type} (x0 : Int → Option R) (x1 : Unit → Option R), slices_IndexFunc.L0 k x0 x1 m l known x (l.length : Int) i = bif (l.drop i).all (partB known x) then x1 () else x0 j := by
  induction d with
  | zero =>
    intro m i hi hm
    obtain ⟨m, rfl⟩ : ∃ j, m = j + 1 := ⟨m - 1, by omega⟩
    refine ⟨0, by omega, fun x0 x1 => ?_⟩
    simp only [slices_IndexFunc.L0, slices_IndexFunc.B0]
    rw [dF (by omega), List.drop_of_length_le (by omega), List.all_nil]
    rfl
  | succ d ih =>
    intro m i hi hm
    obtain ⟨m, rfl⟩ : ∃ j, m = j + 1 := ⟨m - 1, by omega⟩
    obtain ⟨j, hj, hh⟩ := ih m (i + 1) (by omega) (by omega)
    have hm1 := getD_mem (l := l) (i := i) (by omega) (0, 0)
    have hs := fun {R : Type} (ret : Bool → Option R) => shows1_spec (known := known) h hx hx' (hy _ hm1) hk ret
    simp only [slices_IndexFunc.L0, slices_IndexFunc.B0]
    rw [Int.toNat_natCast, drop_at (i := i) (by omega) (0, 0), List.all_cons]
    cases hp : partB known x (l.getD i (0, 0)) with
    | false =>
      refine ⟨i, by omega, fun x0 x1 => ?_⟩
      rw [dT (by omega), aT (by omega), hs, hp, Bool.not_false, Bool.false_and]; rfl
    | true =>
      refine ⟨j, hj, fun x0 x1 => ?_⟩
      rw [dT (by omega), aT (by omega), hs, hp, Bool.not_true, Bool.true_and, cond_false, ix (by omega), hh]

theorem contains_spec {known : List (Unit × Int × Bool)} {x : Int × Int × List (Int × Int)} (h : 0 ≤ x.2.1) (hx : 1 ≤ x.1) (hx' : x.1 < 9223372036854775808) {l : List (Int × Int)} (hl : l.length < 281474976710656) (hy : ∀ y ∈ l, 2 ≤ y.1) {k : Nat} (hk : 72 + l.length ≤ k) {R : Type} (ret : Bool → Option R) :
    slices_ContainsFunc.f k l known x ret = ret (!(l.all (partB known x))) := by
  obtain ⟨k, rfl⟩ : ∃ m, k = m + 2 := ⟨k - 2, by omega⟩
  obtain ⟨j, hj, hh⟩ := index_l0 (known := known) h hx hx' (k := k) (by omega) hl hy l.length k 0 (by omega) (by omega)
  simp only [slices_ContainsFunc.f, slices_IndexFunc.f]
  rw [show ((0 : Nat) : Int) = 0 from rfl, List.drop_zero] at hh
  rw [hh]
  cases l.all (partB known x)
  · rw [cond_false, decide_eq_true (by omega), Bool.not_false]
  · rw [cond_true, decide_eq_false (by omega), Bool.not_true]

def showsB (known : List (Unit × Int × Bool)) (x : Int × Int × List (Int × Int)) : Bool := formB x && (oneB x (x.1 - 1) && x.2.2.all (partB known x))
theorem form_facts {x : Int × Int × List (Int × Int)} (h : formB x = true) : (2 < x.1 ∧ x.1 < 9223372036854775808 ∧ 1 ≤ x.2.1 ∧ x.2.1 < x.1 ∧ 1 ≤ x.2.2.length ∧ x.2.2.length ≤ 20) ∧ inc x.2.2 = true ∧ pl x.2.2 (x.1 - 1) = some 1 := by
  unfold formB at h
  rw [Bool.and_eq_true, Bool.and_eq_true] at h
  exact ⟨of_decide_eq_true h.1, h.2.1, by simpa using h.2.2⟩
theorem shows_spec (known : List (Unit × Int × Bool)) (x : Int × Int × List (Int × Int)) {k : Nat} (hk : 100 ≤ k) {R : Type} (ret : Bool → Option R) : prime_shows.f k x known ret = ret (showsB known x) := by
  obtain ⟨k, rfl⟩ : ∃ m, k = m + 1 := ⟨k - 1, by omega⟩
  simp only [prime_shows.f]
  rw [formed_spec _ (by omega)]
  unfold showsB
  cases hf : formB x with
  | false => rw [Bool.not_false, Bool.false_and]; rfl
  | true =>
    obtain ⟨⟨a1, a2, a3, a4, a5, a6⟩, _, hp⟩ := form_facts hf
    rw [Bool.not_true, cond_false, Bool.true_and, wu_in (n := x.1 - 1) (by omega) (by omega), one_spec (by omega) (by omega) (by omega) (by omega)]
    cases oneB x (x.1 - 1) with
    | false => rw [Bool.not_false, Bool.false_and]; rfl
    | true =>
      rw [Bool.not_true, cond_false, Bool.true_and, contains_spec (by omega) (by omega) a2 (by omega) (fun y hy => (pl_keys _ _ _ hp y hy).1) (by omega), Bool.not_not]

/-- What is known of a list, up to some place: 2, and all numbers ahead. -/
def knownM : List (Int × Int × List (Int × Int)) → List (Unit × Int × Bool) → List (Unit × Int × Bool)
  | [], m => m
  | x :: r, m => knownM r (mset m x.1 true)
/-- The first that isn't shown. -/
def firstFrom (i : Nat) (last : Int) : List (Int × Int × List (Int × Int)) → List (Unit × Int × Bool) → Nat
  | [], _ => i
  | x :: r, m => bif decide (i < 200) && (decide (i = 0 ∨ last < x.1) && showsB m x) then firstFrom (i + 1) x.1 r (mset m x.1 true) else i
def firstN (l : List (Int × Int × List (Int × Int))) : Nat := firstFrom 0 0 l (mset [] 2 true)

theorem first_l0 {k : Nat} (hk : 100 ≤ k) {R : Type} (x0 : Int → Option R) (x1 : List (Int × Int × List (Int × Int)) → Option R) {l : List (Int × Int × List (Int × Int))} (hl : l.length < 281474976710656) (hx : x1 l = x0 (l.length : Int)) (d : Nat) : ∀ (m i : Nat) (known : List (Unit × Int × Bool)), i + d = l.length → d < m → i ≤ 200 →
    prime_First.L0 k x0 x1 m l l (l.length : Int) i known = x0 (firstFrom i (l.getD (i - 1) (0, 0, [])).1 (l.drop i) known : Nat) := by
  induction d with
  | zero =>
    intro m i known hi hm h200
    obtain ⟨m, rfl⟩ : ∃ j, m = j + 1 := ⟨m - 1, by omega⟩
    simp only [prime_First.L0, prime_First.B0]
    rw [dF (by omega), List.drop_of_length_le (by omega), hx]
    congr 1
    show _ = ((i : Nat) : Int)
    omega
  | succ d ih =>
    intro m i known hi hm h200
    obtain ⟨m, rfl⟩ : ∃ j, m = j + 1 := ⟨m - 1, by omega⟩
    simp only [prime_First.L0, prime_First.B0]
    rw [dT (by omega), aT (by omega), drop_at (i := i) (by omega) (0, 0, []), firstFrom, Int.toNat_natCast]
    have heta : ((l.getD i (0, 0, [])).1, (l.getD i (0, 0, [])).2) = l.getD i (0, 0, []) := rfl
    rw [heta, shows_spec _ _ hk, ix (by omega)]
    by_cases c : i = 200
    · rw [eT (by omega), decide_eq_false (p := i < 200) (by omega), Bool.false_and, cond_false]
    · have ih' := ih m (i + 1) (mset known (l.getD i (0, 0, [])).1 true) (by omega) (by omega) (by omega)
      rw [Nat.add_sub_cancel] at ih'
      rw [eF (by omega), ih']
      by_cases c2 : i < 200
      · rw [decide_eq_true c2, Bool.true_and]
        by_cases c1 : i = 0
        · subst c1
          rw [dF (by omega), decide_eq_true (p := (0 = 0 ∨ _)) (.inl rfl), Bool.true_and]
          cases showsB known (l.getD 0 (0, 0, []))
          · rw [Bool.not_false, cond_true, cond_false]
          · rw [Bool.not_true, cond_false, cond_true]
        · rw [dT (by omega), ixm (by omega) (by omega), aT (by omega), Int.toNat_natCast]
          by_cases c3 : (l.getD (i - 1) (0, 0, [])).1 < (l.getD i (0, 0, [])).1
          · rw [dF (by omega), decide_eq_true (p := (i = 0 ∨ _)) (.inr c3), Bool.true_and]
            cases showsB known (l.getD i (0, 0, []))
            · rw [Bool.not_false, cond_true, cond_false]
            · rw [Bool.not_true, cond_false, cond_true]
          · rw [dT (by omega), decide_eq_false (p := (i = 0 ∨ _)) (by omega), Bool.false_and, cond_false]
      · omega

theorem first_spec {l : List (Int × Int × List (Int × Int))} (hl : l.length < 281474976710656) {k : Nat} (hk : 101 + l.length ≤ k) {R : Type} (ret : Int → Option R) : prime_First.f k l ret = ret (firstN l : Nat) := by
  obtain ⟨k, rfl⟩ : ∃ m, k = m + 1 := ⟨k - 1, by omega⟩
  simp only [prime_First.f]
  have := first_l0 (k := k) (by omega) (fun t2 => ret t2) (fun l2 => ret (l2.length : Int)) hl rfl l.length k 0 (mset [] 2 true) (by omega) (by omega) (by omega)
  rw [show ((0 : Nat) : Int) = 0 from rfl] at this
  rw [this, firstN, List.drop_zero]
  cases l with
  | nil => rw [firstFrom, firstFrom]
  | cons x r => rw [firstFrom, firstFrom, decide_eq_true (p := (0 = 0 ∨ _)) (.inl rfl), decide_eq_true (p := (0 = 0 ∨ _)) (.inl rfl)]
theorem check_spec {l : List (Int × Int × List (Int × Int))} (hl : l.length < 281474976710656) {k : Nat} (hk : 102 + l.length ≤ k) {R : Type} (ret : Bool → Option R) : prime_Check.f k l ret = ret (firstN l == l.length) := by
  obtain ⟨k, rfl⟩ : ∃ m, k = m + 1 := ⟨k - 1, by omega⟩
  simp only [prime_Check.f]
  rw [first_spec hl (by omega)]
  congr 1
  by_cases h : firstN l = l.length
  · rw [h]; simp
  · rw [beq_eq_false_iff_ne.2 h, beq_eq_false_iff_ne.2 (by omega)]

theorem index_l1 (p : Int) {k : Nat} (hk : 1 ≤ k) {l : List (Int × Int × List (Int × Int))} (hl : l.length < 281474976710656) (d : Nat) : ∀ (m i : Nat), i + d = l.length → d < m →
    ∃ j : Int, 0 ≤ j ∧ ∀ {R : Type} (x0 : Int → Option R) (x1 : Unit → Option R), slices_IndexFunc_45.L0 k x0 x1 m l p (l.length : Int) i = bif (l.drop i).any (fun x => x.1 == p) then x0 j else x1 () := by
  induction d with
  | zero =>
    intro m i hi hm
    obtain ⟨m, rfl⟩ : ∃ j, m = j + 1 := ⟨m - 1, by omega⟩
    refine ⟨0, by omega, fun x0 x1 => ?_⟩
    simp only [slices_IndexFunc_45.L0, slices_IndexFunc_45.B0]
    rw [dF (by omega), List.drop_of_length_le (by omega), List.any_nil]
    rfl
  | succ d ih =>
    intro m i hi hm
    obtain ⟨m, rfl⟩ : ∃ j, m = j + 1 := ⟨m - 1, by omega⟩
    obtain ⟨k, rfl⟩ : ∃ m, k = m + 1 := ⟨k - 1, by omega⟩
    obtain ⟨j, hj, hh⟩ := ih m (i + 1) (by omega) (by omega)
    simp only [slices_IndexFunc_45.L0, slices_IndexFunc_45.B0, prime_Shows_1.f]
    rw [Int.toNat_natCast, drop_at (i := i) (by omega) (0, 0, []), List.any_cons]
    cases hp : ((l.getD i (0, 0, [])).1 == p) with
    | true =>
      refine ⟨i, by omega, fun x0 x1 => ?_⟩
      rw [dT (by omega), aT (by omega), cond_true, Bool.true_or]; rfl
    | false =>
      refine ⟨j, hj, fun x0 x1 => ?_⟩
      rw [dT (by omega), aT (by omega), cond_false, Bool.false_or, ix (by omega), hh]

theorem shows2_spec {l : List (Int × Int × List (Int × Int))} (p : Int) (hl : l.length < 281474976710656) {k : Nat} (hk : 105 + l.length ≤ k) {R : Type} (ret : Bool → Option R) :
    prime_Shows.f k l p ret = ret ((firstN l == l.length) && ((p == 2) || l.any (fun x => x.1 == p))) := by
  obtain ⟨k, rfl⟩ : ∃ m, k = m + 3 := ⟨k - 3, by omega⟩
  obtain ⟨j, hj, hh⟩ := index_l1 p (k := k) (by omega) hl l.length k 0 (by omega) (by omega)
  simp only [prime_Shows.f, slices_ContainsFunc_29.f, slices_IndexFunc_45.f]
  rw [show ((0 : Nat) : Int) = 0 from rfl, List.drop_zero] at hh
  rw [hh, check_spec hl (by omega), check_spec hl (by omega)]
  cases hA : l.any (fun x => x.1 == p) with
  | false =>
    rw [cond_false, decide_eq_false (by omega), Bool.or_false]
    cases firstN l == l.length
    · rw [cond_false, Bool.false_and]
    · rw [cond_true, Bool.true_and]
      cases p == 2
      · rw [cond_false]
      · rw [cond_true]
  | true =>
    rw [cond_true, decide_eq_true (by omega), Bool.or_true]
    cases firstN l == l.length
    · rw [cond_false, Bool.false_and]
    · rw [cond_true, Bool.true_and]
      cases p == 2
      · rw [cond_false]
      · rw [cond_true]
end Go.Proofs.Ytanpdkllnmeenaa.M

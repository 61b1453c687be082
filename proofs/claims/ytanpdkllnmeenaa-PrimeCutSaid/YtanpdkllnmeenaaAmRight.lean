/- The reference's First, Shows, Short. -/
import Derived.Test.YtanpdkllnmeenaaAmRef
namespace Go.Proofs.Ytanpdkllnmeenaa.Am
theorem mget_mset {V : Type} (d : V) (xs : List (Unit × Int × V)) (n : Int) (y : V) (m : Int) : mget d (mset xs n y) m = if n = m then y else mget d xs m := by
  induction xs with
  | nil => simp [mset, mget]
  | cons e r ih =>
    rw [mset]
    by_cases h : e.2.1 = n
    · rw [if_pos h, mget, mget]
      by_cases h2 : n = m
      · rw [if_pos h2, if_pos h2]
      · rw [if_neg h2, if_neg h2, if_neg (by omega)]
    · rw [if_neg h, mget, mget, ih]
      by_cases h2 : e.2.1 = m
      · rw [if_pos h2, if_pos h2, if_neg (by omega)]
      · rw [if_neg h2, if_neg h2]
end Go.Proofs.Ytanpdkllnmeenaa.Am
namespace Go.Proofs.Ytanpdkllnmeenaa.M
set_option linter.unusedVariables false
set_option maxRecDepth 100000
open Go Go.RowKit Go.Proofs Go.Proofs.Ytanpdkllnmeenaa.Am

theorem take_any {l : List (Int × Int × List (Int × Int))} {i : Nat} (h : i < l.length) (f : Int × Int × List (Int × Int) → Bool) : (l.take (i + 1)).any f = ((l.take i).any f || f (l.getD i (0, 0, []))) := by
  rw [List.take_succ_eq_append_getElem h, List.any_append]
  congr 1
  rw [List.getD_eq_getElem?_getD, List.getElem?_eq_getElem h]
  simp

theorem rfirst_l0 {k : Nat} {R : Type} (x0 : Int → Option R) (x1 : List (Int × Int × List (Int × Int)) → Option R) {l : List (Int × Int × List (Int × Int))} (hk : 151 + l.length ≤ k) (hl : l.length < 281474976710656) (hv : ∀ x ∈ l, 0 ≤ x.2.1 ∧ ∀ y ∈ x.2.2, y.2 < 9223372036854775808) (hx : x1 l = x0 (l.length : Int)) (d : Nat) : ∀ (m i : Nat) (known : List (Unit × Int × Bool)), i + d = l.length → d < m → (∀ y, mget false known y = ((l.take i).any (fun x => x.1 == y) || (y == 2))) →
    affidavitref02_First.L0 k x0 x1 m l i = x0 (firstFrom i (l.getD (i - 1) (0, 0, [])).1 (l.drop i) known : Nat) := by
  induction d with
  | zero =>
    intro m i known hi hm hkn
    obtain ⟨m, rfl⟩ : ∃ j, m = j + 1 := ⟨m - 1, by omega⟩
    simp only [affidavitref02_First.L0, affidavitref02_First.B0]
    rw [dF (by omega), List.drop_of_length_le (by omega), hx]
    congr 1
    show _ = ((i : Nat) : Int)
    omega
  | succ d ih =>
    intro m i known hi hm hkn
    obtain ⟨m, rfl⟩ : ∃ j, m = j + 1 := ⟨m - 1, by omega⟩
    have ih' := ih m (i + 1) (mset known (l.getD i (0, 0, [])).1 true) (by omega) (by omega) (fun y => by
      rw [mget_mset, hkn, take_any (by omega)]
      by_cases h : (l.getD i (0, 0, [])).1 = y
      · rw [if_pos h, beq_iff_eq.2 h, Bool.or_true, Bool.true_or]
      · rw [if_neg h, beq_eq_false_iff_ne.2 h, Bool.or_false])
    rw [Nat.add_sub_cancel] at ih'
    simp only [affidavitref02_First.L0, affidavitref02_First.B0]
    rw [dT (by omega), refProof_spec hl hv (by omega) hk, ix (by omega), ih', drop_at (i := i) (by omega) (0, 0, []), firstFrom, showsB_K]
    have e : mget false known = fun y => ((l.take i).any (fun x => x.1 == y) || (y == 2)) := funext hkn
    rw [e]
    unfold proofR
    cases decide (i < 200) && (decide (i = 0 ∨ (l.getD (i - 1) (0, 0, [])).1 < (l.getD i (0, 0, [])).1) && showsK (fun y => (l.take i).any (fun x => x.1 == y) || (y == 2)) (l.getD i (0, 0, [])))
    · rw [Bool.not_false, cond_true, cond_false]
    · rw [Bool.not_true, cond_false, cond_true]

theorem rfirst_spec {l : List (Int × Int × List (Int × Int))} (hl : l.length < 281474976710656) (hv : ∀ x ∈ l, 0 ≤ x.2.1 ∧ ∀ y ∈ x.2.2, y.2 < 9223372036854775808) {k : Nat} (hk : 152 + l.length ≤ k) {R : Type} (ret : Int → Option R) : affidavitref02_First.f k l ret = ret (firstN l : Nat) := by
  obtain ⟨k, rfl⟩ : ∃ m, k = m + 1 := ⟨k - 1, by omega⟩
  simp only [affidavitref02_First.f]
  have := rfirst_l0 (k := k) (fun t2 => ret t2) (fun l2 => ret (l2.length : Int)) (l := l) (by omega) hl hv rfl l.length k 0 (mset [] 2 true) (by omega) (by omega) (fun y => by
    rw [mget_mset, List.take_zero, List.any_nil, Bool.false_or]
    by_cases h : 2 = y
    · rw [if_pos h, beq_iff_eq.2 h.symm]
    · rw [if_neg h, beq_eq_false_iff_ne.2 (by omega)]; rfl)
  rw [show ((0 : Nat) : Int) = 0 from rfl] at this
  rw [this, firstN, List.drop_zero]
  cases l with
  | nil => rw [firstFrom, firstFrom]
  | cons x r => rw [firstFrom, firstFrom, decide_eq_true (p := (0 = 0 ∨ _)) (.inl rfl), decide_eq_true (p := (0 = 0 ∨ _)) (.inl rfl)]

theorem rshows_spec {l : List (Int × Int × List (Int × Int))} (p : Int) (hl : l.length < 281474976710656) (hv : ∀ x ∈ l, 0 ≤ x.2.1 ∧ ∀ y ∈ x.2.2, y.2 < 9223372036854775808) {k : Nat} (hk : 153 + l.length ≤ k) {R : Type} (ret : Bool → Option R) :
    affidavitref02_Shows.f k l p ret = ret ((firstN l == l.length) && ((p == 2) || l.any (fun x => x.1 == p))) := by
  obtain ⟨k, rfl⟩ : ∃ m, k = m + 1 := ⟨k - 1, by omega⟩
  simp only [affidavitref02_Shows.f]
  rw [rfirst_spec hl hv (by omega), known_spec _ hl (by omega)]
  by_cases h : firstN l = l.length
  · rw [eT (by omega), beq_iff_eq.2 h, Bool.true_and, Bool.or_comm]
  · rw [eF (by omega), beq_eq_false_iff_ne.2 h, Bool.false_and]

/-- Short lists. -/
def shortB (l : List (Int × Int × List (Int × Int))) : Bool := decide (l.length ≤ 40) && l.all (fun x => decide (x.2.2.length ≤ 30))
theorem short_l0 {k : Nat} {R : Type} (x0 : Bool → Option R) (x1 : Unit → Option R) {l : List (Int × Int × List (Int × Int))} (hl : l.length < 281474976710656) (d : Nat) : ∀ (m i : Nat), i + d = l.length → d < m →
    affidavitref02_Short.L0 k x0 x1 m l i = bif (l.drop i).all (fun x => decide (x.2.2.length ≤ 30)) then x1 () else x0 false := by
  induction d with
  | zero =>
    intro m i hi hm
    obtain ⟨m, rfl⟩ : ∃ j, m = j + 1 := ⟨m - 1, by omega⟩
    simp only [affidavitref02_Short.L0, affidavitref02_Short.B0]
    rw [dF (by omega), List.drop_of_length_le (by omega), List.all_nil, cond_true]
  | succ d ih =>
    intro m i hi hm
    obtain ⟨m, rfl⟩ : ∃ j, m = j + 1 := ⟨m - 1, by omega⟩
    simp only [affidavitref02_Short.L0, affidavitref02_Short.B0]
    rw [dT (by omega), aT (by omega), Int.toNat_natCast, drop_at (i := i) (by omega) (0, 0, []), List.all_cons, ix (by omega), ih m (i + 1) (by omega) (by omega)]
    by_cases h : (l.getD i (0, 0, [])).2.2.length ≤ 30
    · rw [dF (by omega), decide_eq_true h, Bool.true_and]
    · rw [dT (by omega), decide_eq_false h, Bool.false_and, cond_false]
theorem short_spec {l : List (Int × Int × List (Int × Int))} (hl : l.length < 281474976710656) {k : Nat} (hk : 42 ≤ k) {R : Type} (ret : Bool → Option R) : affidavitref02_Short.f k l ret = ret (shortB l) := by
  obtain ⟨k, rfl⟩ : ∃ m, k = m + 1 := ⟨k - 1, by omega⟩
  simp only [affidavitref02_Short.f]
  unfold shortB
  by_cases h : l.length ≤ 40
  · rw [dF (by omega), decide_eq_true h, Bool.true_and]
    have := short_l0 (k := k) (fun t2 => ret t2) (fun _ => ret true) hl l.length k 0 (by omega) (by omega)
    rw [show ((0 : Nat) : Int) = 0 from rfl] at this
    rw [this, List.drop_zero]
    cases l.all (fun x => decide (x.2.2.length ≤ 30))
    · rw [cond_false]
    · rw [cond_true]
  · rw [dT (by omega), decide_eq_false h, Bool.false_and]
end Go.Proofs.Ytanpdkllnmeenaa.M

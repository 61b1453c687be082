/- The order of letters: by time, number, receiver, length and bytes. Over the printed functions alone; no memory. -/
import Derived.Test.YtghkngdcmlhmeaaPQux4
set_option linter.unusedVariables false
set_option linter.unusedSimpArgs false
set_option linter.unusedSectionVars false
namespace Go.Proofs.Ytghkngdcmlhmeaa.Qo
open Go Go.RowKit Go.Proofs.Ytghkngdcmlhmeaa.PQu Go.Proofs.YtghkngdcmlhmeaaW.PrintWords Go.Proofs.YtghkngdcmlhmeaaW.PrintLast Go.Proofs.YtghkngdcmlhmeaaW.PrintMore
/-- -1, 0 or 1: the order of two whole numbers. -/
def ci (a b : Int) : Int := if a < b then -1 else if a > b then 1 else 0
theorem compare_int (a b : Int) : cmp_Compare_int.f a b = some (ci a b) := by
  unfold cmp_Compare_int.f cmp_isNaN_int.f ci
  simp only [Option.bind_some]
  by_cases h : a < b
  · simp [h]
  · by_cases h2 : a > b
    · simp [h, h2]
    · simp [h, h2]
/-- The first that isn't 0. -/
def firstOf : List Int → Int
  | [] => 0
  | x :: l => if x = 0 then firstOf l else x
theorem or_l0 (l : List Int) (hl : l.length < 1000) (d : Nat) : ∀ k i : Nat, i + d = l.length → d < k → cmp_Or_int.l0 k 0 l (l.length : Int) (i : Int) = some (firstOf (l.drop i)) := by
  induction d with
  | zero =>
    intro k i hi hk
    obtain ⟨k, rfl⟩ : ∃ j, k = j + 1 := ⟨k - 1, by omega⟩
    rw [cmp_Or_int.l0, if_neg (by omega), List.drop_eq_nil_of_le (by omega)]
    rfl
  | succ d ih =>
    intro k i hi hk
    obtain ⟨k, rfl⟩ : ∃ j, k = j + 1 := ⟨k - 1, by omega⟩
    have hlt : i < l.length := by omega
    have e : l.drop i = l[i] :: l.drop (i + 1) := List.drop_eq_getElem_cons hlt
    have er : rd l (i : Int) = l[i] := by unfold rd; rw [Int.toNat_natCast, List.getD_eq_getElem?_getD, List.getElem?_eq_getElem hlt]; rfl
    have h5 := ih k (i + 1) (by omega) (by omega)
    rw [cmp_Or_int.l0, if_pos (by omega), if_pos (by omega), if_pos (by omega), er, e]
    have e3 : wrap64 ((i : Int) + 1) = ((i + 1 : Nat) : Int) := by unfold wrap64; omega
    rw [e3]
    by_cases h : l[i] = 0
    · rw [if_pos h, h5, firstOf, if_pos h]
    · rw [if_neg h, firstOf, if_neg h]
theorem or_int (l : List Int) (hl : l.length < 1000) (k : Nat) (hk : l.length < k) : cmp_Or_int.f k l = some (firstOf l) := or_l0 l hl l.length k 0 (by omega) hk
/-- The order of two letters. -/
def ord (a0 a1 a2 : Int) (a3 : List Int) (b0 b1 b2 : Int) (b3 : List Int) : Int := firstOf [ci a0 b0, ci a1 b1, ci a2 b2, ci (a3.length : Int) (b3.length : Int), Bc.cmpB a3 b3]
theorem order_spec (a0 a1 a2 : Int) (a3 : List Int) (b0 b1 b2 : Int) (b3 : List Int) (k : Nat) (hk : 6 ≤ k) : queue_order.f k a0 a1 a2 a3 b0 b1 b2 b3 = some (ord a0 a1 a2 a3 b0 b1 b2 b3) := by
  unfold queue_order.f bytes_Compare.f
  rw [compare_int, compare_int, compare_int, compare_int]
  simp only [Option.bind_some]
  rw [or_int _ (by simp) k (by simp; omega)]
  rfl
end Go.Proofs.Ytghkngdcmlhmeaa.Qo

/- The law PrimeShown. -/
import Derived.Test.YtanpdkllnmeenaaAmShown
import Derived.Test.YtanpdkllnmeenaaAmRightLaw
namespace Go.Proofs.Ytanpdkllnmeenaa.M
set_option linter.unusedVariables false
set_option maxRecDepth 100000
open Go Go.RowKit Go.Proofs Go.Proofs.Ytanpdkllnmeenaa.Am Fp

theorem shown_tail {l : List (Int × Int × List (Int × Int))} (hf : firstN l = l.length) (h40 : l.length ≤ 40) {a : Int} (ha0 : 0 ≤ a) (ha1 : a < 18446744073709551616) {k : Nat} (hk : 65600 ≤ k) {R : Type} (x0 : Bool → Option R) (x1 : Unit → Option R) (d : Nat) : ∀ (m i : Nat), i + d = l.length → d < m →
    affidavitlaw02_PrimeShown.L0 k x0 x1 m l a i = x1 () := by
  induction d with
  | zero =>
    intro m i hi hm
    obtain ⟨m, rfl⟩ : ∃ j, m = j + 1 := ⟨m - 1, by omega⟩
    simp only [affidavitlaw02_PrimeShown.L0, affidavitlaw02_PrimeShown.B0]
    rw [dF (by omega)]
  | succ d ih =>
    intro m i hi hm
    obtain ⟨m, rfl⟩ : ∃ j, m = j + 1 := ⟨m - 1, by omega⟩
    obtain ⟨hp, hfo, hr1, hr2⟩ := list_prime hf _ (getD_mem (l := l) (i := i) (by omega) (0, 0, []))
    obtain ⟨⟨b1, b2, b3, b4, b5, b6⟩, _, _⟩ := form_facts hfo
    have htk := list_take hf (i + 1)
    have htl : (l.take (i + 1)).length = i + 1 := by rw [List.length_take]; omega
    have hany : (l.take (i + 1)).any (fun x => x.1 == (l.getD i (0, 0, [])).1) = true := by
      rw [take_any (by omega), beq_self_eq_true, Bool.or_true]
    generalize hN : (l.getD i (0, 0, [])).1 = N at hp hr1 hr2 b1 b2 b3 b4 b5 b6 hany
    have hx0 : 0 ≤ a % (N - 1) := Int.emod_nonneg _ (by omega)
    have hx1 : a % (N - 1) < N - 1 := Int.emod_lt_of_pos _ (by omega)
    generalize hX : a % (N - 1) + 1 = X at *
    have hX0 : 1 ≤ X := by omega
    have hX1 : X < N := by omega
    have hfer : pw N X (N - 1) = 1 := by
      rw [pw_nat (by omega) (by omega)]
      have := fermat (by omega) hr1 hr2 X.toNat (by omega) (by omega)
      rw [show (N - 1).toNat = N.toNat - 1 by omega, this]
      rfl
    have hgcd : ∀ (ret : Int → Option R), affidavitref01_Gcd.f k N X ret = ret 1 := fun ret => by
      have := gcd_spec (a := N.toNat) (b := X.toNat) (by omega) (by omega) (k := k) (by omega) ret
      rw [Int.toNat_of_nonneg (by omega), Int.toNat_of_nonneg (by omega), pr_coprime hp.2 (by omega) (by omega)] at this
      exact this
    obtain ⟨v, _, _, _, hinv⟩ := inv_spec (p := N) (a := X) (by omega) b2 (by omega) hX1 ⟨X ^ (N.toNat - 2), by
      have h2 : X * X ^ (N.toNat - 2) = X ^ (N - 1).toNat := by
        rw [← Int.pow_succ']; congr 1; omega
      rw [h2]; exact hfer⟩ (k := k) (by omega)
    have rest : ∀ ret : Bool → Option R, prime_Shows.f k (l.take (IntKind.wrap .i64 ((i : Int) + 1)).toNat) N ret = ret true := fun ret => by
      rw [ix (by omega), Int.toNat_natCast, shows2_spec _ (by omega) (by omega), htk, hany, Bool.or_true, beq_self_eq_true]
      rfl
    simp only [affidavitlaw02_PrimeShown.L0, affidavitlaw02_PrimeShown.B0]
    rw [dT (by omega), aT (by omega), Int.toNat_natCast, hN, wu_in (n := N - 1) (by omega) (by omega), nT (by omega), Int.tmod_eq_emod_of_nonneg ha0, wu_in (n := a % (N - 1) + 1) (by omega) (by omega), hX]
    have hwi : IntKind.wrap .i64 ((i : Int) + 1) = ((i + 1 : Nat) : Int) := ix (by omega)
    have body : (field_Inv.f k N X (fun n5 n6 =>
        field_Pow.f k N X (N - 1) (fun n7 n8 =>
          bif (n6 != 0) then
            (x0 false)
          else
            (bif (n8 != 0) then
              (x0 false)
            else
              (bif (n7 != 1) then
                (x0 false)
              else
                (affidavitref01_Gcd.f k N X (fun n9 =>
                  bif (n9 != 1) then
                    (x0 false)
                  else
                    (bif (decide (0 ≤ (IntKind.wrap .i64 ((i : Int) + 1))) && decide ((IntKind.wrap .i64 ((i : Int) + 1)) ≤ (l.length : Int))) then (prime_Shows.f k (l.take (IntKind.wrap .i64 ((i : Int) + 1)).toNat) N (fun b5 =>
                      bif (!b5) then
                        (x0 false)
                      else
                        (affidavitlaw02_PrimeShown.L0 k x0 x1 m l a (IntKind.wrap .i64 ((i : Int) + 1))))) else none)))))))) = x1 () := by
      rw [hinv, pow_spec (by omega) (by omega) (by omega) (by omega), if_pos ⟨hX1, by omega, b2⟩, hfer, nF rfl, nF rfl, nF rfl, hgcd, nF rfl, rest, hwi, aT (by omega), Bool.not_true, cond_false, ih m (i + 1) (by omega) (by omega)]
    by_cases c : N < 1073741824
    · rw [dT c, (is_spec (by omega) (by omega) (by omega) _).1 (isB_pr.2 hp), Bool.not_true, cond_false]
      exact body
    · rw [dF c]
      exact body

theorem primeShown_true {l : List (Int × Int × List (Int × Int))} {a : Int} (hl : l.length < 281474976710656) (ha0 : 0 ≤ a) (ha1 : a < 18446744073709551616) {R : Type} (ret : Bool → Option R) :
    affidavitlaw02_PrimeShown.f 65701 l a ret = ret true := by
  rw [show (65701 : Nat) = 65700 + 1 from rfl, affidavitlaw02_PrimeShown.f, awake_spec (by omega), Bool.not_true, cond_false, short_spec hl (by omega)]
  cases hs : shortB l
  · rw [Bool.not_false, cond_true]
  · have h40 := short_len hs
    rw [Bool.not_true, cond_false, check_spec hl (by omega)]
    cases hc : firstN l == l.length
    · rw [Bool.not_false, cond_true]
    · rw [Bool.not_true, cond_false]
      exact shown_tail (beq_iff_eq.1 hc) h40 ha0 ha1 (k := 65700) (by omega) (fun t4 => ret t4) (fun _ => ret true) l.length 65700 0 (by omega) (by omega)
end Go.Proofs.Ytanpdkllnmeenaa.M

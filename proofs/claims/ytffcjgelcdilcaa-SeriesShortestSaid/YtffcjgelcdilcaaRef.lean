/- The reference's field: sums, products by doubling, and what is in range. Over the printed functions alone; no memory. -/
import Derived.Test.YtffcjgelcdilcaaField
import Derived.Test.YtffcjgelcdilcaaPolyS
import Derived.Test.YtffcjgelcdilcaaPSerx7
import Derived.Test.YtffcjgelcdilcaaPSerx8
set_option linter.unusedVariables false
set_option linter.unusedSimpArgs false
set_option linter.unusedSectionVars false
namespace Go.Proofs.Ytffcjgelcdilcaa.Spec
open Go.RowKit Go.Proofs.Ytffcjgelcdilcaa.PSer Go.Proofs.YtffcjgelcdilcaaW.PrintWords Go.Proofs.YtffcjgelcdilcaaW.PrintLast Go.Proofs.YtffcjgelcdilcaaW.PrintMore Fp
section
variable {p : Nat}
theorem Md.pos (hp : Md p) : 0 < (p : Int) := by have := hp.1; omega
theorem mod_range (hp : Md p) (x : Int) : 0 ≤ x % (p : Int) ∧ x % (p : Int) < p := ⟨Int.emod_nonneg _ (by have := hp.1; omega), Int.emod_lt_of_pos _ hp.pos⟩
theorem refAdd (hp : Md p) {a b : Int} (ha : 0 ≤ a ∧ a < p) (hb : 0 ≤ b ∧ b < p) : affidavitref01_Add.f p a b = some ((a + b) % p) := by
  have h2 := hp.2
  have h1 := hp.1
  unfold affidavitref01_Add.f
  rw [if_neg (by omega), wu_in (by omega) (by omega), Int.tmod_eq_emod_of_nonneg (by omega)]
theorem refSub (hp : Md p) {a b : Int} (ha : 0 ≤ a ∧ a < p) (hb : 0 ≤ b ∧ b < p) : affidavitref01_Sub.f p a b = some ((a - b) % p) := by
  have h2 := hp.2
  have h1 := hp.1
  unfold affidavitref01_Sub.f
  rw [if_neg (by omega), wu_in (n := a + p) (by omega) (by omega), wu_in (by omega) (by omega), Int.tmod_eq_emod_of_nonneg (by omega), show a + (p : Int) - b = a - b + p from by omega, Int.add_emod_right]
theorem refMul_le (hp : Md p) {a : Int} (ha : 0 ≤ a ∧ a < p) (n : Nat) : ∀ (b : Int), 0 ≤ b → b < 2 ^ n → b < 18446744073709551616 → ∀ k, n < k → affidavitref01_Mul.f k p a b = some (a * b % p) := by
  induction n with
  | zero =>
    intro b h0 h1 h2 k hk
    obtain ⟨k, rfl⟩ : ∃ j, k = j + 1 := ⟨k - 1, by omega⟩
    have e : b = 0 := by simp at h1; omega
    subst e
    rw [affidavitref01_Mul.f, if_pos rfl, Int.mul_zero]
    rfl
  | succ n ih =>
    intro b h0 h1 h2 k hk
    obtain ⟨k, rfl⟩ : ∃ j, k = j + 1 := ⟨k - 1, by omega⟩
    by_cases hb : b = 0
    · subst hb
      rw [affidavitref01_Mul.f, if_pos rfl, Int.mul_zero]
      rfl
    · have hpow : (2 : Int) ^ (n + 1) = 2 * 2 ^ n := by rw [Int.pow_succ, Int.mul_comm]
      have hd : IntKind.u64.wrap (Int.tdiv b 2) = b / 2 := by rw [Int.tdiv_eq_ediv_of_nonneg h0, wu_in (by omega) (by omega)]
      have ht : Int.tmod b 2 = b % 2 := Int.tmod_eq_emod_of_nonneg h0
      have hm := mod_range hp (a * (b / 2))
      rw [affidavitref01_Mul.f, if_neg hb, hd, ih (b / 2) (by omega) (by omega) (by omega) k (by omega), ht]
      simp only [Option.bind_some]
      rw [refAdd hp hm hm, ← Int.add_emod]
      simp only [Option.bind_some]
      have e : a * (b / 2) + a * (b / 2) = a * (2 * (b / 2)) := by rw [Int.mul_left_comm, Int.two_mul]
      rw [e]
      by_cases ho : b % 2 = 1
      · rw [if_pos ho, refAdd hp (mod_range hp _) ha]
        simp only [Option.bind_some]
        rw [Int.emod_add_emod]
        have e2 : a * (2 * (b / 2)) + a = a * b := by
          have : b = 2 * (b / 2) + 1 := by omega
          rw [show a * b = a * (2 * (b / 2) + 1) from by rw [← this], Int.mul_add, Int.mul_one]
        rw [e2]
      · rw [if_neg ho]
        have : b = 2 * (b / 2) := by omega
        rw [← this]
theorem refMul (hp : Md p) {a b : Int} (ha : 0 ≤ a ∧ a < p) (hb : 0 ≤ b ∧ b < p) {k : Nat} (hk : 65 ≤ k) : affidavitref01_Mul.f k p a b = some (a * b % p) :=
  refMul_le hp ha 64 b hb.1 (by have := hp.2; omega) (by have := hp.2; omega) k (by omega)
end
theorem refRight (q : Int) : affidavitref01_Right.f q = some (okB q) := by
  unfold affidavitref01_Right.f okB
  by_cases h : q > 1
  · rw [if_pos h, decide_eq_true (show 2 ≤ q by omega), Bool.true_and]
    congr 1
    by_cases h2 : q ≤ 9223372036854775807
    · rw [decide_eq_true h2, decide_eq_true (by omega)]
    · rw [decide_eq_false h2, decide_eq_false (by omega)]
  · rw [if_neg h, decide_eq_false (by omega), Bool.false_and]
theorem refHas_l0 {q : Int} {l : List Int} (hl : l.length < 4611686018427387904) (d : Nat) : ∀ k i : Nat, i + d = l.length → d < k → affidavitref01_Has.l0 k q l (i : Int) = some (((l.drop i).all fun x => decide (x < q)) && okB q) := by
  induction d with
  | zero =>
    intro k i hi hk
    obtain ⟨k, rfl⟩ : ∃ j, k = j + 1 := ⟨k - 1, by omega⟩
    rw [affidavitref01_Has.l0, if_neg (by omega), refRight, List.drop_eq_nil_of_le (by omega)]
    rfl
  | succ d ih =>
    intro k i hi hk
    obtain ⟨k, rfl⟩ : ∃ j, k = j + 1 := ⟨k - 1, by omega⟩
    have hlt : i < l.length := by omega
    have e : l.drop i = l[i] :: l.drop (i + 1) := (List.drop_eq_getElem_cons hlt)
    rw [affidavitref01_Has.l0, if_pos (by omega), if_pos (by omega), rd_lt hlt, e, List.all_cons]
    by_cases h : l[i] ≥ q
    · rw [if_pos h, decide_eq_false (by omega)]
      rfl
    · rw [if_neg h, decide_eq_true (by omega), Bool.true_and]
      have e3 : wrap64 ((i : Int) + 1) = ((i + 1 : Nat) : Int) := by rw [w64_in (by omega) (by omega)]; omega
      rw [e3, ih k (i + 1) (by omega) (by omega)]
theorem evRefHas (q : Int) {l : List Int} (hl : l.length < 4611686018427387904) : Ev (fun k => affidavitref01_Has.f k q l) (hasB q l) :=
  ⟨l.length + 1, fun k hk => by
    have h := refHas_l0 (q := q) hl l.length k 0 (by omega) (by omega)
    rw [List.drop_zero] at h
    exact h⟩
end Go.Proofs.Ytffcjgelcdilcaa.Spec

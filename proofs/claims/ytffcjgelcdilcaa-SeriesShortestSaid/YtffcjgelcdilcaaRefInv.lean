/- The reference's greatest divisor and inverse, by Euclid's rule. Over the printed functions alone; no memory. -/
import Derived.Test.YtffcjgelcdilcaaRef
import Derived.Test.YtffcjgelcdilcaaPSerx8
set_option linter.unusedVariables false
set_option linter.unusedSimpArgs false
set_option linter.unusedSectionVars false
namespace Fp
open Classical
open Go Go.RowKit Go.Proofs.Ytffcjgelcdilcaa.PSer Go.Proofs.YtffcjgelcdilcaaW.PrintWords Go.Proofs.YtffcjgelcdilcaaW.PrintLast Go.Proofs.YtffcjgelcdilcaaW.PrintMore Go.Proofs.Ytffcjgelcdilcaa.Spec
theorem evRefGcd (n : Nat) : ∀ (a b : Nat), b ≤ n → Ev (fun k => affidavitref01_Gcd.l0 k (a : Int) (b : Int)) ((Nat.gcd a b : Nat) : Int) := by
  induction n with
  | zero =>
    intro a b hb
    have e : b = 0 := by omega
    subst e
    rw [Nat.gcd_zero_right]
    exact Ev.step (fun k => affidavitref01_Gcd.l0.eq_2 ..) (Ev.iteT rfl (Ev.now _))
  | succ n ih =>
    intro a b hb
    by_cases h : b = 0
    · subst h
      rw [Nat.gcd_zero_right]
      exact Ev.step (fun k => affidavitref01_Gcd.l0.eq_2 ..) (Ev.iteT rfl (Ev.now _))
    · have hlt := Nat.mod_lt a (show 0 < b by omega)
      have h5 := ih b (a % b) (by omega)
      have e : Int.tmod (a : Int) (b : Int) = ((a % b : Nat) : Int) := by rw [Int.tmod_eq_emod_of_nonneg (by omega)]; rfl
      have eg : Nat.gcd b (a % b) = Nat.gcd a b := by rw [Nat.gcd_comm b, ← Nat.gcd_rec, Nat.gcd_comm]
      rw [eg] at h5
      refine Ev.step (fun k => affidavitref01_Gcd.l0.eq_2 ..) (Ev.iteF (by omega) ?_)
      rw [e]
      exact h5
section
variable {p : Nat} [NeZero p]
theorem refInv_l0 (hp : Md p) (c : Fin p) (n : Nat) : ∀ (r s : Nat) (x y : Int), s ≤ n → r ≤ p → s ≤ p → Nat.gcd r s = 1 → (0 ≤ x ∧ x < p) → (0 ≤ y ∧ y < p) → c * toF x = toF (r : Int) → c * toF y = toF (s : Int) →
    ∃ z, Ev (fun k => affidavitref01_Inv.l0 k p (r : Int) (s : Int) x y) (z, 0) ∧ (0 ≤ z ∧ z < (p : Int)) ∧ c * toF z = (toF 1 : Fin p) := by
  induction n with
  | zero =>
    intro r s x y hs hr hsp hg hx hy h1 h2
    have e : s = 0 := by omega
    subst e
    rw [Nat.gcd_zero_right] at hg
    subst hg
    exact ⟨x, Ev.step (fun k => affidavitref01_Inv.l0.eq_2 ..) (Ev.iteT rfl (Ev.now _)), hx, h1⟩
  | succ n ih =>
    intro r s x y hs hr hsp hg hx hy h1 h2
    by_cases h : s = 0
    · subst h
      rw [Nat.gcd_zero_right] at hg
      subst hg
      exact ⟨x, Ev.step (fun k => affidavitref01_Inv.l0.eq_2 ..) (Ev.iteT rfl (Ev.now _)), hx, h1⟩
    · have hp2 := hp.2
      have hp1 := hp.1
      have hlt := Nat.mod_lt r (show 0 < s by omega)
      have hq := Nat.div_le_self r s
      have hdm := Nat.div_add_mod r s
      have g1 : Nat.gcd s (r % s) = 1 := by rw [← hg, Nat.gcd_comm s, ← Nat.gcd_rec, Nat.gcd_comm]
      have eq0 : (r : Int) / (s : Int) = ((r / s : Nat) : Int) := rfl
      obtain ⟨q, hqd⟩ : ∃ q, r / s = q := ⟨_, rfl⟩
      obtain ⟨t, htd⟩ : ∃ t, r % s = t := ⟨_, rfl⟩
      rw [hqd] at hq hdm eq0
      rw [htd] at hlt hdm g1
      obtain ⟨m, hm0⟩ : ∃ m, s * q = m := ⟨_, rfl⟩
      rw [hm0] at hdm
      have e0 : (q : Int) * (s : Int) = (m : Int) := by rw [← hm0, Int.natCast_mul, Int.mul_comm]
      have e1 : IntKind.u64.wrap (Int.tdiv (r : Int) (s : Int)) = (q : Int) := by
        rw [Int.tdiv_eq_ediv_of_nonneg (by omega), eq0]
        exact wu_in (by omega) (by omega)
      have e2 : IntKind.u64.wrap ((r : Int) - IntKind.u64.wrap ((q : Int) * (s : Int))) = (t : Int) := by
        rw [e0, wu_in (n := (m : Int)) (by omega) (by omega), wu_in (by omega) (by omega)]
        omega
      have e3 : Int.tmod (q : Int) (p : Int) = ((q % p : Nat) : Int) := by rw [Int.tmod_eq_emod_of_nonneg (by omega)]; rfl
      have hlq := Nat.mod_lt q (show 0 < p by omega)
      have hqf : (toF ((q % p : Nat) : Int) : Fin p) = toF (q : Int) := by
        have := toF_emod (p := p) (q : Int) (by omega)
        rw [← this]
        rfl
      obtain ⟨v, hv⟩ : ∃ v, q % p = v := ⟨_, rfl⟩
      rw [hv] at e3 hlq hqf
      have hqp : 0 ≤ (v : Int) ∧ (v : Int) < p := ⟨by omega, by omega⟩
      have hm := emod_range (p := p) ((v : Int) * y)
      have hz := emod_range (p := p) (x - (v : Int) * y % p)
      have c1 : c * toF ((x - (v : Int) * y % p) % p) = (toF (t : Int) : Fin p) := by
        have hrr : (toF (r : Int) : Fin p) = toF (q : Int) * toF (s : Int) + toF (t : Int) := by
          rw [← toF_mul' (by omega) (by omega), e0, ← toF_add' (by omega) (by omega)]
          congr 1
          omega
        rw [toF_sub hx.1 hm.1, toF_mul hqp.1 hy.1, hqf]
        have : c * (toF x - toF (q : Int) * toF y) = c * toF x - toF (q : Int) * (c * toF y) := by grind
        rw [this, h1, h2, hrr]
        grind
      obtain ⟨z, z1, z2, z3⟩ := ih s t y ((x - (v : Int) * y % p) % p) (by omega) hsp (by omega) g1 hy hz h2 c1
      refine ⟨z, Ev.step (fun k => affidavitref01_Inv.l0.eq_2 ..) (Ev.iteF (by omega) (Ev.iteF (by omega) ?_)), z2, z3⟩
      rw [e1, e3, e2]
      refine Ev.bind (a := (v : Int) * y % p) ⟨65, fun k hk => refMul hp hqp hy hk⟩ (Ev.bind (a := (x - (v : Int) * y % p) % p) (Ev.congr (f := fun _ => some _) (fun k => refSub hp hx hm) (Ev.now _)) ?_)
      exact z1
/-- The reference's inverse of what has one. -/
theorem evRefInv (hp : Md p) {a : Int} (ha : 0 ≤ a ∧ a < p) (hg : Nat.gcd p a.toNat = 1) : ∃ z, Ev (fun k => affidavitref01_Inv.f k p a) (z, 0) ∧ (0 ≤ z ∧ z < (p : Int)) ∧ toF a * toF z = (toF 1 : Fin p) := by
  obtain ⟨n, rfl⟩ : ∃ n : Nat, a = n := ⟨a.toNat, by omega⟩
  rw [Int.toNat_natCast] at hg
  have h0 : (toF 0 : Fin p) = 0 := rfl
  have hpp : (toF (p : Int) : Fin p) = 0 := by
    have := toF_emod (p := p) (p : Int) (by omega)
    rw [Int.emod_self] at this
    rw [← this]; rfl
  have h1p := hp.1
  obtain ⟨z, z1, z2, z3⟩ := refInv_l0 hp (toF (n : Int)) n p n 0 1 (Nat.le_refl _) (Nat.le_refl _) (by omega) hg ⟨by omega, by omega⟩ ⟨by omega, by omega⟩ (by rw [hpp, h0]; grind) (by
    have h1 : (toF 1 : Fin p) = 1 := by
      have h := toF_of_val (1 : Fin p)
      have e : ((1 : Fin p).val : Int) = 1 := by
        have h : (1 : Fin p).val = 1 % p := rfl
        rw [h, Nat.mod_eq_of_lt (by omega)]
        rfl
      rw [e] at h
      exact h
    rw [h1]; grind)
  refine ⟨z, Ev.congr (f := fun k => (affidavitref01_Gcd.l0 k (p : Int) (n : Int)).bind _) (fun k => rfl) (Ev.bind (evRefGcd n p n (Nat.le_refl _)) (Ev.iteT (by rw [hg]; rfl) z1)), z2, z3⟩
end
end Fp

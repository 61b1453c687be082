/- x less a number, as a polynomial; sums and products of numbers. No memory. -/
import Derived.Test.YtffcjgelcdilcaaPolyT
set_option linter.unusedVariables false
set_option linter.unusedSimpArgs false
set_option linter.unusedSectionVars false
namespace Go.Proofs.Ytffcjgelcdilcaa.Spec
open Go.RowKit Go.Proofs.Ytffcjgelcdilcaa.PAll Go.Proofs.YtffcjgelcdilcaaW.PrintWords Go.Proofs.YtffcjgelcdilcaaW.PrintLast Fp

section
variable {p : Nat} [NeZero p]
theorem val_range (a : Fin p) : 0 ≤ (a.val : Int) ∧ (a.val : Int) < p := ⟨by omega, by have := a.isLt; omega⟩
theorem val_add (a b : Fin p) : ((a.val : Int) + b.val) % p = ((a + b : Fin p).val : Int) := by
  have h := emod_range (p := p) ((a.val : Int) + b.val)
  rw [← toF_val h.1 h.2, toF_add (by omega) (by omega), toF_of_val, toF_of_val]
theorem val_mul (a b : Fin p) : ((a.val : Int) * b.val) % p = ((a * b : Fin p).val : Int) := by
  have h := emod_range (p := p) ((a.val : Int) * b.val)
  rw [← toF_val h.1 h.2, toF_mul (by omega) (by omega), toF_of_val, toF_of_val]
theorem one_ne (hp : Md p) : (1 : Fin p) ≠ 0 := fun h => by
  have h1 : (1 : Fin p).val = (0 : Fin p).val := by rw [h]
  have h2 : (1 : Fin p).val = 1 % p := rfl
  rw [h2, Nat.mod_eq_of_lt (by have := hp.1; omega)] at h1
  exact absurd h1 (by show ¬ (1 : Nat) = 0; omega)
theorem one_val (hp : Md p) : ((1 : Fin p).val : Int) = 1 := by
  have h2 : (1 : Fin p).val = 1 % p := rfl
  rw [h2, Nat.mod_eq_of_lt (by have := hp.1; omega)]
  rfl
/-- x less a number. -/
def lin (x : Fin p) : Pl p := Pl.C (-x) + Pl.T 1 1
theorem lin_at (x : Fin p) (i : Nat) : (lin x).co i = if i = 0 then -x else if i = 1 then 1 else 0 := by
  unfold lin
  rw [Pl.add_at, Pl.C_at, Pl.T_at]
  by_cases h : i = 0
  · subst h; simp
  · rw [if_neg h, if_neg h]; grind
theorem lin_sz (hp : Md p) (x : Fin p) : Pl.sz (lin x) = 2 := Pl.sz_eq (d := 1) (by rw [lin_at]; simpa using one_ne hp) (fun i hi => by rw [lin_at, if_neg (by omega), if_neg (by omega)])
theorem lin_top (hp : Md p) (x : Fin p) : Pl.top (lin x) = 1 := by
  unfold Pl.top
  rw [lin_sz hp, lin_at]
  simp
theorem lin_ev (x : Fin p) (y : Fin p) : Pl.ev (lin x) y = y - x := by
  unfold lin
  rw [Pl.ev_add, Pl.ev_C, Pl.ev_T1]
  grind
theorem lin_toL (hp : Md p) {x : Int} (hx : 0 ≤ x ∧ x < p) : toL (lin (toF x : Fin p)) = [(0 - x) % (p : Int), 1] := by
  have h := emod_range (p := p) (0 - x)
  have e : (((-(toF x) : Fin p)).val : Int) = (0 - x) % (p : Int) := by
    rw [← toF_val h.1 h.2, toF_sub (by omega) hx.1, toF_zero]
    congr 2
  refine ext_list (by rw [length_toL, lin_sz hp]; rfl) fun i hi => ?_
  rw [length_toL, lin_sz hp] at hi
  rw [toL_get, lin_at]
  have : i = 0 ∨ i = 1 := by omega
  rcases this with rfl | rfl
  · rw [if_pos rfl]; exact e
  · rw [if_neg (by omega), if_pos rfl]; exact one_val hp
theorem lin_ne (hp : Md p) (x : Fin p) : lin x ≠ 0 := fun h => by have := lin_sz hp x; rw [h, Pl.sz_zero] at this; omega
end

end Go.Proofs.Ytffcjgelcdilcaa.Spec

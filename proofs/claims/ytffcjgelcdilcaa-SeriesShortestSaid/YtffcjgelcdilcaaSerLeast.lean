/- The reference's Can and Least: whether there is a rule of a length, and the least length, over a prime. Over the printed functions alone; no memory. -/
import Derived.Test.YtffcjgelcdilcaaSerCan
import Derived.Test.YtffcjgelcdilcaaPSerx10
set_option linter.unusedVariables false
set_option linter.unusedSimpArgs false
set_option linter.unusedSectionVars false
namespace Fp
open Classical
open Go Go.RowKit Go.Proofs.Ytffcjgelcdilcaa.PSer Go.Proofs.YtffcjgelcdilcaaW.PrintWords Go.Proofs.YtffcjgelcdilcaaW.PrintLast Go.Proofs.YtffcjgelcdilcaaW.PrintMore Go.Proofs.Ytffcjgelcdilcaa.Spec Go.Proofs.Ytffcjgelcdilcaa.Cn
section
variable {p : Nat} [NeZero p]
/-- The equation at place i: the n numbers ahead of it, the last one first, and the number itself, turned. -/
def eqn (p : Nat) (s : List Int) (n i : Nat) : List Int := ((List.range n).map fun t => s.getD (i - (t + 1)) 0) ++ [(0 - s.getD i 0) % (p : Int)]
theorem eqn_length (s : List Int) (n i : Nat) : (eqn p s n i).length = n + 1 := by unfold eqn; rw [List.length_append, List.length_map, List.length_range, List.length_singleton]
theorem eqn_In {s : List Int} (hs : In p s) (n i : Nat) : In p (eqn p s n i) := by
  refine In.append (fun x hx => ?_) (In.cons (emod_range _) In.nil)
  obtain ⟨t, _, rfl⟩ := List.mem_map.1 hx
  exact hs.get _
theorem eqn_get (s : List Int) (n i j : Nat) (hj : j < n) : (eqn p s n i).getD j 0 = s.getD (i - (j + 1)) 0 := by
  unfold eqn
  rw [List.getD_eq_getElem?_getD, List.getElem?_append_left (by rw [List.length_map, List.length_range]; exact hj), ← List.getD_eq_getElem?_getD, getD_range_, if_pos hj]
theorem eqn_last (s : List Int) (n i : Nat) : (eqn p s n i).getD n 0 = (0 - s.getD i 0) % (p : Int) := by
  unfold eqn
  rw [List.getD_eq_getElem?_getD, List.getElem?_append_right (by rw [List.length_map, List.length_range]; exact Nat.le_refl _), List.length_map, List.length_range, Nat.sub_self]
  rfl
def eqns (p : Nat) (s : List Int) (n m : Nat) : List (List Int) := (List.range m).map fun t => eqn p s n (n + t)
theorem eqns_get (s : List Int) (n m t : Nat) (ht : t < m) : (eqns p s n m).getD t [] = eqn p s n (n + t) := by
  unfold eqns
  rw [List.getD_eq_getElem?_getD, List.getElem?_map, List.getElem?_range ht]
  rfl
theorem eqns_snoc (s : List Int) (n m : Nat) : eqns p s n m ++ [eqn p s n (n + m)] = eqns p s n (m + 1) := by unfold eqns; rw [List.range_succ, List.map_append]; rfl
theorem eqns_length (s : List Int) (n m : Nat) : (eqns p s n m).length = m := by unfold eqns; rw [List.length_map, List.length_range]
theorem eqns_RM {s : List Int} (hs : In p s) (n m : Nat) : RM p m n (eqns p s n m) :=
  ⟨eqns_length s n m, fun i hi => by rw [eqns_get s n m i hi]; exact ⟨eqn_In hs n _, eqn_length s n _⟩⟩
theorem can_l1 (hp : Md p) {s : List Int} (hs : In p s) (hsl : s.length < 1000) {n : Nat} (hn : n ≤ s.length) {i : Nat} (hin : n ≤ i) (hi : i < s.length) (rows : List (List Int)) (hr : rows.length < 1000) (r : Bool) (d : Nat) : ∀ t : Nat, t + d = n →
    Ev (fun K => affidavitref04_Can.l0 K p s (n : Int) (rows ++ [eqn p s n i]) ((i + 1 : Nat) : Int)) r → Ev (fun K => affidavitref04_Can.l1 K p s (n : Int) rows (i : Int) ((List.range t).map fun t => s.getD (i - (t + 1)) 0) ((t + 1 : Nat) : Int)) r := by
  induction d with
  | zero =>
    intro t ht h
    rw [Nat.add_zero] at ht
    subst ht
    have b1 : ¬ ((t + 1 : Nat) : Int) ≤ (t : Int) := by omega
    have b2 : (0 : Int) ≤ (i : Int) := by omega
    have b3 : (i : Int) < (s.length : Int) := by omega
    have b4 : ((List.range t).map fun t => s.getD (i - (t + 1)) 0).length < 17592186044416 := by rw [List.length_map, List.length_range]; omega
    have b5 : rows.length < 5864062014805 := by omega
    have h00 : (0 : Int) ≤ 0 ∧ (0 : Int) < p := ⟨by omega, by have := hp.1; omega⟩
    have e1 : wrap64 ((i : Int) + 1) = ((i + 1 : Nat) : Int) := by rw [w64_in (by omega) (by omega)]; omega
    refine Ev.step (fun K => affidavitref04_Can.l1.eq_2 ..) (Ev.iteF b1 (Ev.iteT b2 (Ev.iteT b3 ?_)))
    rw [rd_nat, e1]
    exact Ev.bind (a := (0 - s.getD i 0) % (p : Int)) (Ev.congr (f := fun _ => some _) (fun K => refSub hp h00 (hs.get i)) (Ev.now _)) (Ev.iteT b4 (Ev.iteT b5 h))
  | succ d ih =>
    intro t ht h
    have b1 : ((t + 1 : Nat) : Int) ≤ (n : Int) := by omega
    have b2 : (0 : Int) ≤ ((i - (t + 1) : Nat) : Int) := by omega
    have b3 : ((i - (t + 1) : Nat) : Int) < (s.length : Int) := by omega
    have b4 : ((List.range t).map fun t => s.getD (i - (t + 1)) 0).length < 17592186044416 := by rw [List.length_map, List.length_range]; omega
    have h5 := ih (t + 1) (by omega) h
    have e3 : ((List.range t).map fun t => s.getD (i - (t + 1)) 0) ++ [s.getD (i - (t + 1)) 0] = (List.range (t + 1)).map fun t => s.getD (i - (t + 1)) 0 := by rw [List.range_succ, List.map_append]; rfl
    have e12 : wrap64 ((i : Int) - ((t + 1 : Nat) : Int)) = ((i - (t + 1) : Nat) : Int) ∧ wrap64 (((t + 1 : Nat) : Int) + 1) = ((t + 1 + 1 : Nat) : Int) := ⟨by rw [w64_in (by omega) (by omega)]; omega, by rw [w64_in (by omega) (by omega)]; omega⟩
    refine Ev.step (fun K => affidavitref04_Can.l1.eq_2 ..) (Ev.iteT b1 ?_)
    rw [e12.1, e12.2, rd_nat]
    refine Ev.iteT b2 (Ev.iteT b3 (Ev.iteT b4 ?_))
    rw [e3]
    exact h5
theorem can_l0 (hp : Md p) {s : List Int} (hs : In p s) (hsl : s.length < 1000) {n : Nat} (hn : n ≤ s.length) (r : Bool) (h : Ev (fun K => affidavitref04_Can.l2 K p (n : Int) (eqns p s n (s.length - n)) ((0 : Nat) : Int) ((0 : Nat) : Int)) r) (d : Nat) : ∀ m : Nat, m + d = s.length - n →
    Ev (fun K => affidavitref04_Can.l0 K p s (n : Int) (eqns p s n m) ((n + m : Nat) : Int)) r := by
  induction d with
  | zero =>
    intro m hm
    rw [Nat.add_zero] at hm
    subst hm
    have b1 : ¬ ((n + (s.length - n) : Nat) : Int) < (s.length : Int) := by omega
    exact Ev.step (fun K => affidavitref04_Can.l0.eq_2 ..) (Ev.iteF b1 h)
  | succ d ih =>
    intro m hm
    have b1 : ((n + m : Nat) : Int) < (s.length : Int) := by omega
    have h5 := ih (m + 1) (by omega)
    rw [← eqns_snoc] at h5
    exact Ev.step (fun K => affidavitref04_Can.l0.eq_2 ..) (Ev.iteT b1 (can_l1 hp hs hsl hn (by omega) (by omega) (eqns p s n m) (by rw [eqns_length]; omega) r n 0 (by omega) h5))
/-- Is there a rule of a length, over a prime? -/
theorem evCan (hp : Md p) (hpr : Pr p) {s : List Int} (hs : In p s) (hsl : s.length < 1000) {n : Nat} (hn : n ≤ s.length) : Ev (fun K => Go.Proofs.Ytffcjgelcdilcaa.PSer.affidavitref04_Can.f K p s (n : Int)) (decide (∃ D, Pl.Rl (row s : Nat → Fin p) D n s.length)) := by
  have h2 := can_l2 hp hpr (m := s.length - n) (by omega) (by omega) n 0 0 (eqns p s n (s.length - n)) (by omega) (by omega) (by omega) (eqns_RM hs n _)
  have h0 := can_l0 hp hs hsl hn _ h2 (s.length - n) 0 (by omega)
  have e : (decide (∃ D, Pl.Rl (row s : Nat → Fin p) D n s.length)) = decide (Pl.Sol (mat (eqns p s n (s.length - n)) : Nat → Nat → Fin p) 0 (s.length - n) 0 n) := by
    rw [decide_eq_decide]
    refine (Pl.Sol.rule hn (fun i j hi hj => ?_) (fun i hi => ?_)).symm
    · unfold mat row
      rw [eqns_get s n _ i hi, eqn_get s n _ j hj]
    · unfold mat row
      rw [eqns_get s n _ i hi, eqn_last, toF_sub (Int.le_refl 0) (hs.get _).1]
      rfl
  rw [e]
  exact h0
theorem least_l0 (hp : Md p) (hpr : Pr p) {s : List Int} (hs : In p s) (hsl : s.length < 1000) {L : Nat} (hL : L ≤ s.length) {C : Nat → Fin p} (h1 : Pl.Rl (row s : Nat → Fin p) C L s.length) (h2 : Pl.Lst (row s : Nat → Fin p) L s.length) (d : Nat) : ∀ i : Nat, i + d = L → Ev (fun K => affidavitref04_Least.l0 K p s (i : Int)) (L : Int) := by
  induction d with
  | zero =>
    intro i hi
    rw [Nat.add_zero] at hi
    subst hi
    have hc := evCan hp hpr hs hsl hL
    rw [decide_eq_true ⟨C, h1⟩] at hc
    exact Ev.step (fun K => affidavitref04_Least.l0.eq_2 ..) (Ev.bind hc (Ev.iteT rfl (Ev.now _)))
  | succ d ih =>
    intro i hi
    have hc := evCan hp hpr hs hsl (n := i) (by omega)
    rw [decide_eq_false (fun h => by obtain ⟨D, hD⟩ := h; have := h2 D i hD; omega)] at hc
    have h5 := ih (i + 1) (by omega)
    have e1 : wrap64 ((i : Int) + 1) = ((i + 1 : Nat) : Int) := by rw [w64_in (by omega) (by omega)]; omega
    refine Ev.step (fun K => affidavitref04_Least.l0.eq_2 ..) (Ev.bind hc (Ev.iteF (by decide) ?_))
    rw [e1]
    exact h5
/-- The least length of a rule, over a prime. -/
theorem evLeast (hp : Md p) (hpr : Pr p) {s : List Int} (hs : In p s) (hsl : s.length < 1000) {L : Nat} (hL : L ≤ s.length) {C : Nat → Fin p} (h1 : Pl.Rl (row s : Nat → Fin p) C L s.length) (h2 : Pl.Lst (row s : Nat → Fin p) L s.length) : Ev (fun K => affidavitref04_Least.f K p s) (L : Int) :=
  least_l0 hp hpr hs hsl hL h1 h2 L 0 (by omega)
theorem obeysB_true {s c : List Int} {i : Nat} (h : ∀ j, i ≤ j → j < s.length → (cv (row c) (row s) j : Fin p) = 0) : obeysB p s c i = true := by
  unfold obeysB
  exact decide_eq_true h
end
end Fp

/- What the printed texts of series tell, of what is in range: sums, whether a row obeys, how it goes on, and Massey's row of rules. Over the printed functions alone; no memory. -/
import Derived.Test.YtffcjgelcdilcaaBm
import Derived.Test.YtffcjgelcdilcaaPolyT
import Derived.Test.YtffcjgelcdilcaaSmall
import Derived.Test.YtffcjgelcdilcaaPSerx3
import Derived.Test.YtffcjgelcdilcaaPSerx5
import Derived.Test.YtffcjgelcdilcaaPSerx1
import Derived.Test.YtffcjgelcdilcaaPSerx4
set_option linter.unusedVariables false
set_option linter.unusedSimpArgs false
set_option linter.unusedSectionVars false
namespace Fp
open Classical
open Go.RowKit Go.Proofs.Ytffcjgelcdilcaa.PSer Go.Proofs.YtffcjgelcdilcaaW.PrintWords Go.Proofs.YtffcjgelcdilcaaW.PrintLast Go.Proofs.YtffcjgelcdilcaaW.PrintMore Go.Proofs.Ytffcjgelcdilcaa.Spec
section
variable {p : Nat} [NeZero p]

/-- A list as a row. -/
def row (l : List Int) (i : Nat) : Fin p := toF (l.getD i 0)
theorem row_beyond {l : List Int} {i : Nat} (h : l.length ≤ i) : (row l i : Fin p) = 0 := toP_beyond l h
/-- The sum's beginning. -/
def sbeg (c s : List Int) (n at_ : Nat) : Fin p := sm n (fun i => row c i * row s (at_ - i))
theorem sum_l0 (hp : Md p) {c s : List Int} (hc : In p c) (hs : In p s) {at_ : Nat} (hat : at_ < s.length) (hsl : s.length < 1000000) (hcl : c.length < 1000000) (d : Nat) :
    ∀ i : Nat, i + d = min c.length (at_ + 1) → Ev (fun k => series_sum.l0 k p s c (at_ : Int) ((sbeg c s i at_ : Fin p).val : Int) (i : Int)) ((sbeg c s (min c.length (at_ + 1)) at_ : Fin p).val : Int) := by
  induction d with
  | zero =>
    intro i hi
    rw [Nat.add_zero] at hi
    refine Ev.step (fun k => series_sum.l0.eq_2 ..) ?_
    by_cases h1 : i < c.length
    · refine Ev.iteT (by omega) ?_
      rw [decide_eq_false (by omega)]
      refine Ev.step (fun k => series_sum.j1.eq_2 ..) (Ev.iteF (by simp) ?_)
      rw [← hi]
      exact Ev.now _
    · refine Ev.iteF (by omega) (Ev.step (fun k => series_sum.j1.eq_2 ..) (Ev.iteF (by simp) ?_))
      rw [← hi]
      exact Ev.now _
  | succ d ih =>
    intro i hi
    refine Ev.step (fun k => series_sum.l0.eq_2 ..) (Ev.iteT (by omega) ?_)
    rw [decide_eq_true (by omega)]
    have e1 : wrap64 ((at_ : Int) - i) = ((at_ - i : Nat) : Int) := by rw [w64_in (by omega) (by omega)]; omega
    have e2 : wrap64 ((i : Int) + 1) = ((i + 1 : Nat) : Int) := by rw [w64_in (by omega) (by omega)]; omega
    refine Ev.step (fun k => series_sum.j1.eq_2 ..) (Ev.iteT rfl (Ev.iteT (by omega) (Ev.iteT (by omega) ?_)))
    rw [e1, e2]
    refine Ev.iteT (by omega) (Ev.iteT (by omega) ?_)
    rw [rd_nat, rd_nat]
    have h1 := hc.get i
    have h2 := hs.get (at_ - i)
    refine Ev.bind (a := (c.getD i 0 * s.getD (at_ - i) 0 % p, 0)) ⟨13, fun k hk => mul_spec hp.1 hp.2 h1.1 h1.2 h2.1 h2.2 hk⟩ ?_
    have hv : 0 ≤ ((sbeg c s i at_ : Fin p).val : Int) ∧ ((sbeg c s i at_ : Fin p).val : Int) < p := ⟨by omega, by have := (sbeg c s i at_ : Fin p).isLt; omega⟩
    have hm := emod_range (p := p) (c.getD i 0 * s.getD (at_ - i) 0)
    refine Ev.bind (a := ((((sbeg c s i at_ : Fin p).val : Int) + c.getD i 0 * s.getD (at_ - i) 0 % p) % p, 0)) ⟨13, fun k hk => add_spec hp.1 hp.2 hv.1 hv.2 hm.1 hm.2 hk⟩ ?_
    have e3 : (((sbeg c s i at_ : Fin p).val : Int) + c.getD i 0 * s.getD (at_ - i) 0 % p) % p = ((sbeg c s (i + 1) at_ : Fin p).val : Int) := by
      refine toF_inj (p := p) (emod_range _) ⟨by omega, by have := (sbeg c s (i + 1) at_ : Fin p).isLt; omega⟩ ?_
      rw [toF_add hv.1 hm.1, toF_of_val, toF_mul h1.1 h2.1, toF_of_val]
      unfold sbeg
      rw [sm_succ]
      rfl
    show Ev (fun k => series_sum.l0 k p s c at_ ((((sbeg c s i at_ : Fin p).val : Int) + c.getD i 0 * s.getD (at_ - i) 0 % p) % p) _) _
    rw [e3]
    exact ih (i + 1) (by omega)
theorem sbeg_all (c s : List Int) (at_ : Nat) : (sbeg c s (min c.length (at_ + 1)) at_ : Fin p) = cv (row c) (row s) at_ := by
  unfold sbeg cv
  exact (sm_more (by omega) (fun i h1 h2 => by rw [row_beyond (l := c) (by omega)]; grind)).symm
/-- A rule's sum at a place. -/
theorem evSum (hp : Md p) {c s : List Int} (hc : In p c) (hs : In p s) {at_ : Nat} (hat : at_ < s.length) (hsl : s.length < 1000000) (hcl : c.length < 1000000) :
    Ev (fun k => series_sum.f k p s c (at_ : Int)) ((cv (row c) (row s) at_ : Fin p).val : Int) := by
  rw [← sbeg_all]
  have h := sum_l0 hp hc hs hat hsl hcl (min c.length (at_ + 1)) 0 (by omega)
  rw [show ((sbeg c s 0 at_ : Fin p).val : Int) = 0 from rfl] at h
  exact h

/-! ### Is a list a rule, and a row in range? -/
def ruleB (p : Int) (c : List Int) : Bool := decide (1 ≤ c.length) && decide (c.length ≤ 257) && hasB p c && decide (c.getD 0 0 = 1)
theorem evRule_ (p : Int) (c : List Int) : Ev (fun k => series_Right.f k p c) (ruleB p c) := by
  unfold ruleB
  by_cases h1 : 1 ≤ c.length
  · by_cases h2 : c.length ≤ 257
    · rw [decide_eq_true h1, decide_eq_true h2]
      refine Ev.congr (f := fun k => (field_Has.f k p c).bind _) (fun k => by unfold series_Right.f; rw [if_pos (by omega), if_pos (by omega)]) (Ev.bind ⟨c.length + 1, fun k hk => has_spec (by omega) (by omega)⟩ ?_)
      cases h3 : hasB p c with
      | false => exact Ev.now _
      | true =>
        refine Ev.iteT rfl (Ev.iteT (by omega) ?_)
        rw [show rd c 0 = c.getD 0 0 from rd_nat c 0]
        simp only [Bool.true_and]
        rw [show (c.getD 0 0 == 1) = decide (c.getD 0 0 = 1) from rfl]
        exact Ev.now _
    · rw [decide_eq_false h2]
      exact Ev.congr (fun k => by unfold series_Right.f; rw [if_pos (by omega), if_neg (by omega)]) (by rw [Bool.and_false, Bool.false_and, Bool.false_and]; exact Ev.now _)
  · rw [decide_eq_false h1]
    exact Ev.congr (fun k => by unfold series_Right.f; rw [if_neg (by omega)]) (by rw [Bool.false_and, Bool.false_and, Bool.false_and]; exact Ev.now _)
/-! ### A rule less a shifted one, times x -/
theorem row_set {l : List Int} {i : Nat} (h : i < l.length) (v : Int) (j : Nat) : (row (l.set i v) j : Fin p) = if j = i then toF v else row l j := by
  unfold row
  by_cases e : j = i
  · subst e
    rw [if_pos rfl, List.getD_eq_getElem?_getD, List.getElem?_set_self h]; rfl
  · rw [if_neg e, List.getD_eq_getElem?_getD, List.getElem?_set_ne (by omega), ← List.getD_eq_getElem?_getD]
theorem row_pad (l : List Int) (n : Nat) (j : Nat) : (row (l ++ List.replicate n 0) j : Fin p) = row l j := by
  unfold row
  by_cases h : j < l.length
  · rw [List.getD_eq_getElem?_getD, List.getElem?_append_left h, ← List.getD_eq_getElem?_getD]
  · rw [List.getD_eq_getElem?_getD, List.getElem?_append_right (by omega), List.getElem?_replicate, List.getD_eq_getElem?_getD, List.getElem?_eq_none (l := l) (by omega)]
    split <;> rfl
theorem In.append {l m : List Int} (h : In p l) (k : In p m) : In p (l ++ m) := fun x hx => by
  rcases List.mem_append.1 hx with h' | h'
  · exact h x h'
  · exact k x h'
theorem In.cons {x : Int} {l : List Int} (h : 0 ≤ x ∧ x < p) (k : In p l) : In p (x :: l) := fun y hy => by
  rcases List.mem_cons.1 hy with h' | h'
  · rw [h']; exact h
  · exact k y h'
theorem less_l1 (hp : Md p) {b : List Int} (hb : In p b) {x : Int} (hx : 0 ≤ x ∧ x < p) {on : Nat} (hon : on < 1000000) (hbl : b.length < 1000000) (d : Nat) :
    ∀ (i : Nat) (o : List Int), i + d = b.length → In p o → b.length + on ≤ o.length → ∃ g, Ev (fun k => series_less.l1 k p x (on : Int) o b (b.length : Int) (i : Int)) g ∧ In p g ∧ g.length = o.length ∧
      ∀ j, (row g j : Fin p) = row o j - if on + i ≤ j then toF x * row b (j - on) else 0 := by
  induction d with
  | zero =>
    intro i o hi ho hl
    refine ⟨o, Ev.step (fun k => series_less.l1.eq_2 ..) (Ev.iteF (by omega) (Ev.now _)), ho, rfl, fun j => ?_⟩
    split
    · rw [row_beyond (l := b) (by omega)]; grind
    · grind
  | succ d ih =>
    intro i o hi ho hl
    have e1 : wrap64 ((i : Int) + (on : Int)) = ((i + on : Nat) : Int) := by rw [w64_in (by omega) (by omega)]; omega
    have e2 : wrap64 ((i : Int) + 1) = ((i + 1 : Nat) : Int) := by rw [w64_in (by omega) (by omega)]; omega
    have h1 := hb.get i
    have h2 := ho.get (i + on)
    have hm := emod_range (p := p) (x * b.getD i 0)
    have hs := emod_range (p := p) (o.getD (i + on) 0 - x * b.getD i 0 % p)
    obtain ⟨g, g1, g2, g3, g4⟩ := ih (i + 1) (o.set (i + on) ((o.getD (i + on) 0 - x * b.getD i 0 % p) % p)) (by omega) (ho.set _ hs) (by rw [List.length_set]; exact hl)
    refine ⟨g, Ev.step (fun k => series_less.l1.eq_2 ..) (Ev.iteT (by omega) (Ev.iteT (by omega) (Ev.iteT (by omega) ?_))), g2, by rw [g3, List.length_set], fun j => ?_⟩
    · rw [rd_nat]
      refine Ev.bind (a := (x * b.getD i 0 % p, 0)) ⟨13, fun k hk => mul_spec hp.1 hp.2 hx.1 hx.2 h1.1 h1.2 hk⟩ ?_
      rw [e1, e2]
      refine Ev.iteT (by omega) (Ev.iteT (by omega) ?_)
      rw [rd_nat, Int.toNat_natCast]
      refine Ev.bind (a := ((o.getD (i + on) 0 - x * b.getD i 0 % p) % p, 0)) ⟨13, fun k hk => sub_spec hp.1 hp.2 h2.1 h2.2 hm.1 hm.2 hk⟩ ?_
      exact g1
    · rw [g4, row_set (by omega)]
      by_cases e : j = i + on
      · rw [if_pos e, if_neg (by omega), if_pos (by omega), toF_sub h2.1 hm.1, toF_mul hx.1 h1.1]
        subst e
        unfold row
        rw [Nat.add_sub_cancel]
        grind
      · rw [if_neg e]
        by_cases e' : on + i ≤ j
        · rw [if_pos (by omega), if_pos (by omega)]
        · rw [if_neg (by omega), if_neg (by omega)]
theorem less_l0 (hp : Md p) {b : List Int} (hb : In p b) {x : Int} (hx : 0 ≤ x ∧ x < p) {on : Nat} (hon : on < 1000000) (hbl : b.length < 1000000) (d : Nat) :
    ∀ (o : List Int), d = b.length + on - o.length → o.length < 3000000 → In p o → ∃ g, Ev (fun k => series_less.l0 k p b x (on : Int) o) g ∧ In p g ∧ g.length = max o.length (b.length + on) ∧
      ∀ j, (row g j : Fin p) = row o j - if on ≤ j then toF x * row b (j - on) else 0 := by
  have e1 : wrap64 ((b.length : Int) + (on : Int)) = ((b.length + on : Nat) : Int) := by rw [w64_in (by omega) (by omega)]; omega
  induction d with
  | zero =>
    intro o hd ho hi
    obtain ⟨g, g1, g2, g3, g4⟩ := less_l1 hp hb hx hon hbl b.length 0 o (by omega) hi (by omega)
    refine ⟨g, Ev.step (fun k => series_less.l0.eq_2 ..) (Ev.iteF (by rw [e1]; omega) g1), g2, by omega, g4⟩
  | succ d ih =>
    intro o hd ho hi
    obtain ⟨g, g1, g2, g3, g4⟩ := ih (o ++ [0]) (by rw [List.length_append, List.length_singleton]; omega) (by rw [List.length_append, List.length_singleton]; omega) (hi.append (In.cons ⟨by omega, by have := hp.1; omega⟩ In.nil))
    refine ⟨g, Ev.step (fun k => series_less.l0.eq_2 ..) (Ev.iteT (by rw [e1]; omega) (Ev.iteT (by omega) g1)), g2, by rw [g3, List.length_append, List.length_singleton]; omega, fun j => ?_⟩
    rw [g4, show (o ++ [0] : List Int) = o ++ List.replicate 1 0 from rfl, row_pad]
theorem evLess (hp : Md p) {c b : List Int} (hc : In p c) (hb : In p b) {x : Int} (hx : 0 ≤ x ∧ x < p) {on : Nat} (hon : on < 1000000) (hcl : c.length < 1000000) (hbl : b.length < 1000000) :
    ∃ g, Ev (fun k => series_less.f k p c b x (on : Int)) g ∧ In p g ∧ g.length = max c.length (b.length + on) ∧ ∀ j, (row g j : Fin p) = Pl.nx (row c) (row b) (toF x) on j := by
  obtain ⟨g, g1, g2, g3, g4⟩ := less_l0 hp hb hx hon hbl _ c rfl (by omega) hc
  exact ⟨g, Ev.congr (f := fun k => (some c).bind fun t => series_less.l0 k p b x (on : Int) t) (fun k => by unfold series_less.f; rw [evClone (by omega)]) (Ev.bind (Ev.now _) g1), g2, g3, g4⟩
end
end Fp

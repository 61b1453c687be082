/- series.Rule, as the laws call it, and their fixed answer. -/
import Derived.Test.YtffcjgelcdilcaaSerOn
import Derived.Test.YtffcjgelcdilcaaPrime
import Derived.Test.YtffcjgelcdilcaaPSerx6
import Derived.Test.YtffcjgelcdilcaaPSerx7
set_option linter.unusedVariables false
set_option linter.unusedSimpArgs false
set_option linter.unusedSectionVars false
namespace Fp
open Classical
open Go.RowKit Go.Proofs.Ytffcjgelcdilcaa.PSer Go.Proofs.YtffcjgelcdilcaaW.PrintWords Go.Proofs.YtffcjgelcdilcaaW.PrintLast Go.Proofs.YtffcjgelcdilcaaW.PrintMore Go.Proofs.Ytffcjgelcdilcaa.Spec Go.Proofs.Ytffcjgelcdilcaa.Sr
theorem getD_set_ (l : List Int) (i j : Nat) (v : Int) (h : i < l.length) : (l.set i v).getD j 0 = if j = i then v else l.getD j 0 := by
  by_cases e : j = i
  · subst e
    rw [if_pos rfl, List.getD_eq_getElem?_getD, List.getElem?_set_self h]; rfl
  · rw [if_neg e, List.getD_eq_getElem?_getD, List.getElem?_set_ne (by omega), ← List.getD_eq_getElem?_getD]
theorem getD_range_ (n k : Nat) (f : Nat → Int) : ((List.range n).map f).getD k 0 = if k < n then f k else 0 := by
  rw [List.getD_eq_getElem?_getD, List.getElem?_map]
  by_cases h : k < n
  · rw [List.getElem?_range h, if_pos h]; rfl
  · rw [List.getElem?_eq_none (by rw [List.length_range]; omega), if_neg h]; rfl
theorem getD_reverse_ (l : List Int) (k : Nat) (h : k < l.length) : l.reverse.getD k 0 = l.getD (l.length - 1 - k) 0 := by
  rw [List.getD_eq_getElem?_getD, List.getElem?_reverse h, ← List.getD_eq_getElem?_getD]
section
variable {p : Nat} [NeZero p]
/-- Over a prime: the shortest rule. -/
theorem evR (hp : Md p) (hf : Pl.Fld p) {s : List Int} (hs : In p s) (hsl : s.length ≤ 256) : ∃ z L, Ev (fun k => series_Rule.f k p s) (z, 0) ∧ z.length = L + 1 ∧ L ≤ s.length ∧ IsRule p z ∧ Pl.Rl (row s : Nat → Fin p) (row z) L s.length ∧ Pl.Lst (row s : Nat → Fin p) L s.length := by
  obtain ⟨z, L, h1, h2, h3, h4, h5, h6⟩ := evRuleP hp hf hs hsl
  exact ⟨z, L, h1, h2, h3, rl_is hp h2 (by omega) h4 h5, h5, h6⟩
theorem row_zeros (n i : Nat) : (row (List.replicate n 0) i : Fin p) = 0 := by
  have h := row_pad (p := p) [] n i
  rw [List.nil_append] at h
  rw [h]
  exact row_beyond (Nat.zero_le _)
theorem In.map {l : List Int} {f : Int → Int} (h : ∀ x ∈ l, 0 ≤ f x ∧ f x < p) : In p (l.map f) := fun x hx => by
  obtain ⟨y, hy, rfl⟩ := List.mem_map.1 hx
  exact h y hy
/-- Two rows that go on by one rule from the same beginning. -/
theorem go_unique {S T D : Nat → Fin p} {n N : Nat} (h1 : D 0 = 1) (hS : ∀ j, n ≤ j → j < N → cv D S j = 0) (hT : ∀ j, n ≤ j → j < N → cv D T j = 0) (h : ∀ i, i < n → S i = T i) : ∀ i, i < N → S i = T i := by
  intro j
  induction j using Nat.strongRecOn with
  | _ j ih =>
    intro hj
    by_cases hn : j < n
    · exact h j hn
    · have e1 := hS j (by omega) hj
      have e2 := hT j (by omega) hj
      unfold cv at e1 e2
      rw [sm_first, Nat.sub_zero, h1] at e1
      rw [sm_first, Nat.sub_zero, h1, ← sm_congr (f := fun i => D (i + 1) * S (j - (i + 1))) (fun i hi => by rw [ih (j - (i + 1)) (by omega) (by omega)])] at e2
      grind
theorem rows_eq {l m : List Int} (hl : In p l) (hm : In p m) (h : l.length = m.length) (h2 : ∀ i, i < l.length → (row l i : Fin p) = row m i) : l = m :=
  ext_list h fun i hi => toF_inj (p := p) (hl.get i) (hm.get i) (h2 i hi)
/-- What is put on in two parts is put on as one. -/
theorem Goes.both {s c x y z : List Int} {m n : Nat} (hp : Md p) (hc : IsRule p c) (hx : Goes p s c x (m + n)) (hy : Goes p s c y m) (hz : Goes p y c z n) : x = z := by
  have l1 := hx.len
  have l2 := hy.len
  have l3 := hz.len
  refine rows_eq hx.inr hz.inr (by omega) ?_
  have zy : ∀ i, i < y.length → (row z i : Fin p) = row y i := fun i hi => hz.row_eq hi
  refine go_unique (D := row c) (n := s.length) (N := x.length) (hc.row0 hp) hx.nul (fun j h1 h2 => ?_) (fun i hi => ?_)
  · by_cases e : j < y.length
    · rw [← hy.nul j h1 e]
      exact cv_same fun i hi => zy i (by omega)
    · exact hz.nul j (by omega) (by omega)
  · rw [hx.row_eq hi, zy i (by omega), hy.row_eq hi]
end
end Fp
namespace Go.Proofs.Ytffcjgelcdilcaa.Spec
open Go.RowKit Go.Proofs.Ytffcjgelcdilcaa.PSer Go.Proofs.YtffcjgelcdilcaaW.PrintWords Go.Proofs.YtffcjgelcdilcaaW.PrintLast Go.Proofs.YtffcjgelcdilcaaW.PrintMore
theorem awake_now : affidavitlaw04_awake.f 40 = some true := by decide +kernel
theorem evAwake : Ev (fun k => affidavitlaw04_awake.f k) true := Ev.of affidavitlaw04_awake.mono awake_now
end Go.Proofs.Ytffcjgelcdilcaa.Spec

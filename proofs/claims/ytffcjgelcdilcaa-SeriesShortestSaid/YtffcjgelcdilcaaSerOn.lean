/- series.On and Obeys: how a row goes on by a rule, and whether it obeys. Over the printed functions alone; no memory. -/
import Derived.Test.YtffcjgelcdilcaaSerRule
set_option linter.unusedVariables false
set_option linter.unusedSimpArgs false
set_option linter.unusedSectionVars false
namespace Fp
open Classical
open Go.RowKit Go.Proofs.Ytffcjgelcdilcaa.PSer Go.Proofs.YtffcjgelcdilcaaW.PrintWords Go.Proofs.YtffcjgelcdilcaaW.PrintLast Go.Proofs.YtffcjgelcdilcaaW.PrintMore Go.Proofs.Ytffcjgelcdilcaa.Spec Go.Proofs.Ytffcjgelcdilcaa.Sr
section
variable {p : Nat} [NeZero p]

/-- A list that is a rule. -/
structure IsRule (p : Nat) [NeZero p] (c : List Int) : Prop where
  pos : 1 ≤ c.length
  most : c.length ≤ 257
  inr : In p c
  one : c.getD 0 0 = 1
theorem rule_is (hp : Md p) {c : List Int} (h : ruleB p c = true) (h0 : ∀ x ∈ c, 0 ≤ x) : IsRule p c := by
  unfold ruleB at h
  simp only [Bool.and_eq_true, decide_eq_true_eq] at h
  obtain ⟨⟨⟨h1, h2⟩, h3⟩, h4⟩ := h
  unfold hasB at h3
  rw [Bool.and_eq_true, List.all_eq_true] at h3
  exact ⟨h1, h2, fun x hx => ⟨h0 x hx, of_decide_eq_true (h3.1 x hx)⟩, h4⟩
theorem is_rule (hp : Md p) {c : List Int} (h : IsRule p c) : ruleB p c = true := by
  unfold ruleB
  rw [decide_eq_true h.pos, decide_eq_true h.most, in_has hp h.inr, decide_eq_true h.one]
  rfl
theorem evRight1 (hp : Md p) {c : List Int} (h : IsRule p c) : Ev (fun k => series_Right.f k p c) true := by
  have e := evRule_ (p : Int) c
  rwa [is_rule hp h] at e
theorem IsRule.row0 (hp : Md p) {c : List Int} (h : IsRule p c) : (row c 0 : Fin p) = 1 := by
  unfold row
  rw [h.one, toF_one hp]
/-- As a rule of a row's beginning. -/
theorem IsRule.rl (hp : Md p) {c : List Int} (h : IsRule p c) {s : List Int} {N : Nat} (hn : ∀ j, c.length - 1 ≤ j → j < N → (cv (row c) (row s) j : Fin p) = 0) : Pl.Rl (row s : Nat → Fin p) (row c) (c.length - 1) N :=
  ⟨h.row0 hp, fun i hi => row_beyond (by have := h.pos; omega), hn⟩
theorem rl_is (hp : Md p) {c s : List Int} {L N : Nat} (hl : c.length = L + 1) (hL : L ≤ 256) (hc : In p c) (h : Pl.Rl (row s : Nat → Fin p) (row c) L N) : IsRule p c := by
  refine ⟨by omega, by omega, hc, ?_⟩
  have h1 := h.one
  rw [← toF_one hp] at h1
  exact toF_inj (p := p) (hc.get 0) ⟨by omega, by have := hp.1; omega⟩ h1

/-! ### Does a row obey? -/
theorem val_zero_iff {a : Fin p} : ((a.val : Nat) : Int) = 0 ↔ a = 0 := ⟨fun h => by
  have e := toF_of_val a
  rw [h] at e
  exact e.symm, fun h => by rw [h]; rfl⟩
noncomputable def obeysB (p : Nat) [NeZero p] (s c : List Int) (i : Nat) : Bool := decide (∀ j, i ≤ j → j < s.length → (cv (row c) (row s) j : Fin p) = 0)
theorem obeys_l0 (hp : Md p) {s c : List Int} (hs : In p s) (hc : In p c) (hsl : s.length < 100000) (hcl : c.length < 100000) (d : Nat) : ∀ i : Nat, d = s.length - i → i < 100000 → Ev (fun k => series_Obeys.l0 k p s c (i : Int)) (obeysB p s c i) := by
  induction d with
  | zero =>
    intro i hd hi
    refine Ev.step (fun k => series_Obeys.l0.eq_2 ..) (Ev.iteF (by omega) ?_)
    unfold obeysB
    rw [decide_eq_true (fun j h1 h2 => absurd h2 (by omega))]
    exact Ev.now _
  | succ d ih =>
    intro i hd hi
    have e3 : wrap64 ((i : Int) + 1) = ((i + 1 : Nat) : Int) := by rw [w64_in (by omega) (by omega)]; omega
    refine Ev.step (fun k => series_Obeys.l0.eq_2 ..) (Ev.iteT (by omega) (Ev.bind (evSum hp hc hs (by omega) (by omega) (by omega)) ?_))
    by_cases h : (cv (row c) (row s) i : Fin p) = 0
    · refine Ev.iteT (val_zero_iff.2 h) ?_
      have e : obeysB p s c i = obeysB p s c (i + 1) := by
        unfold obeysB
        by_cases h2 : ∀ j, i + 1 ≤ j → j < s.length → (cv (row c) (row s) j : Fin p) = 0
        · rw [decide_eq_true h2, decide_eq_true (fun j h3 h4 => by
            by_cases e : j = i
            · rw [e]; exact h
            · exact h2 j (by omega) h4)]
        · rw [decide_eq_false h2, decide_eq_false (fun h3 => h2 fun j h4 h5 => h3 j (by omega) h5)]
      rw [e, e3]
      exact ih (i + 1) (by omega) (by omega)
    · refine Ev.iteF (fun e => h (val_zero_iff.1 e)) ?_
      unfold obeysB
      rw [decide_eq_false (fun h2 => h (h2 i (Nat.le_refl _) (by omega)))]
      exact Ev.now _
/-- series.Obeys of a rule and a row in range. -/
theorem evObeys (hp : Md p) {s c : List Int} (hs : In p s) (hc : IsRule p c) (hsl : s.length < 100000) : Ev (fun k => series_Obeys.f k p s c) (obeysB p s c (c.length - 1)) := by
  have hh := evHas (p : Int) (l := s) (by omega)
  rw [in_has hp hs] at hh
  have h1 := hc.pos
  have h2 := hc.most
  have e : wrap64 ((c.length : Int) - 1) = ((c.length - 1 : Nat) : Int) := by rw [w64_in (by omega) (by omega)]; omega
  refine Ev.congr (f := fun k => (series_Right.f k p c).bind _) (fun k => rfl) (Ev.bind (evRight1 hp hc) (Ev.iteT rfl (Ev.bind hh (Ev.step (fun k => series_Obeys.j0.eq_2 ..) (Ev.iteF (by simp) ?_)))))
  rw [e]
  exact obeys_l0 hp hs hc.inr hsl (by omega) _ _ rfl (by omega)
theorem evObeysT (hp : Md p) {s c : List Int} (hs : In p s) (hc : IsRule p c) (hsl : s.length < 100000) (h : Pl.Rl (row s : Nat → Fin p) (row c) (c.length - 1) s.length) : Ev (fun k => series_Obeys.f k p s c) true := by
  have e := evObeys hp hs hc hsl
  unfold obeysB at e
  rwa [decide_eq_true h.nul] at e

/-! ### A row goes on -/
theorem row_append_left {s t : List Int} {i : Nat} (h : i < s.length) : (row (s ++ t) i : Fin p) = row s i := by
  unfold row
  rw [List.getD_eq_getElem?_getD, List.getElem?_append_left h, ← List.getD_eq_getElem?_getD]
theorem cv_same {c s t : List Int} {j : Nat} (h : ∀ i, i ≤ j → (row s i : Fin p) = row t i) : (cv (row c) (row s) j : Fin p) = cv (row c) (row t) j := Pl.cv_congr (fun _ _ => rfl) h
/-- What going on by a rule makes. -/
structure Goes (p : Nat) [NeZero p] (s c l : List Int) (m : Nat) : Prop where
  len : l.length = s.length + m
  inr : In p l
  beg : l.take s.length = s
  nul : ∀ j, s.length ≤ j → j < l.length → (cv (row c) (row l) j : Fin p) = 0
theorem Goes.here {s c : List Int} (hs : In p s) : Goes p s c s 0 := ⟨rfl, hs, List.take_length, fun j h1 h2 => absurd h2 (by omega)⟩
theorem Goes.row_eq {s c l : List Int} {m : Nat} (h : Goes p s c l m) {i : Nat} (hi : i < s.length) : (row l i : Fin p) = row s i := by
  have e := row_take (p := p) l s.length i
  rw [h.beg, if_pos hi] at e
  exact e.symm
/-- One number more. -/
theorem on_step (hp : Md p) {s c : List Int} (hs : In p s) (hc : IsRule p c) (hsl : s.length < 99999) : ∃ v, (0 ≤ v ∧ v < (p : Int)) ∧ Ev (fun k => series_sum.f k p (s ++ [0]) c ((s.length : Nat) : Int)) ((cv (row c) (row (s ++ [0])) s.length : Fin p).val : Int) ∧
    Ev (fun k => field_Sub.f k p 0 ((cv (row c) (row (s ++ [0])) s.length : Fin p).val : Int)) (v, 0) ∧ (cv (row c) (row (s ++ [v])) s.length : Fin p) = 0 := by
  have h2 := hc.most
  have hr : 0 ≤ ((cv (row c) (row (s ++ [0])) s.length : Fin p).val : Int) ∧ ((cv (row c) (row (s ++ [0])) s.length : Fin p).val : Int) < p := ⟨by omega, by have := (cv (row c) (row (s ++ [0])) s.length : Fin p).isLt; omega⟩
  have h00 : (0 : Int) ≤ 0 ∧ (0 : Int) < p := ⟨by omega, by have := hp.1; omega⟩
  have hs0 : In p (s ++ [0]) := hs.append (In.cons h00 In.nil)
  refine ⟨(0 - ((cv (row c) (row (s ++ [0])) s.length : Fin p).val : Int)) % p, emod_range _, evSum hp hc.inr hs0 (by simp) (by simp; omega) (by omega), ⟨13, fun k hk => sub_spec hp.1 hp.2 h00.1 h00.2 hr.1 hr.2 hk⟩, ?_⟩
  have e0 : (toF 0 : Fin p) = 0 := rfl
  have ev : (toF ((0 - ((cv (row c) (row (s ++ [0])) s.length : Fin p).val : Int)) % p) : Fin p) = 0 - cv (row c) (row (s ++ [0])) s.length := by rw [toF_sub h00.1 hr.1, toF_of_val, e0]
  generalize hv : (0 - ((cv (row c) (row (s ++ [0])) s.length : Fin p).val : Int)) % p = v at ev
  have last : ∀ x : Int, (row (s ++ [x]) s.length : Fin p) = toF x := fun x => by unfold row; rw [List.getD_eq_getElem?_getD, List.getElem?_append_right (Nat.le_refl _)]; simp
  have cvx : ∀ x : Int, (cv (row c) (row (s ++ [x])) s.length : Fin p) = toF x + sm s.length (fun i => row c (i + 1) * row s (s.length - (i + 1))) := fun x => by
    unfold cv
    rw [sm_first, Nat.sub_zero, last, hc.row0 hp, sm_congr (f := fun i => row c (i + 1) * row (s ++ [x]) (s.length - (i + 1))) (g := fun i => row c (i + 1) * row s (s.length - (i + 1))) (fun i hi => by
      show row c (i + 1) * row (s ++ [x]) (s.length - (i + 1)) = _
      rw [row_append_left (by omega)])]
    grind
  rw [cvx, ev, cvx, e0]
  grind
theorem on_l0 (hp : Md p) {c : List Int} (hc : IsRule p c) (m : Nat) (hm : m < 10000) (d : Nat) : ∀ (i : Nat) (s : List Int), i + d = m → In p s → s.length < 10000 + i → ∃ l, Ev (fun k => series_On.l0 k p c s (m : Int) (i : Int)) (l, 0) ∧ Goes p s c l d := by
  induction d with
  | zero =>
    intro i s hi hs hsl
    exact ⟨s, Ev.step (fun k => series_On.l0.eq_2 ..) (Ev.iteF (by omega) (Ev.now _)), Goes.here hs⟩
  | succ d ih =>
    intro i s hi hs hsl
    obtain ⟨v, hv, h1, h2, h3⟩ := on_step hp hs hc (by omega)
    have hl : (s ++ [v]).length = s.length + 1 := by simp
    obtain ⟨l, h4, h5⟩ := ih (i + 1) (s ++ [v]) (by omega) (hs.append (In.cons hv In.nil)) (by omega)
    have hlen := h5.len
    refine ⟨l, ?_, by omega, h5.inr, ?_, fun j h6 h7 => ?_⟩
    · have e3 : (s ++ [(0 : Int)]).set s.length v = s ++ [v] := by simp
      have b1 : (i : Int) < (m : Int) := by omega
      have b2 : s.length < 17592186044416 := by omega
      have b3 : (0 : Int) ≤ ((s.length : Nat) : Int) := by omega
      have b4 : ((s.length : Nat) : Int) < (((s ++ [(0 : Int)]).length : Nat) : Int) := by
        have : (s ++ [(0 : Int)]).length = s.length + 1 := by simp
        omega
      have e12 : wrap64 ((((s ++ [0]).length : Nat) : Int) - 1) = ((s.length : Nat) : Int) ∧ wrap64 ((i : Int) + 1) = ((i + 1 : Nat) : Int) := ⟨by
        have : (s ++ [(0 : Int)]).length = s.length + 1 := by simp
        rw [w64_in (by omega) (by omega)]; omega, by rw [w64_in (by omega) (by omega)]; omega⟩
      obtain ⟨e1, e2⟩ := e12
      refine Ev.step (fun k => series_On.l0.eq_2 ..) (Ev.iteT b1 (Ev.iteT b2 (Ev.bind (Ev.now _) ?_)))
      rw [e1, e2]
      refine Ev.bind h1 (Ev.bind h2 (Ev.iteT b3 (Ev.iteT b4 ?_)))
      rw [Int.toNat_natCast, e3]
      exact h4
    · have e := h5.beg
      rw [hl] at e
      have e2 := congrArg (List.take s.length) e
      rw [List.take_take, Nat.min_eq_left (by omega), List.take_left] at e2
      exact e2
    · by_cases e : j = s.length
      · subst e
        rw [← h3]
        exact cv_same fun i hi => h5.row_eq (by omega)
      · exact h5.nul j (by omega) h7
/-- series.On. -/
theorem evOn (hp : Md p) {s c : List Int} (hs : In p s) (hc : IsRule p c) (hsl : s.length < 10000) {m : Nat} (hm : m ≤ 512) : ∃ l, Ev (fun k => series_On.f k p s c (m : Int)) (l, 0) ∧ Goes p s c l m := by
  have hh := evHas (p : Int) (l := s) (by omega)
  rw [in_has hp hs] at hh
  obtain ⟨l, h1, h2⟩ := on_l0 hp hc m (by omega) m 0 s (by omega) hs (by omega)
  refine ⟨l, Ev.congr (f := fun k => (series_Right.f k p c).bind _) (fun k => rfl) (Ev.bind (evRight1 hp hc) (Ev.iteT rfl (Ev.bind hh (Ev.iteT rfl (Ev.iteF (by omega) ?_))))), h2⟩
  rw [decide_eq_false (by omega)]
  refine Ev.step (fun k => series_On.j0.eq_2 ..) (Ev.iteF (by simp) (Ev.bind (a := s) ?_ h1))
  exact Ev.congr (f := fun _ => some s) (fun k => evClone (by omega)) (Ev.now _)
end
end Fp

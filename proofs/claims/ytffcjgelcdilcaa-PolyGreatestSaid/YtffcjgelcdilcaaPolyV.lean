/- The greatest divisor, what it is made of, and the least multiple, over a prime. No memory. -/
import Derived.Test.YtffcjgelcdilcaaPolyU
import Derived.Test.YtffcjgelcdilcaaBez
import Derived.Test.YtffcjgelcdilcaaPAllx8
import Derived.Test.YtffcjgelcdilcaaPAllx9
set_option linter.unusedVariables false
set_option linter.unusedSimpArgs false
set_option linter.unusedSectionVars false
namespace Go.Proofs.Ytffcjgelcdilcaa.Spec
open Go.RowKit Go.Proofs.Ytffcjgelcdilcaa.PAll Go.Proofs.YtffcjgelcdilcaaW.PrintWords Go.Proofs.YtffcjgelcdilcaaW.PrintLast Go.Proofs.YtffcjgelcdilcaaW.PrintMore Fp

section
variable {p : Nat} [NeZero p]
/-- A step back, of polynomials. -/
def fb (st : Pl p × Pl p) (q : Pl p) : Pl p × Pl p := (st.2, st.1 - q * st.2)
theorem evTimesL (hp : Md p) {A B : Pl p} (hA : Pl.sz A < 1000000) (hB : Pl.sz B < 1000000) : Ev (fun k => poly_ring_times.f k p (toL A) (toL B)) (toL (A * B)) := by
  have h := evTimes hp (In_toL A) (In_toL B) (by rw [length_toL]; omega) (by rw [length_toL]; omega)
  rwa [toP_toL, toP_toL] at h
theorem evBack (hp : Md p) : ∀ (Q : List (Pl p)) (S T : Pl p) (B : Nat), (∀ q ∈ Q, Pl.sz q ≤ 600) → Pl.sz S ≤ B → Pl.sz T ≤ B → B + 600 * Q.length ≤ 900000 →
    Ev (fun k => Rh.back k p (Q.map toL) (toL S) (toL T)) (toL (Q.foldl fb (S, T)).1, toL (Q.foldl fb (S, T)).2) := by
  intro Q
  induction Q with
  | nil => intro S T B _ _ _ _; exact Ev.now _
  | cons q Q ih =>
    intro S T B hq hS hT hB
    rw [List.length_cons] at hB
    have hq1 := hq q List.mem_cons_self
    have hm := Pl.sz_mul_le q T
    refine Ev.congr (f := fun k => (poly_ring_times.f k p (toL q) (toL T)).bind _) (fun k => rfl) (Ev.bind (evTimesL hp (by omega) (by omega)) ?_)
    refine Ev.bind (evEachSubL hp (A := S) (B := q * T) (by omega) (by omega)) ?_
    have hs := Pl.sz_sub_le S (q * T)
    exact ih T (S - q * T) (B + 600) (fun x hx => hq x (List.mem_cons_of_mem _ hx)) (by omega) (by omega) (by omega)
theorem toL_C {c : Fin p} (hc : c ≠ 0) : toL (Pl.C c) = [(c.val : Int)] := by
  have h1 : Pl.sz (Pl.C c) = 1 := Pl.sz_eq (d := 0) (by rw [Pl.C_at, if_pos rfl]; exact hc) (fun i hi => by rw [Pl.C_at, if_neg (by omega)])
  refine ext_list (by rw [length_toL, h1]; rfl) fun i hi => ?_
  rw [length_toL, h1] at hi
  obtain rfl : i = 0 := by omega
  rw [toL_get, Pl.C_at, if_pos rfl]
  rfl
theorem okR_toL (hp : Md p) {Q : List (Pl p)} {c : Int} (hc : 0 ≤ c ∧ c < p) (hQ : Q.length ≤ 600) (hq : ∀ q ∈ Q, Pl.sz q ≤ 600) : Rh.okR p (Q.map toL) c = true := by
  unfold Rh.okR
  simp only [Bool.and_eq_true, decide_eq_true_eq, List.all_eq_true, List.length_map, List.mem_map]
  refine ⟨⟨⟨⟨⟨by have := hp.1; omega, hp.2⟩, hc.1⟩, hc.2⟩, hQ⟩, ?_⟩
  rintro l ⟨q, hql, rfl⟩
  exact ⟨by rw [length_toL]; exact hq q hql, fun x hx => In_toL q x hx⟩
/-- What a divisor and a rest's sizes are. -/
theorem sz_quot (hF : Pl.Fld p) {A B q r : Pl p} (e : A = q * B + r) (hr : Pl.sz r < Pl.sz B) (hq : q ≠ 0) : Pl.sz q + Pl.sz B = Pl.sz (q * B) + 1 ∧ Pl.sz (q * B) ≤ Pl.sz A := by
  have hB0 : B ≠ 0 := by rintro rfl; rw [Pl.sz_zero] at hr; omega
  have h1 := Pl.sz_mul hF hq hB0
  have h2 := Pl.sz_pos hq
  have h3 : q * B = A - r := by rw [e, Pl.add_sub_cancel]
  have h4 := Pl.sz_sub_le A r
  rw [← h3] at h4
  omega
theorem evBzL (hp : Md p) (hF : Pl.Fld p) : ∀ (n : Nat) (A B : Pl p) (Q : List (Pl p)), Pl.sz B ≤ n → Pl.sz A ≤ 512 → Pl.sz B ≤ 512 → Q.length + Pl.sz B ≤ 600 → (∀ q ∈ Q, Pl.sz q ≤ 600) → (A = 0 → B = 0 → Q = []) →
    ∃ g S T : Pl p, S * A + T * B = g ∧ Pl.Dv g A ∧ Pl.Dv g B ∧ ((A = 0 ∧ B = 0 ∧ g = 0) ∨ (g ≠ 0 ∧ Pl.top g = 1)) ∧ Pl.sz S ≤ 1 + max (Pl.sz A) (Pl.sz B) ∧ Pl.sz T ≤ 1 + max (Pl.sz A) (Pl.sz B) ∧
      Ev (fun k => Rh.bz.l0 k p (toL A) (toL B) p (Q.map toL)) (toL g, toL (Q.reverse.foldl fb (S, T)).1, toL (Q.reverse.foldl fb (S, T)).2, 0) := by
  intro n
  induction n with
  | zero =>
    intro A B Q hn hA hB hQ hq h0
    obtain rfl : B = 0 := Pl.eq_zero (by omega)
    by_cases hA0 : A = 0
    · subst hA0
      obtain rfl := h0 rfl rfl
      refine ⟨0, 0, 0, by rw [Pl.zero_mul, Pl.add_zero], Pl.Dv.zero _, Pl.Dv.zero _, .inl ⟨rfl, rfl, rfl⟩, by rw [Pl.sz_zero]; omega, by rw [Pl.sz_zero]; omega, ?_⟩
      simp only [List.reverse_nil, List.foldl_nil, toL_zero, List.map_nil]
      refine Ev.step (f := fun _ => some ([], [], [], 0)) (fun k => ?_) (Ev.now _)
      simp only [Rh.bz.l0]
      rw [if_neg (by decide), if_pos (by decide)]
    · have hAs := Pl.sz_pos hA0
      have ht : (toL A).getD ((toL A).length - 1) 0 = ((Pl.top A).val : Int) := top_toL A
      have hrange : 0 ≤ ((Pl.top A).val : Int) ∧ ((Pl.top A).val : Int) < p := ⟨by omega, by have := (Pl.top A).isLt; omega⟩
      obtain ⟨c, hc, hinv, hev⟩ := evInvL hp hrange (by rw [toF_of_val]; exact hF.2 _ (Pl.top_ne hA0))
      rw [toF_of_val] at hinv
      obtain ⟨d, rfl⟩ : ∃ d : Fin p, c = (d.val : Int) := ⟨toF c, (toF_val hc.1 hc.2).symm⟩
      rw [toF_of_val] at hinv
      have hd0 : d ≠ 0 := by
        rintro rfl
        apply hF.1
        rw [← hinv]
        grind
      have hCd : (Pl.C d : Pl p) ≠ 0 := fun h => hd0 (by have := congrArg (fun f => f.co 0) h; simpa [Pl.C_at, Pl.zero_at] using this)
      have htC : Pl.top (Pl.C d : Pl p) = d := by
        have h1 : Pl.sz (Pl.C d) = 1 := Pl.sz_eq (d := 0) (by rw [Pl.C_at, if_pos rfl]; exact hd0) (fun i hi => by rw [Pl.C_at, if_neg (by omega)])
        unfold Pl.top
        rw [h1]
        rfl
      have hg0 := Pl.mul_ne hF hCd hA0
      refine ⟨Pl.C d * A, Pl.C d, 0, by rw [Pl.zero_mul, Pl.add_zero], ?_, Pl.Dv.zero _, .inr ⟨hg0, ?_⟩, ?_, by rw [Pl.sz_zero]; omega, ?_⟩
      · refine ⟨Pl.C (Pl.top A), ?_⟩
        rw [Pl.mul_comm (Pl.C d * A), ← Pl.mul_assoc, Pl.C_mul, hinv, Pl.C_one, Pl.one_mul]
      · rw [Pl.top_mul hF hCd hA0, htC, Std.Commutative.comm (op := (· * · : Fin p → Fin p → Fin p)) d, hinv]
      · have := Pl.sz_C_le d
        omega
      · have hb := evBack hp Q.reverse (Pl.C d) 0 1 (fun q hq' => hq q (List.mem_reverse.1 hq')) (Pl.sz_C_le d) (by rw [Pl.sz_zero]; omega) (by rw [List.length_reverse]; omega)
        rw [toL_C hd0, toL_zero, List.map_reverse] at hb
        rw [toL_zero]
        have e : wrap64 ((Pl.sz A : Int) - 1) = ((Pl.sz A - 1 : Nat) : Int) := by rw [w64_in (by omega) (by omega)]; omega
        refine Ev.step (fun k => Rh.bz.l0.eq_2 _ _ _ _ _ k) ?_
        rw [length_toL] at ht
        refine Ev.iteF (by decide) (Ev.iteF (by rw [length_toL]; omega) ?_)
        rw [length_toL, e]
        refine Ev.iteT (by omega) (Ev.iteT (by omega) ?_)
        rw [rd_nat, ht]
        refine Ev.bind hev (Ev.iteT rfl (Ev.iteT (okR_toL hp hc (by omega) hq) (Ev.bind hb ?_)))
        have hs := evScaledL hp (A := A) hc (by omega)
        rw [toF_of_val] at hs
        exact Ev.bind hs (Ev.now _)
  | succ n ih =>
    intro A B Q hn hA hB hQ hq h0
    by_cases hB0 : B = 0
    · exact ih A B Q (by rw [hB0, Pl.sz_zero]; omega) hA hB hQ hq h0
    · obtain ⟨q, r, e, hr, hD⟩ := evDivL hp hA hB hB0 (hF.2 _ (Pl.top_ne hB0))
      have hBs := Pl.sz_pos hB0
      have hqs : Pl.sz q ≤ 600 := by
        by_cases hq0 : q = 0
        · rw [hq0, Pl.sz_zero]; omega
        · have := sz_quot hF e hr hq0
          omega
      obtain ⟨g, S, T, h1, h2, h3, h4, h5, h6, h7⟩ := ih B r (Q ++ [q]) (by omega) hB (by omega) (by rw [List.length_append, List.length_singleton]; omega)
        (fun x hx => by rcases List.mem_append.1 hx with hx | hx; exact hq x hx; rw [List.mem_singleton.1 hx]; exact hqs) (fun h => absurd h hB0)
      have hmax : max (Pl.sz B) (Pl.sz r) = Pl.sz B := by omega
      rw [hmax] at h5 h6
      refine ⟨g, T, S - q * T, ?_, ?_, h2, .inr ?_, by omega, ?_, ?_⟩
      · rw [e, ← h1, Pl.sub_mul, Pl.mul_add, ← Pl.mul_assoc, Pl.mul_comm T q]
        refine Pl.ext fun i => ?_
        simp only [Pl.add_at, Pl.sub_at]
        grind
      · rw [e]
        exact (h2.mul_left q).add h3
      · rcases h4 with h4 | h4
        · exact absurd h4.1 hB0
        · exact h4
      · have hs := Pl.sz_sub_le S (q * T)
        have hm : Pl.sz (q * T) ≤ 1 + Pl.sz A := by
          by_cases hq0 : q = 0
          · rw [hq0, Pl.zero_mul, Pl.sz_zero]; omega
          · have h8 := sz_quot hF e hr hq0
            have h9 := Pl.sz_mul_le q T
            omega
        omega
      · refine Ev.step (fun k => Rh.bz.l0.eq_2 _ _ _ _ _ k) ?_
        refine Ev.iteT (by rw [length_toL]; omega) (Ev.bind hD (Ev.iteT rfl (Ev.iteT (by rw [List.length_map]; omega) ?_)))
        have e2 : Q.map toL ++ [toL q] = (Q ++ [q]).map toL := by rw [List.map_append]; rfl
        have e3 : (Q ++ [q]).reverse.foldl fb (S, T) = Q.reverse.foldl fb (T, S - q * T) := by rw [List.reverse_append]; rfl
        rw [e3] at h7
        rw [e2]
        exact h7
theorem monic_facts (hF : Pl.Fld p) {A : Pl p} {c : Fin p} (hA : A ≠ 0) (hc : Pl.top A * c = 1) : Pl.C c * A ≠ 0 ∧ Pl.top (Pl.C c * A) = 1 ∧ Pl.Dv (Pl.C c * A) A := by
  have hc0 : c ≠ 0 := by
    rintro rfl
    apply hF.1
    rw [← hc]
    grind
  have hC : (Pl.C c : Pl p) ≠ 0 := fun h => hc0 (by have := congrArg (fun f => f.co 0) h; simpa [Pl.C_at, Pl.zero_at] using this)
  have h1 : Pl.sz (Pl.C c) = 1 := Pl.sz_eq (d := 0) (by rw [Pl.C_at, if_pos rfl]; exact hc0) (fun i hi => by rw [Pl.C_at, if_neg (by omega)])
  have htC : Pl.top (Pl.C c : Pl p) = c := by
    unfold Pl.top
    rw [h1]
    rfl
  refine ⟨Pl.mul_ne hF hC hA, ?_, Pl.C (Pl.top A), ?_⟩
  · rw [Pl.top_mul hF hC hA, htC, ← hc]
    grind
  · rw [Pl.mul_comm (Pl.C c * A), ← Pl.mul_assoc, Pl.C_mul, hc, Pl.C_one, Pl.one_mul]
/-- The greatest divisor of two polynomials, and what it is made of. -/
theorem evBezL (hp : Md p) (hF : Pl.Fld p) {A B : Pl p} (hA : Pl.sz A ≤ 512) (hB : Pl.sz B ≤ 512) :
    ∃ g S T : Pl p, S * A + T * B = g ∧ Pl.Dv g A ∧ Pl.Dv g B ∧ ((A = 0 ∧ B = 0 ∧ g = 0) ∨ (g ≠ 0 ∧ Pl.top g = 1)) ∧ Pl.sz S ≤ 1 + max (Pl.sz A) (Pl.sz B) ∧ Pl.sz T ≤ 1 + max (Pl.sz A) (Pl.sz B) ∧ Pl.sz g ≤ 512 ∧
      Ev (fun k => poly_Bezout.f k p (toL A) (toL B)) (toL g, toL S, toL T, 0) := by
  obtain ⟨g, S, T, h1, h2, h3, h4, h5, h6, h7⟩ := evBzL hp hF (Pl.sz B) A B [] (Nat.le_refl _) hA hB (by simp; omega) (fun _ h => by cases h) (fun _ _ => rfl)
  have hg : Pl.sz g ≤ 512 := by
    by_cases hA0 : A = 0
    · by_cases hB0 : B = 0
      · rcases h4 with h4 | h4
        · rw [h4.2.2, Pl.sz_zero]; omega
        · rw [← h1, hA0, hB0, Pl.mul_zero, Pl.mul_zero, Pl.add_zero, Pl.sz_zero]; omega
      · have := h3.sz_le hF hB0; omega
    · have := h2.sz_le hF hA0; omega
  refine ⟨g, S, T, h1, h2, h3, h4, h5, h6, hg, ?_⟩
  refine Ev.congr (f := fun k => (poly_both.f k p (toL A) (toL B)).bind _) (fun k => rfl) (Ev.bind (evBothL hp hA hB) ?_)
  simp only [if_true]
  exact h7
theorem evGcdOf {A B : Pl p} {l s t : List Int} {e : Int} (h : Ev (fun k => poly_Bezout.f k p (toL A) (toL B)) (l, s, t, e)) : Ev (fun k => poly_Gcd.f k p (toL A) (toL B)) (l, e) :=
  Ev.congr (f := fun k => (poly_Bezout.f k p (toL A) (toL B)).bind _) (fun k => rfl) (Ev.bind h (Ev.now _))
/-- The least multiple of two polynomials that aren't 0. -/
theorem evLcmOf (hp : Md p) (hF : Pl.Fld p) {A B g q : Pl p} (hA : Pl.sz A ≤ 512) (hB : Pl.sz B ≤ 512) (hs : Pl.sz A + Pl.sz B ≤ 513) (hA0 : A ≠ 0) (hB0 : B ≠ 0) (hq : A = q * g) (h : Ev (fun k => poly_Gcd.f k p (toL A) (toL B)) (toL g, 0)) :
    ∃ c : Fin p, Pl.top (q * B) * c = 1 ∧ Ev (fun k => poly_Lcm.f k p (toL A) (toL B)) (toL (Pl.C c * (q * B)), 0) := by
  have hg0 : g ≠ 0 := by rintro rfl; rw [Pl.mul_zero] at hq; exact hA0 hq
  have hq0 : q ≠ 0 := by rintro rfl; rw [Pl.zero_mul] at hq; exact hA0 hq
  have hgs := Pl.sz_pos hg0
  have hqs := Pl.sz_pos hq0
  have hAs := Pl.sz_pos hA0
  have hBs := Pl.sz_pos hB0
  have hm := Pl.sz_mul hF hq0 hg0
  rw [← hq] at hm
  have hqB := Pl.mul_ne hF hq0 hB0
  have hmB := Pl.sz_mul hF hq0 hB0
  obtain ⟨q', r, e, hr, hD⟩ := evDivL hp hA (B := g) (by omega) hg0 (hF.2 _ (Pl.top_ne hg0))
  obtain ⟨h1, h2⟩ := Pl.div_unique hF (b := g) (q := q') (r := r) (q' := q) (r' := 0) hr (by rw [Pl.sz_zero]; omega) (by rw [← e, Pl.add_zero, ← hq])
  subst h1
  obtain ⟨c, hc, hM⟩ := evMonicL hp (A := q' * B) (by omega) hqB (hF.2 _ (Pl.top_ne hqB))
  refine ⟨c, hc, ?_⟩
  refine Ev.congr (f := fun k => (poly_Gcd.f k p (toL A) (toL B)).bind _) (fun k => rfl) (Ev.bind h ?_)
  refine Ev.iteT rfl (Ev.iteF (by rw [length_toL]; omega) ?_)
  have hb : (((toL B).length : Int) == 0) = false := beq_eq_false_iff_ne.2 (by rw [length_toL]; omega)
  rw [hb]
  refine Ev.step (f := fun k => (poly_Div.f k p (toL A) (toL g)).bind _) (fun k => rfl) (Ev.bind hD ?_)
  refine Ev.iteT rfl ?_
  refine Ev.bind (evMulL hp (A := q') (B := B) (by omega) hB (by omega)) (Ev.iteT rfl ?_)
  exact Ev.bind hM (Ev.now _)
theorem evLcm0 {A B : Pl p} {l : List Int} (h0 : A = 0 ∨ B = 0) (h : Ev (fun k => poly_Gcd.f k p (toL A) (toL B)) (l, 0)) : Ev (fun k => poly_Lcm.f k p (toL A) (toL B)) ([], 0) := by
  refine Ev.congr (f := fun k => (poly_Gcd.f k p (toL A) (toL B)).bind _) (fun k => rfl) (Ev.bind h ?_)
  refine Ev.iteT rfl ?_
  by_cases c : ((toL A).length : Int) = 0
  · refine Ev.iteT c (Ev.step (f := fun _ => some ([], 0)) (fun k => rfl) (Ev.now _))
  · refine Ev.iteF c ?_
    have hB : B = 0 := by
      rcases h0 with h0 | h0
      · subst h0; rw [length_toL, Pl.sz_zero] at c; exact absurd rfl c
      · exact h0
    subst hB
    have hb : (((toL (0 : Pl p)).length : Int) == 0) = true := by rw [length_toL, Pl.sz_zero]; rfl
    rw [hb]
    exact Ev.step (f := fun _ => some ([], 0)) (fun k => rfl) (Ev.now _)
end
end Go.Proofs.Ytffcjgelcdilcaa.Spec

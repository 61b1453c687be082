/- A row's rule is no shorter than that of its beginning; a row of noughts has none but 1; a row times a number but 0 has a rule of the same length, and each row obeys the other one's. -/
import Derived.Test.YtffcjgelcdilcaaSerUse
import Derived.Test.YtffcjgelcdilcaaPSerx11
set_option linter.unusedVariables false
set_option linter.unusedSimpArgs false
set_option linter.unusedSectionVars false
namespace Go.Proofs.Ytffcjgelcdilcaa.Pure
open Go.RowKit Go.Proofs.Ytffcjgelcdilcaa.PSer Go.Proofs.YtffcjgelcdilcaaW.PrintWords Go.Proofs.YtffcjgelcdilcaaW.PrintLast Go.Proofs.Ytffcjgelcdilcaa.Spec Fp

/-- The row times a number, number by number. -/
theorem more_l0 {p : Nat} [NeZero p] (hp : Md p) {l : List Int} (hl : In p l) (hll : l.length ≤ 60) {x : Int} (hx : 0 ≤ x ∧ x < p) (x9 x11 x13 : List Int) (x10 x12 x14 : Int) (r : Bool) (t : List Int) (ht : t = l.map fun y => y * x % (p : Int))
    (hend : ∀ k, Ev (fun k => affidavitlaw04_SeriesMore.l0 k p l x x9 x10 x11 x12 x13 x14 t (l.length : Int)) r ∨ k = 0) (d : Nat) :
    ∀ i : Nat, i + d = l.length → Ev (fun k => affidavitlaw04_SeriesMore.l0 k p l x x9 x10 x11 x12 x13 x14 (t.take i) (i : Int)) r := by
  have htl : t.length = l.length := by rw [ht, List.length_map]
  induction d with
  | zero =>
    intro i hi
    rw [Nat.add_zero] at hi
    subst hi
    rw [← htl, List.take_length, htl]
    rcases hend 1 with h | h
    · exact h
    · exact absurd h (by omega)
  | succ d ih =>
    intro i hi
    have h1 := hl.get i
    have b1 : (i : Int) < (l.length : Int) := by omega
    have b2 : (0 : Int) ≤ (i : Int) := by omega
    have b3 : (t.take i).length < 17592186044416 := by rw [List.length_take]; omega
    have e1 : wrap64 ((i : Int) + 1) = ((i + 1 : Nat) : Int) := by rw [w64_in (by omega) (by omega)]; omega
    have e2 : t.take i ++ [l.getD i 0 * x % (p : Int)] = t.take (i + 1) := by
      have hti : t[i]? = some (l.getD i 0 * x % (p : Int)) := by
        rw [ht, List.getElem?_map, List.getElem?_eq_getElem (by omega), List.getD_eq_getElem?_getD, List.getElem?_eq_getElem (by omega)]
        rfl
      rw [List.take_add_one, hti]
      rfl
    refine Ev.step (fun k => affidavitlaw04_SeriesMore.l0.eq_2 ..) (Ev.iteT b1 (Ev.iteT b2 (Ev.bind (a := (l.getD i 0 * x % p, 0)) ⟨13, fun k hk => by rw [rd_nat]; exact mul_spec hp.1 hp.2 h1.1 h1.2 hx.1 hx.2 hk⟩ (Ev.iteT b3 ?_))))
    rw [e1]
    show Ev (fun k => affidavitlaw04_SeriesMore.l0 k p l x x9 x10 x11 x12 x13 x14 (t.take i ++ [l.getD i 0 * x % (p : Int)]) _) r
    rw [e2]
    exact ih (i + 1) (by omega)

theorem SeriesMore : affidavitlaw04_SeriesMore.Pure := by
  intro a0 l1 a2 a3 w0 _ _ w1 w2 w3
  have n1 := wfs w1
  have n3 := wf0 w3
  have h2 : 0 ≤ a2 ∧ a2 ≤ 255 := by
    have h1 : (decide (IntKind.u8.min ≤ a2) && decide (a2 ≤ IntKind.u8.max)) = true := w2
    rw [Bool.and_eq_true, decide_eq_true_eq, decide_eq_true_eq] at h1
    have h2 : IntKind.u8.min = 0 := by decide
    have h3 : IntKind.u8.max = 255 := by decide
    omega
  refine Ev.rounds (g := fun k => affidavitlaw04_SeriesMore.f k a0 l1 a2 a3) ?_
  refine Ev.congr (f := fun k => (affidavitlaw04_awake.f k).bind _) (fun k => rfl) (Ev.bind evAwake ?_)
  obtain ⟨b, hb1, hb2⟩ := evPrime a0 (wf0 w0)
  refine Ev.iteT rfl (Ev.bind hb1 ?_)
  have triv : Ev (fun k => affidavitlaw04_SeriesMore.j0 k a0 l1 a2 a3 true) true := Ev.step (f := fun _ => some true) (fun k => rfl) (Ev.now _)
  cases b with
  | false => exact Ev.iteF (by decide) triv
  | true =>
    refine Ev.iteT rfl ?_
    by_cases c1 : (l1.length : Int) > 60
    · exact Ev.iteT c1 triv
    refine Ev.iteF c1 (Ev.bind (evHas a0 (l := l1) (by omega)) ?_)
    cases hh : hasB a0 l1 with
    | false => exact Ev.iteF (by decide) triv
    | true =>
      refine Ev.iteT rfl ?_
      by_cases c3 : a3 = 0
      · exact Ev.iteT c3 triv
      refine Ev.iteF c3 ?_
      by_cases c4 : a3 ≥ a0
      · rw [decide_eq_true c4]; exact triv
      rw [decide_eq_false c4]
      clear triv
      obtain ⟨p, nz, rfl, hp, hl⟩ := has_in hh n1
      have hf : Pl.Fld p := Pr.fld (by have := hb2 rfl; rwa [Int.toNat_natCast] at this)
      have hx : 0 ≤ a3 ∧ a3 < p := ⟨n3, by omega⟩
      have hll : l1.length ≤ 60 := by omega
      obtain ⟨z1, L1, r1, q1, m1, i1, R1, S1⟩ := evR hp hf hl (by omega)
      obtain ⟨q, hq, hqv⟩ : ∃ q : Nat, q ≤ l1.length ∧ Int.tmod (wrap64 a2) (wrap64 ((l1.length : Int) + 1)) = (q : Int) := by
        refine ⟨a2.toNat % (l1.length + 1), by have := Nat.mod_lt a2.toNat (show 0 < l1.length + 1 by omega); omega, ?_⟩
        rw [w64_in (n := a2) (by omega) (by omega), w64_in (n := (l1.length : Int) + 1) (by omega) (by omega), Int.tmod_eq_emod_of_nonneg h2.1, Int.natCast_emod]
        congr 1
        omega
      obtain ⟨z2, L2, r2, q2, m2, i2, R2, S2⟩ := evR hp hf (s := l1.take q) (hl.take q) (by rw [List.length_take]; omega)
      obtain ⟨z3, L3, r3, q3, m3, i3, R3, S3⟩ := evR hp hf (s := List.replicate l1.length 0) (In.zeros _) (by rw [List.length_replicate]; omega)
      obtain ⟨t, ht⟩ : ∃ t, t = l1.map fun y => y * a3 % (p : Int) := ⟨_, rfl⟩
      have htl : t.length = l1.length := by rw [ht, List.length_map]
      have hti : In p t := by rw [ht]; exact In.map fun y _ => emod_range _
      obtain ⟨z4, L4, r4, q4, m4, i4, R4, S4⟩ := evR hp hf (s := t) hti (by omega)
      have hrow : ∀ i, i < l1.length → (toF a3 : Fin p) * row l1 i = row t i := fun i hi => by
        unfold row
        rw [ht, List.getD_eq_getElem?_getD (l := l1.map _), List.getElem?_map, List.getElem?_eq_getElem hi]
        show _ = toF (l1[i] * a3 % (p : Int))
        have h1 := hl.get i
        rw [List.getD_eq_getElem?_getD, List.getElem?_eq_getElem hi] at h1 ⊢
        have h1' : 0 ≤ l1[i] ∧ l1[i] < (p : Int) := h1
        show toF a3 * toF l1[i] = _
        rw [toF_mul h1'.1 hx.1]
        grind
      have hx0 : (toF a3 : Fin p) ≠ 0 := fun e => c3 (toF_inj (p := p) hx ⟨by omega, by omega⟩ (by rw [e]; rfl))
      obtain ⟨y, hy⟩ := hf.2 _ hx0
      have T1 : Pl.Rl (row t : Nat → Fin p) (row z1) L1 t.length := by
        rw [htl]
        exact (R1.smul (toF a3)).congr hrow
      have T2 : Pl.Rl (row l1 : Nat → Fin p) (row z4) L4 l1.length := by
        rw [← htl]
        refine (R4.smul y).congr fun i hi => ?_
        rw [← hrow i (by omega)]
        grind
      have k1 : L2 ≤ L1 := S2 _ _ ((R1.mono (show (l1.take q).length ≤ l1.length by rw [List.length_take]; omega)).congr fun i hi => by
        rw [List.length_take] at hi
        rw [row_take, if_pos (by omega)])
      have k3 : L3 ≤ 0 := S3 _ _ (Pl.Rl.nought fun i _ => row_zeros _ _)
      have k4 : L4 ≤ L1 := S4 _ _ T1
      have k5 : L1 ≤ L4 := S1 _ _ T2
      have o1 := evObeysT hp hti i1 (by omega) (by rw [q1, Nat.add_sub_cancel]; exact T1)
      have o2 := evObeysT hp hl i4 (by omega) (by rw [q4, Nat.add_sub_cancel]; exact T2)
      have g1 : (z2.length : Int) ≤ (z1.length : Int) := by omega
      have g2 : (z3.length : Int) = 1 := by omega
      have g3 : (z4.length : Int) = (z1.length : Int) := by omega
      have g4 : (z1.length : Int) ≤ wrap64 ((l1.length : Int) + 1) := by rw [w64_in (by omega) (by omega)]; omega
      have g5 : ¬ (wrap64 ((l1.length : Int) + 1) = 0) := by rw [w64_in (by omega) (by omega)]; omega
      have g6 : (0 : Int) ≤ (q : Int) := by omega
      have g7 : (q : Int) ≤ (l1.length : Int) := by omega
      have g8 : (0 : Int) ≤ (l1.length : Int) := by omega
      have g9 : ((l1.length : Int)).toNat ≤ 35184372088832 := by omega
      have g10 : ¬ (l1.length : Int) < (l1.length : Int) := by omega
      refine Ev.step (fun k => affidavitlaw04_SeriesMore.j0.eq_2 ..) (Ev.iteF (by simp) (Ev.bind r1 (Ev.iteF g5 ?_)))
      rw [hqv]
      refine Ev.iteT g6 (Ev.iteT g7 ?_)
      rw [Int.toNat_natCast]
      refine Ev.bind r2 (Ev.iteT g8 (Ev.iteT g9 ?_))
      rw [Int.toNat_natCast]
      refine Ev.bind r3 ?_
      have hend : Ev (fun k => affidavitlaw04_SeriesMore.l0 k p l1 a3 z1 0 z2 0 z3 0 t (l1.length : Int)) true := by
        refine Ev.step (fun k => affidavitlaw04_SeriesMore.l0.eq_2 ..) (Ev.iteF g10 (Ev.bind r4 ?_))
        refine Ev.iteT rfl (Ev.iteT rfl (Ev.iteT rfl (Ev.iteT rfl (Ev.iteT g1 (Ev.iteT g2 (Ev.iteT g3 (Ev.bind o1 (Ev.iteT rfl (Ev.bind o2 (Ev.iteT rfl ?_))))))))))
        rw [decide_eq_true g4]
        exact Ev.now _
      exact more_l0 hp hl hll hx z1 z2 z3 0 0 0 true t ht (fun _ => .inl hend) l1.length 0 (by omega)
end Go.Proofs.Ytffcjgelcdilcaa.Pure

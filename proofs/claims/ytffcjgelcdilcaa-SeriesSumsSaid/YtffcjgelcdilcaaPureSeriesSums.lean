/- A row without its first number has no longer rule; the sum of two rows has a rule no longer than both together; what is put on by a rule in two parts is put on as one. -/
import Derived.Test.YtffcjgelcdilcaaSerUse
import Derived.Test.YtffcjgelcdilcaaPSerx12
set_option linter.unusedVariables false
set_option linter.unusedSimpArgs false
set_option linter.unusedSectionVars false
namespace Go.Proofs.Ytffcjgelcdilcaa.Pure
open Go.RowKit Go.Proofs.Ytffcjgelcdilcaa.PSer Go.Proofs.YtffcjgelcdilcaaW.PrintWords Go.Proofs.YtffcjgelcdilcaaW.PrintLast Go.Proofs.Ytffcjgelcdilcaa.Spec Fp

/-- The sum, number by number. -/
theorem sums_l0 {p : Nat} [NeZero p] (hp : Md p) {l m : List Int} (hl : In p l) (hm : In p m) (hll : l.length ≤ 40) (hml : m.length = l.length) (l3 : List Int) (a4 : Int) (x11 : List Int) (r : Bool) (t : List Int) (ht : t = (List.range l.length).map fun i => (l.getD i 0 + m.getD i 0) % (p : Int))
    (hend : Ev (fun k => affidavitlaw04_SeriesSums.l0 k p l m l3 a4 x11 t (l.length : Int)) r) (d : Nat) :
    ∀ i : Nat, i + d = l.length → Ev (fun k => affidavitlaw04_SeriesSums.l0 k p l m l3 a4 x11 (t.take i) (i : Int)) r := by
  have htl : t.length = l.length := by rw [ht, List.length_map, List.length_range]
  induction d with
  | zero =>
    intro i hi
    rw [Nat.add_zero] at hi
    subst hi
    rw [← htl, List.take_length, htl]
    exact hend
  | succ d ih =>
    intro i hi
    have h1 := hl.get i
    have h2 := hm.get i
    have b1 : (i : Int) < (l.length : Int) := by omega
    have b2 : (0 : Int) ≤ (i : Int) := by omega
    have b4 : (i : Int) < (m.length : Int) := by omega
    have b3 : (t.take i).length < 17592186044416 := by rw [List.length_take]; omega
    have e1 : wrap64 ((i : Int) + 1) = ((i + 1 : Nat) : Int) := by rw [w64_in (by omega) (by omega)]; omega
    have e2 : t.take i ++ [(l.getD i 0 + m.getD i 0) % (p : Int)] = t.take (i + 1) := by
      have hti : t[i]? = some ((l.getD i 0 + m.getD i 0) % (p : Int)) := by
        rw [ht, List.getElem?_map, List.getElem?_range (by omega)]
        rfl
      rw [List.take_add_one, hti]
      rfl
    refine Ev.step (fun k => affidavitlaw04_SeriesSums.l0.eq_2 ..) (Ev.iteT b1 (Ev.iteT b2 (Ev.iteT b4 (Ev.bind (a := ((l.getD i 0 + m.getD i 0) % p, 0)) ⟨13, fun k hk => by rw [rd_nat, rd_nat]; exact add_spec hp.1 hp.2 h1.1 h1.2 h2.1 h2.2 hk⟩ (Ev.iteT b3 ?_)))))
    rw [e1]
    show Ev (fun k => affidavitlaw04_SeriesSums.l0 k p l m l3 a4 x11 (t.take i ++ [(l.getD i 0 + m.getD i 0) % (p : Int)]) _) r
    rw [e2]
    exact ih (i + 1) (by omega)

theorem SeriesSums : affidavitlaw04_SeriesSums.Pure := by
  intro a0 l1 l2 l3 a4 w0 _ y1 w1 _ y2 w2 _ y3 w3 w4
  have n1 := wfs w1
  have n2 := wfs w2
  have n3 := wfs w3
  have h4 : 0 ≤ a4 ∧ a4 ≤ 255 := by
    have h1 : (decide (IntKind.u8.min ≤ a4) && decide (a4 ≤ IntKind.u8.max)) = true := w4
    rw [Bool.and_eq_true, decide_eq_true_eq, decide_eq_true_eq] at h1
    have h2 : IntKind.u8.min = 0 := by decide
    have h3 : IntKind.u8.max = 255 := by decide
    omega
  refine Ev.rounds (g := fun k => affidavitlaw04_SeriesSums.f k a0 l1 l2 l3 a4) ?_
  refine Ev.congr (f := fun k => (affidavitlaw04_awake.f k).bind _) (fun k => rfl) (Ev.bind evAwake ?_)
  obtain ⟨b, hb1, hb2⟩ := evPrime a0 (wf0 w0)
  refine Ev.iteT rfl (Ev.bind hb1 ?_)
  have triv : Ev (fun k => affidavitlaw04_SeriesSums.j0 k a0 l1 l2 l3 a4 true) true := Ev.step (f := fun _ => some true) (fun k => rfl) (Ev.now _)
  cases b with
  | false => exact Ev.iteF (by decide) triv
  | true =>
    refine Ev.iteT rfl ?_
    by_cases c1 : (l1.length : Int) > 40
    · exact Ev.iteT c1 triv
    refine Ev.iteF c1 ?_
    by_cases c2 : (l3.length : Int) > 40
    · exact Ev.iteT c2 triv
    refine Ev.iteF c2 (Ev.bind (evHas a0 (l := l1) (by omega)) ?_)
    cases hh : hasB a0 l1 with
    | false => exact Ev.iteF (by decide) triv
    | true =>
      refine Ev.iteT rfl (Ev.bind (evHas a0 (l := l2) (by omega)) ?_)
      cases hh2 : hasB a0 l2 with
      | false => exact triv
      | true =>
        clear triv
        obtain ⟨p, nz, rfl, hp, hl⟩ := has_in hh n1
        obtain ⟨p', nz', e', hp', hm⟩ := has_in hh2 n2
        have e'' : p' = p := by omega
        subst e''
        have hf : Pl.Fld p' := Pr.fld (by have := hb2 rfl; rwa [Int.toNat_natCast] at this)
        have hll : l1.length ≤ 40 := by omega
        obtain ⟨z1, L1, r1, q1, m1, i1, R1, S1⟩ := evR hp hf hl (by omega)
        have hn : ∃ n : Nat, n < 20 ∧ wrap64 (Int.tmod a4 20) = (n : Int) := by
          refine ⟨a4.toNat % 20, by omega, ?_⟩
          rw [Int.tmod_eq_emod_of_nonneg h4.1, w64_in (by omega) (by omega)]
          omega
        obtain ⟨n, hn, hnv⟩ := hn
        have h2n : wrap64 (2 * wrap64 (Int.tmod a4 20)) = ((n + n : Nat) : Int) := by rw [hnv, w64_in (by omega) (by omega)]; omega
        have hj3 : Ev (fun k => affidavitlaw04_SeriesSums.j3 k p' l1 l3 a4) true := by
          refine Ev.step (fun k => affidavitlaw04_SeriesSums.j3.eq_2 ..) (Ev.bind (evRule_ (p' : Int) l3) ?_)
          cases hr : ruleB p' l3 with
          | false => exact Ev.iteF (by decide) (Ev.now _)
          | true =>
            have hc := rule_is hp hr n3
            obtain ⟨x, x1, x2⟩ := evOn hp hl hc (by omega) (m := n + n) (by omega)
            obtain ⟨y, y1, y2⟩ := evOn hp hl hc (by omega) (m := n) (by omega)
            obtain ⟨z, z1, z2⟩ := evOn hp y2.inr hc (by have := y2.len; omega) (m := n) (by omega)
            have e := Goes.both hp hc x2 y2 z2
            have hs := evSameT (l := x) (m := z) (by have := x2.len; omega) e
            refine Ev.iteT rfl ?_
            rw [h2n, hnv]
            exact Ev.bind x1 (Ev.bind y1 (Ev.bind z1 (Ev.iteT rfl (Ev.bind hs (Ev.now _)))))
        have hj1 : Ev (fun k => affidavitlaw04_SeriesSums.j1 k p' l1 l2 l3 a4 z1) true := by
          by_cases hlen : (l2.length : Int) = (l1.length : Int)
          · have hlen' : l2.length = l1.length := by omega
            obtain ⟨z2, L2, r2, q2, m2, i2, R2, S2⟩ := evR hp hf hm (by omega)
            obtain ⟨t, ht⟩ : ∃ t, t = (List.range l1.length).map fun i => (l1.getD i 0 + l2.getD i 0) % (p' : Int) := ⟨_, rfl⟩
            have htl : t.length = l1.length := by rw [ht, List.length_map, List.length_range]
            have hti : In p' t := by rw [ht]; exact fun x hx => by obtain ⟨j, _, rfl⟩ := List.mem_map.1 hx; exact emod_range _
            obtain ⟨z3, L3, r3, q3, m3, i3, R3, S3⟩ := evR hp hf (s := t) hti (by omega)
            have hrow : ∀ i, i < t.length → (row l1 i : Fin p') + row l2 i = row t i := fun i hi => by
              unfold row
              rw [ht, List.getD_eq_getElem?_getD (l := List.map _ _), List.getElem?_map, List.getElem?_range (by omega)]
              show _ = toF ((l1.getD i 0 + l2.getD i 0) % (p' : Int))
              rw [toF_add (hl.get i).1 (hm.get i).1]
            have R2' : Pl.Rl (row l2 : Nat → Fin p') (row z2) L2 t.length := by rw [htl, ← hlen']; exact R2
            have R1' : Pl.Rl (row l1 : Nat → Fin p') (row z1) L1 t.length := by rw [htl]; exact R1
            have k3 : L3 ≤ L1 + L2 := S3 _ _ ((R1'.add R2').congr hrow)
            have g1 : ¬ wrap64 ((z3.length : Int) - 1) > wrap64 (wrap64 (wrap64 ((z1.length : Int) - 1) + (z2.length : Int)) - 1) := by
              rw [w64_in (n := (z3.length : Int) - 1) (by omega) (by omega), w64_in (n := (z1.length : Int) - 1) (by omega) (by omega), w64_in (n := (z1.length : Int) - 1 + (z2.length : Int)) (by omega) (by omega), w64_in (n := (z1.length : Int) - 1 + (z2.length : Int) - 1) (by omega) (by omega)]
              omega
            have g2 : ¬ (l1.length : Int) < (l1.length : Int) := by omega
            have hend : Ev (fun k => affidavitlaw04_SeriesSums.l0 k p' l1 l2 l3 a4 z1 t (l1.length : Int)) true :=
              Ev.step (fun k => affidavitlaw04_SeriesSums.l0.eq_2 ..) (Ev.iteF g2 (Ev.bind r2 (Ev.bind r3 (Ev.iteT rfl (Ev.iteT rfl (Ev.iteF g1 hj3))))))
            exact Ev.step (fun k => affidavitlaw04_SeriesSums.j1.eq_2 ..) (Ev.iteT hlen (sums_l0 hp hl hm hll hlen' l3 a4 z1 true t ht hend l1.length 0 (by omega)))
          · exact Ev.step (fun k => affidavitlaw04_SeriesSums.j1.eq_2 ..) (Ev.iteF hlen hj3)
        refine Ev.step (fun k => affidavitlaw04_SeriesSums.j0.eq_2 ..) (Ev.iteF (by simp) (Ev.bind r1 (Ev.iteT rfl ?_)))
        by_cases c5 : (l1.length : Int) > 0
        · have g1 : (1 : Int) ≤ (l1.length : Int) := by omega
          have hd : In p' (l1.drop 1) := fun x hx => hl x (List.mem_of_mem_drop hx)
          have hdl : (l1.drop 1).length + 1 = l1.length := by rw [List.length_drop]; omega
          obtain ⟨z2, L2, r2, q2, m2, i2, R2, S2⟩ := evR hp hf (s := l1.drop 1) hd (by omega)
          have R1' : Pl.Rl (row l1 : Nat → Fin p') (row z1) L1 ((l1.drop 1).length + 1) := by rw [hdl]; exact R1
          have k2 : L2 ≤ L1 := S2 _ _ (R1'.tail.congr fun i hi => by
            unfold row
            rw [List.getD_eq_getElem?_getD (l := l1.drop 1), List.getElem?_drop, ← List.getD_eq_getElem?_getD, Nat.add_comm])
          have g2 : ¬ (z2.length : Int) > (z1.length : Int) := by omega
          exact Ev.iteT c5 (Ev.iteT g1 (Ev.bind r2 (Ev.iteT rfl (Ev.iteF g2 hj1))))
        · exact Ev.iteF c5 hj1
end Go.Proofs.Ytffcjgelcdilcaa.Pure

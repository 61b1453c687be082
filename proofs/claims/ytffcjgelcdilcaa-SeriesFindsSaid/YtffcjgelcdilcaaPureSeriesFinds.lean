/- A row that some rule goes on from its first numbers is known by twice as many as that has: what is found there goes on as that rule does, and its polynomial divides the rule's. -/
import Derived.Test.YtffcjgelcdilcaaSerPoly
import Derived.Test.YtffcjgelcdilcaaPSerx15
set_option linter.unusedVariables false
set_option linter.unusedSimpArgs false
set_option linter.unusedSectionVars false
namespace Go.Proofs.Ytffcjgelcdilcaa.Pure
open Go.RowKit Go.Proofs.Ytffcjgelcdilcaa.PSer Go.Proofs.YtffcjgelcdilcaaW.PrintWords Go.Proofs.YtffcjgelcdilcaaW.PrintLast Go.Proofs.Ytffcjgelcdilcaa.Spec Fp

theorem SeriesFinds : affidavitlaw04_SeriesFinds.Pure := by
  intro a0 l1 l2 w0 _ y1 w1 _ y2 w2
  have n1 := wfs w1
  have n2 := wfs w2
  refine Ev.rounds (g := fun k => affidavitlaw04_SeriesFinds.f k a0 l1 l2) ?_
  refine Ev.congr (f := fun k => (affidavitlaw04_awake.f k).bind _) (fun k => rfl) (Ev.bind evAwake ?_)
  obtain ⟨b, hb1, hb2⟩ := evPrime a0 (wf0 w0)
  refine Ev.iteT rfl (Ev.bind hb1 ?_)
  have triv : Ev (fun k => affidavitlaw04_SeriesFinds.j0 k a0 l1 l2 true) true := Ev.step (f := fun _ => some true) (fun k => rfl) (Ev.now _)
  cases b with
  | false => exact Ev.iteF (by decide) triv
  | true =>
    refine Ev.iteT rfl (Ev.bind (evRule_ a0 l2) ?_)
    cases hr : ruleB a0 l2 with
    | false => exact Ev.iteF (by decide) triv
    | true =>
      refine Ev.iteT rfl (Ev.bind (evHas a0 (l := l1) (by omega)) ?_)
      cases hh : hasB a0 l1 with
      | false => exact Ev.iteF (by decide) triv
      | true =>
        refine Ev.iteT rfl ?_
        by_cases c1 : (l2.length : Int) > 13
        · exact Ev.iteT c1 triv
        refine Ev.iteF c1 ?_
        obtain ⟨p, nz, rfl, hp, hl⟩ := has_in hh n1
        have hc := rule_is hp hr n2
        have hpos := hc.pos
        by_cases c2 : l1.length = l2.length - 1
        · have g0 : ((l1.length : Int) != wrap64 ((l2.length : Int) - 1)) = false := by
            rw [w64_in (by omega) (by omega)]
            simp only [bne_eq_false_iff_eq]
            omega
          rw [g0]
          clear triv
          have hf : Pl.Fld p := Pr.fld (by have := hb2 rfl; rwa [Int.toNat_natCast] at this)
          obtain ⟨n, hn⟩ : ∃ n, l1.length = n := ⟨_, rfl⟩
          have hl2 : l2.length = n + 1 := by omega
          have hn13 : n ≤ 12 := by omega
          have e3 : wrap64 (3 * (l1.length : Int)) = ((3 * n : Nat) : Int) := by rw [w64_in (by omega) (by omega)]; omega
          have e2 : wrap64 (2 * (l1.length : Int)) = ((2 * n : Nat) : Int) := by rw [w64_in (by omega) (by omega)]; omega
          have e0 : (l1.length : Int) = ((n : Nat) : Int) := by rw [hn]
          obtain ⟨s, s1, s2⟩ := evOn hp hl hc (by omega) (m := n) (by omega)
          have sl := s2.len
          have sl' : s.length = 2 * n := by omega
          obtain ⟨d, L, r1, q1, m1, i1, R1, S1⟩ := evR hp hf s2.inr (by omega)
          obtain ⟨long, g1, g2⟩ := evOn hp hl hc (by omega) (m := 3 * n) (by omega)
          have gl := g2.len
          obtain ⟨also, h1, h2⟩ := evOn hp s2.inr i1 (by omega) (m := 2 * n) (by omega)
          have al := h2.len
          have RC : Pl.Rl (row s : Nat → Fin p) (row l2) n s.length := by
            have := hc.rl hp (s := s) (N := s.length) (fun j h3 h4 => s2.nul j (by omega) h4)
            rwa [hl2, Nat.add_sub_cancel] at this
          have hLn : L ≤ n := S1 _ _ RC
          have RL : Pl.Rl (row long : Nat → Fin p) (row l2) n long.length := by
            have := hc.rl hp (s := long) (N := long.length) (fun j h3 h4 => g2.nul j (by omega) h4)
            rwa [hl2, Nat.add_sub_cancel] at this
          have same : ∀ i, i < s.length → (row s i : Fin p) = row long i := fun i hi => by
            refine go_unique (D := row l2) (n := n) (N := s.length) (hc.row0 hp) (fun j h3 h4 => s2.nul j (by omega) h4) (fun j h3 h4 => g2.nul j (by omega) (by omega)) (fun i hi => ?_) i hi
            rw [s2.row_eq (by omega), g2.row_eq (by omega)]
          have RD : Pl.Rl (row long : Nat → Fin p) (row d) L (2 * n) := by
            rw [← sl']
            exact R1.congr same
          have RD2 : Pl.Rl (row long : Nat → Fin p) (row d) L long.length := RL.grow RD hLn
          have SD : Pl.Lst (row long : Nat → Fin p) L (2 * n) := fun D l hD => S1 D l (by
            rw [sl']
            exact hD.congr fun i hi => (same i (by omega)).symm)
          have eq : long = also := by
            refine rows_eq g2.inr h2.inr (by omega) ?_
            refine go_unique (D := row d) (n := 2 * n) (N := long.length) (i1.row0 hp) (fun j h3 h4 => RD2.nul j (by omega) h4) (fun j h3 h4 => h2.nul j (by omega) (by omega)) (fun i hi => ?_)
            rw [← same i (by omega), h2.row_eq (by omega)]
          have hs := evSameT (l := long) (m := also) (by omega) eq
          have tA := tn_of (p := p) (c := l2) hl2
          have tB := tn_of (p := p) (c := d) q1
          have sA := top_of hp hc hl2
          have sB := top_of hp i1 q1
          have hB0 : (toP d.reverse : Pl p) ≠ 0 := fun e => by
            have := sB.1
            rw [e, Pl.sz_zero] at this
            omega
          have htop : Pl.top (toP d.reverse : Pl p) = 1 := by
            unfold Pl.top
            rw [sB.1, Nat.add_sub_cancel, sB.2]
          obtain ⟨q, r, k1, k2, k3⟩ := evDivL hp (A := toP l2.reverse) (B := toP d.reverse) (by rw [sA.1]; omega) (by rw [sB.1]; omega) hB0 ⟨1, by rw [htop]; grind⟩
          have hr0 : r = 0 := Pl.Rl.divides hf RL RD2 hLn SD (by omega) tA tB sB.1 (by rw [sA.1]; omega) k1 k2
          rw [hr0, toL_zero] at k3
          have hrev : In p l2.reverse := fun x hx => hc.inr x (List.mem_reverse.1 hx)
          have nrm := evNorm hp hrev (by rw [List.length_reverse]; omega)
          have pol := evPoly hp i1
          have trn := evTurned (l := l2) (by omega)
          have b1 : ¬ (d.length : Int) > (l2.length : Int) := by omega
          refine Ev.step (fun k => affidavitlaw04_SeriesFinds.j0.eq_2 ..) (Ev.iteF (by simp) ?_)
          rw [e3, e2, e0]
          refine Ev.bind s1 (Ev.bind r1 (Ev.bind g1 (Ev.bind h1 (Ev.iteT rfl (Ev.iteT rfl (Ev.iteT rfl (Ev.iteT rfl (Ev.iteF b1 (Ev.bind hs ?_)))))))))
          refine Ev.step (fun k => affidavitlaw04_SeriesFinds.j1.eq_2 ..) (Ev.iteF (by simp) (Ev.bind trn (Ev.bind nrm (Ev.bind pol (Ev.bind k3 (Ev.iteT rfl (Ev.iteT rfl (Ev.now _))))))))
        · have g0 : ((l1.length : Int) != wrap64 ((l2.length : Int) - 1)) = true := by
            rw [w64_in (by omega) (by omega)]
            simp only [bne_iff_ne]
            omega
          rw [g0]
          exact triv
end Go.Proofs.Ytffcjgelcdilcaa.Pure

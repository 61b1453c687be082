/- Contracts of functions of the given program: printed out of the translation by a program of this session, with texts by hand for what the print does not take. -/
import Derived.Test.YtffcjgelcdilcaaPSerx0
import Derived.Test.YtffcjgelcdilcaaPSerx6
import Derived.Test.YtffcjgelcdilcaaPSerx7
import Derived.Test.YtffcjgelcdilcaaPSerx8
import Derived.Test.YtffcjgelcdilcaaPSerx10
namespace Go.Proofs.Ytffcjgelcdilcaa.PSer
open Go.RowKit Go.Proofs.YtffcjgelcdilcaaW.PrintWords Go.Proofs.YtffcjgelcdilcaaW.PrintLast Go.Proofs.YtffcjgelcdilcaaW.PrintMore
attribute [local go_sem] max2_int min2_int max_two min_two max_three min_three max_four min_four   -- for this text's walks alone
set_option linter.unusedVariables false
set_option linter.unusedSimpArgs false

/-! ### affidavitlaw04_SeriesShortest: function 4 -/
def affidavitlaw04_SeriesShortest.j0 : Nat → Int → List Int → List Int → Bool → Option (Bool)
  | 0, _, _, _, _ => none
  | k + 1, x0, x1, x5, x53 => if x53 = true then (none) else ((affidavitlaw04_prime.f k x0).bind fun t268 => (if t268 = true then ((affidavitref04_Least.f k x0 x1).bind fun t269 => (some ((wrap64 ((x5.length : Int) - 1)) == t269))) else (some true)))
def affidavitlaw04_SeriesShortest.f (k : Nat) (a0 : Int) (l1 : List Int) : Option (Bool) := (affidavitlaw04_awake.f k).bind fun t259 => (if t259 = true then (if (l1.length : Int) > 24 then (some true) else ((series_Rule.f k a0 l1).bind fun bt260 => ((affidavitref01_Has.f k a0 l1).bind fun t264 => (if t264 = true then (if bt260.2 = 0 then ((affidavitref04_Right.f k a0 bt260.1).bind fun t266 => (if t266 = true then ((affidavitref04_Obeys.f k a0 l1 bt260.1).bind fun t267 => (affidavitlaw04_SeriesShortest.j0 k a0 l1 bt260.1 (!t267))) else (none))) else (if bt260.2 = 5 then (if (bt260.1.length : Int) = 0 then ((affidavitlaw04_prime.f k a0).bind fun t265 => (some (!t265))) else (none)) else (none))) else (if bt260.2 = 1 then (some ((bt260.1.length : Int) == 0)) else (none)))))) else (none))
theorem affidavitlaw04_SeriesShortest.mono_l : ∀ k, (∀ y0 y1 y2 y3, LeO (affidavitlaw04_SeriesShortest.j0 k y0 y1 y2 y3) (affidavitlaw04_SeriesShortest.j0 (k + 1) y0 y1 y2 y3))
  | 0 => fun _ _ _ _ r h => by simp [affidavitlaw04_SeriesShortest.j0] at h
  | k + 1 => by
    have ih0 := affidavitlaw04_SeriesShortest.mono_l k
    · intro y0 y1 y2 y3
      unfold affidavitlaw04_SeriesShortest.j0
      repeat' first
      | (with_reducible exact ih0 _ _ _ _)
      | (with_reducible exact affidavitlaw04_awake.mono _)
      | (with_reducible exact affidavitlaw04_prime.mono _ _)
      | (with_reducible exact affidavitref01_Has.mono _ _ _)
      | (with_reducible exact affidavitref04_Least.mono _ _ _)
      | (with_reducible exact affidavitref04_Obeys.mono _ _ _ _)
      | (with_reducible exact affidavitref04_Right.mono _ _ _)
      | (with_reducible exact series_Rule.mono _ _ _)
      | (with_reducible exact LeO.refl _)
      | (with_reducible exact LeO.none _)
      | (with_reducible refine LeO.ite ?_ ?_)
      | (with_reducible refine LeO.bind ?_ (fun _ => ?_))
      | exact ih0 _ _ _ _
      | exact affidavitlaw04_awake.mono _
      | exact affidavitlaw04_prime.mono _ _
      | exact affidavitref01_Has.mono _ _ _
      | exact affidavitref04_Least.mono _ _ _
      | exact affidavitref04_Obeys.mono _ _ _ _
      | exact affidavitref04_Right.mono _ _ _
      | exact series_Rule.mono _ _ _
      | exact LeO.none _
      | refine LeO.ite ?_ ?_
      | refine LeO.bind ?_ (fun _ => ?_)
theorem affidavitlaw04_SeriesShortest.mono : ∀ a0 a1 k, LeO (affidavitlaw04_SeriesShortest.f k a0 a1) (affidavitlaw04_SeriesShortest.f (k + 1) a0 a1) := by
  intro a0 a1 k
  have ih0 := affidavitlaw04_SeriesShortest.mono_l k
  unfold affidavitlaw04_SeriesShortest.f
  repeat' first
      | (with_reducible exact ih0 _ _ _ _)
      | (with_reducible exact affidavitlaw04_awake.mono _)
      | (with_reducible exact affidavitlaw04_prime.mono _ _)
      | (with_reducible exact affidavitref01_Has.mono _ _ _)
      | (with_reducible exact affidavitref04_Least.mono _ _ _)
      | (with_reducible exact affidavitref04_Obeys.mono _ _ _ _)
      | (with_reducible exact affidavitref04_Right.mono _ _ _)
      | (with_reducible exact series_Rule.mono _ _ _)
      | (with_reducible exact LeO.refl _)
      | (with_reducible exact LeO.none _)
      | (with_reducible refine LeO.ite ?_ ?_)
      | (with_reducible refine LeO.bind ?_ (fun _ => ?_))
      | exact ih0 _ _ _ _
      | exact affidavitlaw04_awake.mono _
      | exact affidavitlaw04_prime.mono _ _
      | exact affidavitref01_Has.mono _ _ _
      | exact affidavitref04_Least.mono _ _ _
      | exact affidavitref04_Obeys.mono _ _ _ _
      | exact affidavitref04_Right.mono _ _ _
      | exact series_Rule.mono _ _ _
      | exact LeO.none _
      | refine LeO.ite ?_ ?_
      | refine LeO.bind ?_ (fun _ => ?_)
set_option maxHeartbeats 8000000 in
set_option maxRecDepth 100000 in
theorem affidavitlaw04_SeriesShortest.calls (k : Nat) (a0 : Int) (A1 : Option Addr) (c1 : Nat) (l1 : List Int) (r : Bool) (w : World) (hr1 : Kd.C (Kd.int .u64) w A1 l1.length l1) (hc1 : l1.length ≤ c1) (h : affidavitlaw04_SeriesShortest.f k a0 l1 = some r) :
    Calls Try.prog 4 #[.int .u64 a0, .slice A1 l1.length c1] w fun e w' => e = .returned (.bool r) ∧ Below w.heap.size w w' := by
  have HR1 := Aside0.mk hr1
  have HC1 := Aside0.mk hc1
  clear hr1 hc1
  have HB := Aside0.mk (Below.refl w.heap.size w)
  have H : ((affidavitlaw04_awake.f k).bind fun t259 => (if t259 = true then (if (l1.length : Int) > 24 then (some true) else ((series_Rule.f k a0 l1).bind fun bt260 => ((affidavitref01_Has.f k a0 l1).bind fun t264 => (if t264 = true then (if bt260.2 = 0 then ((affidavitref04_Right.f k a0 bt260.1).bind fun t266 => (if t266 = true then ((affidavitref04_Obeys.f k a0 l1 bt260.1).bind fun t267 => (affidavitlaw04_SeriesShortest.j0 k a0 l1 bt260.1 (!t267))) else (none))) else (if bt260.2 = 5 then (if (bt260.1.length : Int) = 0 then ((affidavitlaw04_prime.f k a0).bind fun t265 => (some (!t265))) else (none)) else (none))) else (if bt260.2 = 1 then (some ((bt260.1.length : Int) == 0)) else (none)))))) else (none))) = some r := h
  clear h
  replace H := Option.bind_eq_some_iff.mp H
  obtain ⟨t259, A30, H⟩ := H
  replace H : (if t259 = true then (if (l1.length : Int) > 24 then (some true) else ((series_Rule.f k a0 l1).bind fun bt260 => ((affidavitref01_Has.f k a0 l1).bind fun t264 => (if t264 = true then (if bt260.2 = 0 then ((affidavitref04_Right.f k a0 bt260.1).bind fun t266 => (if t266 = true then ((affidavitref04_Obeys.f k a0 l1 bt260.1).bind fun t267 => (affidavitlaw04_SeriesShortest.j0 k a0 l1 bt260.1 (!t267))) else (none))) else (if bt260.2 = 5 then (if (bt260.1.length : Int) = 0 then ((affidavitlaw04_prime.f k a0).bind fun t265 => (some (!t265))) else (none)) else (none))) else (if bt260.2 = 1 then (some ((bt260.1.length : Int) == 0)) else (none)))))) else (none)) = some r := H
  have A3 := Aside0.mk A30
  clear A30
  by_cases c4 : t259 = true
  · subst c4
    have H1 : (if (l1.length : Int) > 24 then (some true) else ((series_Rule.f k a0 l1).bind fun bt260 => ((affidavitref01_Has.f k a0 l1).bind fun t264 => (if t264 = true then (if bt260.2 = 0 then ((affidavitref04_Right.f k a0 bt260.1).bind fun t266 => (if t266 = true then ((affidavitref04_Obeys.f k a0 l1 bt260.1).bind fun t267 => (affidavitlaw04_SeriesShortest.j0 k a0 l1 bt260.1 (!t267))) else (none))) else (if bt260.2 = 5 then (if (bt260.1.length : Int) = 0 then ((affidavitlaw04_prime.f k a0).bind fun t265 => (some (!t265))) else (none)) else (none))) else (if bt260.2 = 1 then (some ((bt260.1.length : Int) == 0)) else (none)))))) = some r := by rw [if_pos rfl] at H; exact H
    clear H
    have H := H1
    clear H1
    by_cases c5 : (l1.length : Int) > 24
    · rw [if_pos c5] at H
      have c5b0 : decide (24 < (l1.length : Int)) = true := decide_eq_true c5
      have c5b1 : decide (24 < l1.length) = true := decide_eq_true (by omega)
      clear c5
      obtain rfl := Option.some.inj H
      go_enter Try.func4, Try.ntmps4
      go_wp2_with (first | ((with_reducible refine gate_callee (f := 14) rfl ?_); refine goesL_ (some 7) rfl rfl Try.func14 (by kernel_rfl) rfl #[] rfl (by (try simp only [List.map_toArray, List.map_cons, List.map_nil]); first | done | rfl | (simp only [List.length_drop, List.length_take]; rfl)) ?_; (with_reducible refine (affidavitlaw04_awake.calls k  true _ A3.out).mono ?_); rintro e w6 ⟨rfl, hb⟩; refine ⟨_, rfl, ?_⟩; have n0_ := Aside0.mk (below_step (by repeat (first | (with_reducible first | exact HB.out | apply below_alloc | apply pw_below_drewN | apply below_drew1) | exact HB.out)) hb); clear HB; have HB := n0_; clear n0_; (try clear hb); (try clear hb2); (try clear hk); (try clear hi)))
      go_ret
      exact ⟨by first | rfl | (simp [errW_none, errW_some] <;> rfl) | (simp [*, errW_none, errW_some] <;> rfl), by repeat (first | (with_reducible first | exact HB.out | apply below_alloc | apply pw_below_drewN | apply below_drew1) | exact HB.out)⟩
    · rw [if_neg c5] at H
      have c5b0 : decide (24 < (l1.length : Int)) = false := decide_eq_false c5
      have c5b1 : decide (24 < l1.length) = false := decide_eq_false (by omega)
      clear c5
      replace H := Option.bind_eq_some_iff.mp H
      obtain ⟨⟨t260, t263⟩, A70, H⟩ := H
      replace H : ((affidavitref01_Has.f k a0 l1).bind fun t264 => (if t264 = true then (if t263 = 0 then ((affidavitref04_Right.f k a0 t260).bind fun t266 => (if t266 = true then ((affidavitref04_Obeys.f k a0 l1 t260).bind fun t267 => (affidavitlaw04_SeriesShortest.j0 k a0 l1 t260 (!t267))) else (none))) else (if t263 = 5 then (if (t260.length : Int) = 0 then ((affidavitlaw04_prime.f k a0).bind fun t265 => (some (!t265))) else (none)) else (none))) else (if t263 = 1 then (some ((t260.length : Int) == 0)) else (none)))) = some r := H
      have A7 := Aside0.mk A70
      clear A70
      replace H := Option.bind_eq_some_iff.mp H
      obtain ⟨t264, A80, H⟩ := H
      replace H : (if t264 = true then (if t263 = 0 then ((affidavitref04_Right.f k a0 t260).bind fun t266 => (if t266 = true then ((affidavitref04_Obeys.f k a0 l1 t260).bind fun t267 => (affidavitlaw04_SeriesShortest.j0 k a0 l1 t260 (!t267))) else (none))) else (if t263 = 5 then (if (t260.length : Int) = 0 then ((affidavitlaw04_prime.f k a0).bind fun t265 => (some (!t265))) else (none)) else (none))) else (if t263 = 1 then (some ((t260.length : Int) == 0)) else (none))) = some r := H
      have A8 := Aside0.mk A80
      clear A80
      by_cases c9 : t264 = true
      · subst c9
        have H1 : (if t263 = 0 then ((affidavitref04_Right.f k a0 t260).bind fun t266 => (if t266 = true then ((affidavitref04_Obeys.f k a0 l1 t260).bind fun t267 => (affidavitlaw04_SeriesShortest.j0 k a0 l1 t260 (!t267))) else (none))) else (if t263 = 5 then (if (t260.length : Int) = 0 then ((affidavitlaw04_prime.f k a0).bind fun t265 => (some (!t265))) else (none)) else (none))) = some r := by rw [if_pos rfl] at H; exact H
        clear H
        have H := H1
        clear H1
        by_cases c10 : t263 = 0
        · rw [if_pos c10] at H
          have c10b0 : (t263 == 0) = true := beq_iff_eq.mpr c10
          have c10b1 : (t263 != 0) = false := bne_eq_false_iff_eq.mpr c10
          clear c10
          have HC11 := Aside0.mk H
          clear H
          go_enter Try.func4, Try.ntmps4
          go_upto_region 10 with (first | ((with_reducible refine gate_callee (f := 14) rfl ?_); refine goesL_ (some 7) rfl rfl Try.func14 (by kernel_rfl) rfl #[] rfl (by (try simp only [List.map_toArray, List.map_cons, List.map_nil]); first | done | rfl | (simp only [List.length_drop, List.length_take]; rfl)) ?_; (with_reducible refine (affidavitlaw04_awake.calls k  true _ A3.out).mono ?_); rintro e w12 ⟨rfl, hb⟩; refine ⟨_, rfl, ?_⟩; have n0_ := Aside0.mk (below_step (by repeat (first | (with_reducible first | exact HB.out | apply below_alloc | apply pw_below_drewN | apply below_drew1) | exact HB.out)) hb); clear HB; have HB := n0_; clear n0_; (try clear hb); (try clear hb2); (try clear hk); (try clear hi)) | ((with_reducible refine gate_callee (f := 25) rfl ?_); refine goesL_ (some 15) rfl rfl Try.func25 (by kernel_rfl) rfl #[.int .u64 a0, .slice A1 l1.length c1] rfl (by (try simp only [List.map_toArray, List.map_cons, List.map_nil]); first | done | rfl | (simp only [List.length_drop, List.length_take]; rfl)) ?_; (with_reducible refine (series_Rule.calls k a0 _ _ l1 t260 t263 _ ?side1 ?side2 A7.out).mono ?_); (case side1 => repeat (first | exact (Kd.C_below HR1.out HB.out) | (with_reducible refine Kd.C_alloc ?_ _) | (with_reducible refine Kd.C_drewN ?_ _) | (with_reducible refine Kd.C_drew ?_))); (case side2 => exact HC1.out); rintro e w13 ⟨v261, rfl, ho0, hb⟩; refine ⟨_, rfl, ?_⟩; have n0_ := Aside0.mk (Kd.V_lower (Kd.V_mono (ok' := fun k_ => True) ho0 (fun k_ hk_ => trivial)) (below_size (by repeat (first | (with_reducible first | exact HB.out | apply below_alloc | apply pw_below_drewN | apply below_drew1) | exact HB.out)))); have n1_ := Aside0.mk (below_step (by repeat (first | (with_reducible first | exact HB.out | apply below_alloc | apply pw_below_drewN | apply below_drew1) | exact HB.out)) hb); clear HB; have HO262 := n0_; have HB := n1_; clear n0_ n1_; (try clear hb); (try clear hb2); (try clear hk); (try clear hi); (try clear ho0)) | ((with_reducible refine gate_callee (f := 23) rfl ?_); refine goesL_ (some 20) rfl rfl Try.func23 (by kernel_rfl) rfl #[.int .u64 a0, .slice A1 l1.length c1] rfl (by (try simp only [List.map_toArray, List.map_cons, List.map_nil]); first | done | rfl | (simp only [List.length_drop, List.length_take]; rfl)) ?_; (with_reducible refine (affidavitref01_Has.calls k a0 _ _ l1 true _ ?side1 ?side2 A8.out).mono ?_); (case side1 => repeat (first | exact (Kd.C_below HR1.out HB.out) | (with_reducible refine Kd.C_alloc ?_ _) | (with_reducible refine Kd.C_drewN ?_ _) | (with_reducible refine Kd.C_drew ?_))); (case side2 => exact HC1.out); rintro e w' ⟨rfl, ⟨nd, rfl⟩⟩; refine ⟨_, rfl, ?_⟩))
          (try simp only [Act.put, List.setIfInBounds_toArray, List.set_cons_zero, List.set_cons_succ])
          go_cut [53] (fun v53 wc => ∃ (kq : Nat) (x53_10 : Bool), v53 = .bool x53_10 ∧ Aside0 (affidavitlaw04_SeriesShortest.j0 kq a0 l1 t260 x53_10 = some r) ∧ Aside0 (kq ≤ k) ∧ Aside0 (Kd.V (Kd.int .u64) 22 wc w.heap.size (fun _ => True) v261 t260) ∧ Aside0 (Below w.heap.size w wc))
          case first =>
            have H := HC11.out
            clear HC11
            replace H := Option.bind_eq_some_iff.mp H
            obtain ⟨t266, A140, H⟩ := H
            replace H : (if t266 = true then ((affidavitref04_Obeys.f k a0 l1 t260).bind fun t267 => (affidavitlaw04_SeriesShortest.j0 k a0 l1 t260 (!t267))) else (none)) = some r := H
            have A14 := Aside0.mk A140
            clear A140
            by_cases c15 : t266 = true
            · subst c15
              have H1 : ((affidavitref04_Obeys.f k a0 l1 t260).bind fun t267 => (affidavitlaw04_SeriesShortest.j0 k a0 l1 t260 (!t267))) = some r := by rw [if_pos rfl] at H; exact H
              clear H
              have H := H1
              clear H1
              replace H := Option.bind_eq_some_iff.mp H
              obtain ⟨t267, A160, H⟩ := H
              replace H : (affidavitlaw04_SeriesShortest.j0 k a0 l1 t260 (!t267)) = some r := H
              have A16 := Aside0.mk A160
              clear A160
              have H' := Aside0.mk H
              clear H
              obtain ⟨Ao17, co17, eo17⟩ := Kd.V_slice HO262.out
              subst eo17
              go_wp2_with (first | ((with_reducible refine gate_callee (f := 15) rfl ?_); refine goesL_ (some 45) rfl rfl Try.func15 (by kernel_rfl) rfl #[.int .u64 a0, .slice Ao17 t260.length co17] rfl (by (try simp only [List.map_toArray, List.map_cons, List.map_nil]); first | done | rfl | (simp only [List.length_drop, List.length_take]; rfl)) ?_; (with_reducible refine (affidavitref04_Right.calls k a0 _ _ t260 true _ ?side1 ?side2 A14.out).mono ?_); (case side1 => repeat (first | exact (Kd.V_reads' HO262.out).2.2 | (with_reducible refine Kd.C_alloc ?_ _) | (with_reducible refine Kd.C_drewN ?_ _) | (with_reducible refine Kd.C_drew ?_))); (case side2 => exact (Kd.V_reads' HO262.out).2.1); rintro e w' ⟨rfl, ⟨nd, rfl⟩⟩; refine ⟨_, rfl, ?_⟩) | (go_at_call 20; (with_reducible refine (affidavitref04_Obeys.calls k a0 _ _ l1 _ _ t260 t267 _ ?side1 ?side2 ?side3 ?side4 A16.out).mono ?_); (case side1 => repeat (first | exact (Kd.C_below HR1.out (by repeat (first | (with_reducible first | exact HB.out | apply below_alloc | apply pw_below_drewN | apply below_drew1) | exact HB.out))) | (with_reducible refine Kd.C_alloc ?_ _) | (with_reducible refine Kd.C_drewN ?_ _) | (with_reducible refine Kd.C_drew ?_))); (case side2 => exact HC1.out); (case side3 => repeat (first | exact (Kd.V_reads' HO262.out).2.2 | (with_reducible refine Kd.C_alloc ?_ _) | (with_reducible refine Kd.C_drewN ?_ _) | (with_reducible refine Kd.C_drew ?_))); (case side4 => exact (Kd.V_reads' HO262.out).2.1); rintro e w' ⟨rfl, ⟨nd, rfl⟩⟩))
              go_meet
              case rel => exact ⟨_, (!t267), (by first | rfl | (simp; done) | (simp [*]; done)), H', ⟨by first | omega | exact Nat.le_refl _⟩, ⟨by (with_reducible repeat (first | apply Kd.V_alloc | apply Kd.V_drewN | apply Kd.V_drew)); exact HO262.out⟩, ⟨by repeat (first | (with_reducible first | exact HB.out | apply below_alloc | apply pw_below_drewN | apply below_drew1) | exact HB.out)⟩⟩
            · replace c15 := Bool.eq_false_iff.mpr c15
              subst c15
              have H1 : (none) = some r := by rw [if_neg (show ¬ (false = true) by decide)] at H; exact H
              clear H
              have H := H1
              clear H1
              exact absurd H (by simp)
          case rest =>
            clear HC11
            try clear c1
            try clear c2
            try clear p2
            try clear c4
            try clear c5
            try clear c5b0
            try clear c5b1
            try clear c9
            try clear c10
            try clear c10b0
            try clear c10b1
            try clear c14
            try clear c15
            obtain ⟨kq, x53_10, rfl, HA, HJ10, HO_5, HB⟩ := hcut
            cases kq with
            | zero => exact absurd HA.out (by simp [affidavitlaw04_SeriesShortest.j0])
            | succ kj10 =>
              have H := HA.out
              clear HA
              simp only [affidavitlaw04_SeriesShortest.j0] at H
              by_cases c18 : x53_10 = true
              · subst c18
                have H1 : (none) = some r := by rw [if_pos rfl] at H; exact H
                clear H
                have H := H1
                clear H1
                exact absurd H (by simp)
              · replace c18 := Bool.eq_false_iff.mpr c18
                subst c18
                have H1 : ((affidavitlaw04_prime.f kj10 a0).bind fun t268 => (if t268 = true then ((affidavitref04_Least.f kj10 a0 l1).bind fun t269 => (some ((wrap64 ((t260.length : Int) - 1)) == t269))) else (some true))) = some r := by rw [if_neg (show ¬ (false = true) by decide)] at H; exact H
                clear H
                have H := H1
                clear H1
                replace H := Option.bind_eq_some_iff.mp H
                obtain ⟨t268, A190, H⟩ := H
                replace H : (if t268 = true then ((affidavitref04_Least.f kj10 a0 l1).bind fun t269 => (some ((wrap64 ((t260.length : Int) - 1)) == t269))) else (some true)) = some r := H
                have A19 := Aside0.mk A190
                clear A190
                by_cases c20 : t268 = true
                · subst c20
                  have H1 : ((affidavitref04_Least.f kj10 a0 l1).bind fun t269 => (some ((wrap64 ((t260.length : Int) - 1)) == t269))) = some r := by rw [if_pos rfl] at H; exact H
                  clear H
                  have H := H1
                  clear H1
                  replace H := Option.bind_eq_some_iff.mp H
                  obtain ⟨t269, A210, H⟩ := H
                  replace H : (some ((wrap64 ((t260.length : Int) - 1)) == t269)) = some r := H
                  have A21 := Aside0.mk A210
                  clear A210
                  obtain rfl := Option.some.inj H
                  go_wp2_with (first | ((with_reducible refine gate_callee (f := 26) rfl ?_); refine goesL_ (some 55) rfl rfl Try.func26 (by kernel_rfl) rfl #[.int .u64 a0] rfl (by (try simp only [List.map_toArray, List.map_cons, List.map_nil]); first | done | rfl | (simp only [List.length_drop, List.length_take]; rfl)) ?_; (with_reducible refine (affidavitlaw04_prime.calls kj10 a0 true _ A19.out).mono ?_); rintro e w' ⟨rfl, ⟨nd, rfl⟩⟩; refine ⟨_, rfl, ?_⟩; obtain ⟨Ao22, co22, eo22⟩ := Kd.V_slice HO_5.out; subst eo22) | (go_at_call 27; (with_reducible refine (affidavitref04_Least.calls kj10 a0 _ _ l1 t269 _ ?side1 ?side2 A21.out).mono ?_); (case side1 => repeat (first | exact (Kd.C_below HR1.out (by repeat (first | (with_reducible first | exact HB.out | apply below_alloc | apply pw_below_drewN | apply below_drew1) | exact HB.out))) | (with_reducible refine Kd.C_alloc ?_ _) | (with_reducible refine Kd.C_drewN ?_ _) | (with_reducible refine Kd.C_drew ?_))); (case side2 => exact HC1.out); rintro e w23 ⟨rfl, hb⟩; have n0_ := Aside0.mk (Kd.V_below (by (with_reducible repeat (first | apply Kd.V_alloc | apply Kd.V_drewN | apply Kd.V_drew)); exact HO_5.out) hb); have n1_ := Aside0.mk (below_step (by repeat (first | (with_reducible first | exact HB.out | apply below_alloc | apply pw_below_drewN | apply below_drew1) | exact HB.out)) hb); clear HO_5; clear HB; have HO_5 := n0_; have HB := n1_; clear n0_ n1_; (try clear hb); (try clear hb2); (try clear hk); (try clear hi)))
                  go_ret
                  exact ⟨by first | rfl | (simp [errW_none, errW_some] <;> rfl) | (simp [*, errW_none, errW_some] <;> rfl), by repeat (first | (with_reducible first | exact HB.out | apply below_alloc | apply pw_below_drewN | apply below_drew1) | exact HB.out)⟩
                · replace c20 := Bool.eq_false_iff.mpr c20
                  subst c20
                  have H1 : (some true) = some r := by rw [if_neg (show ¬ (false = true) by decide)] at H; exact H
                  clear H
                  have H := H1
                  clear H1
                  obtain rfl := Option.some.inj H
                  go_wp2_with (first | ((with_reducible refine gate_callee (f := 26) rfl ?_); refine goesL_ (some 55) rfl rfl Try.func26 (by kernel_rfl) rfl #[.int .u64 a0] rfl (by (try simp only [List.map_toArray, List.map_cons, List.map_nil]); first | done | rfl | (simp only [List.length_drop, List.length_take]; rfl)) ?_; (with_reducible refine (affidavitlaw04_prime.calls kj10 a0 false _ A19.out).mono ?_); rintro e w' ⟨rfl, ⟨nd, rfl⟩⟩; refine ⟨_, rfl, ?_⟩))
                  go_ret
                  exact ⟨by first | rfl | (simp [errW_none, errW_some] <;> rfl) | (simp [*, errW_none, errW_some] <;> rfl), by repeat (first | (with_reducible first | exact HB.out | apply below_alloc | apply pw_below_drewN | apply below_drew1) | exact HB.out)⟩
        · rw [if_neg c10] at H
          have c10b0 : (t263 == 0) = false := beq_eq_false_iff_ne.mpr c10
          have c10b1 : (t263 != 0) = true := bne_iff_ne.mpr c10
          by_cases c24 : t263 = 5
          · rw [if_pos c24] at H
            have c24b0 : (t263 == 5) = true := beq_iff_eq.mpr c24
            have c24b1 : (t263 != 5) = false := bne_eq_false_iff_eq.mpr c24
            clear c24
            by_cases c25 : (t260.length : Int) = 0
            · rw [if_pos c25] at H
              have c25b0 : ((t260.length : Int) == 0) = true := beq_iff_eq.mpr c25
              have c25b1 : ((t260.length : Int) != 0) = false := bne_eq_false_iff_eq.mpr c25
              clear c25
              replace H := Option.bind_eq_some_iff.mp H
              obtain ⟨t265, A260, H⟩ := H
              replace H : (some (!t265)) = some r := H
              have A26 := Aside0.mk A260
              clear A260
              obtain rfl := Option.some.inj H
              go_enter Try.func4, Try.ntmps4
              go_wp2_with (first | ((with_reducible refine gate_callee (f := 14) rfl ?_); refine goesL_ (some 7) rfl rfl Try.func14 (by kernel_rfl) rfl #[] rfl (by (try simp only [List.map_toArray, List.map_cons, List.map_nil]); first | done | rfl | (simp only [List.length_drop, List.length_take]; rfl)) ?_; (with_reducible refine (affidavitlaw04_awake.calls k  true _ A3.out).mono ?_); rintro e w27 ⟨rfl, hb⟩; refine ⟨_, rfl, ?_⟩; have n0_ := Aside0.mk (below_step (by repeat (first | (with_reducible first | exact HB.out | apply below_alloc | apply pw_below_drewN | apply below_drew1) | exact HB.out)) hb); clear HB; have HB := n0_; clear n0_; (try clear hb); (try clear hb2); (try clear hk); (try clear hi)) | ((with_reducible refine gate_callee (f := 25) rfl ?_); refine goesL_ (some 15) rfl rfl Try.func25 (by kernel_rfl) rfl #[.int .u64 a0, .slice A1 l1.length c1] rfl (by (try simp only [List.map_toArray, List.map_cons, List.map_nil]); first | done | rfl | (simp only [List.length_drop, List.length_take]; rfl)) ?_; (with_reducible refine (series_Rule.calls k a0 _ _ l1 t260 t263 _ ?side1 ?side2 A7.out).mono ?_); (case side1 => repeat (first | exact (Kd.C_below HR1.out HB.out) | (with_reducible refine Kd.C_alloc ?_ _) | (with_reducible refine Kd.C_drewN ?_ _) | (with_reducible refine Kd.C_drew ?_))); (case side2 => exact HC1.out); rintro e w28 ⟨v261, rfl, ho0, hb⟩; refine ⟨_, rfl, ?_⟩; have n0_ := Aside0.mk (Kd.V_lower (Kd.V_mono (ok' := fun k_ => True) ho0 (fun k_ hk_ => trivial)) (below_size (by repeat (first | (with_reducible first | exact HB.out | apply below_alloc | apply pw_below_drewN | apply below_drew1) | exact HB.out)))); have n1_ := Aside0.mk (below_step (by repeat (first | (with_reducible first | exact HB.out | apply below_alloc | apply pw_below_drewN | apply below_drew1) | exact HB.out)) hb); clear HB; have HO262 := n0_; have HB := n1_; clear n0_ n1_; (try clear hb); (try clear hb2); (try clear hk); (try clear hi); (try clear ho0)) | ((with_reducible refine gate_callee (f := 23) rfl ?_); refine goesL_ (some 20) rfl rfl Try.func23 (by kernel_rfl) rfl #[.int .u64 a0, .slice A1 l1.length c1] rfl (by (try simp only [List.map_toArray, List.map_cons, List.map_nil]); first | done | rfl | (simp only [List.length_drop, List.length_take]; rfl)) ?_; (with_reducible refine (affidavitref01_Has.calls k a0 _ _ l1 true _ ?side1 ?side2 A8.out).mono ?_); (case side1 => repeat (first | exact (Kd.C_below HR1.out HB.out) | (with_reducible refine Kd.C_alloc ?_ _) | (with_reducible refine Kd.C_drewN ?_ _) | (with_reducible refine Kd.C_drew ?_))); (case side2 => exact HC1.out); rintro e w' ⟨rfl, ⟨nd, rfl⟩⟩; refine ⟨_, rfl, ?_⟩; obtain ⟨Ao29, co29, eo29⟩ := Kd.V_slice HO262.out; subst eo29) | (go_at_call 26; (with_reducible refine (affidavitlaw04_prime.calls k a0 t265 _ A26.out).mono ?_); rintro e w' ⟨rfl, ⟨nd, rfl⟩⟩))
              go_ret
              exact ⟨by first | rfl | (simp [errW_none, errW_some] <;> rfl) | (simp [*, errW_none, errW_some] <;> rfl), by repeat (first | (with_reducible first | exact HB.out | apply below_alloc | apply pw_below_drewN | apply below_drew1) | exact HB.out)⟩
            · rw [if_neg c25] at H
              exact absurd H (by simp)
          · rw [if_neg c24] at H
            exact absurd H (by simp)
      · replace c9 := Bool.eq_false_iff.mpr c9
        subst c9
        have H1 : (if t263 = 1 then (some ((t260.length : Int) == 0)) else (none)) = some r := by rw [if_neg (show ¬ (false = true) by decide)] at H; exact H
        clear H
        have H := H1
        clear H1
        by_cases c30 : t263 = 1
        · rw [if_pos c30] at H
          have c30b0 : (t263 == 1) = true := beq_iff_eq.mpr c30
          have c30b1 : (t263 != 1) = false := bne_eq_false_iff_eq.mpr c30
          clear c30
          obtain rfl := Option.some.inj H
          go_enter Try.func4, Try.ntmps4
          go_wp2_with (first | ((with_reducible refine gate_callee (f := 14) rfl ?_); refine goesL_ (some 7) rfl rfl Try.func14 (by kernel_rfl) rfl #[] rfl (by (try simp only [List.map_toArray, List.map_cons, List.map_nil]); first | done | rfl | (simp only [List.length_drop, List.length_take]; rfl)) ?_; (with_reducible refine (affidavitlaw04_awake.calls k  true _ A3.out).mono ?_); rintro e w31 ⟨rfl, hb⟩; refine ⟨_, rfl, ?_⟩; have n0_ := Aside0.mk (below_step (by repeat (first | (with_reducible first | exact HB.out | apply below_alloc | apply pw_below_drewN | apply below_drew1) | exact HB.out)) hb); clear HB; have HB := n0_; clear n0_; (try clear hb); (try clear hb2); (try clear hk); (try clear hi)) | ((with_reducible refine gate_callee (f := 25) rfl ?_); refine goesL_ (some 15) rfl rfl Try.func25 (by kernel_rfl) rfl #[.int .u64 a0, .slice A1 l1.length c1] rfl (by (try simp only [List.map_toArray, List.map_cons, List.map_nil]); first | done | rfl | (simp only [List.length_drop, List.length_take]; rfl)) ?_; (with_reducible refine (series_Rule.calls k a0 _ _ l1 t260 t263 _ ?side1 ?side2 A7.out).mono ?_); (case side1 => repeat (first | exact (Kd.C_below HR1.out HB.out) | (with_reducible refine Kd.C_alloc ?_ _) | (with_reducible refine Kd.C_drewN ?_ _) | (with_reducible refine Kd.C_drew ?_))); (case side2 => exact HC1.out); rintro e w32 ⟨v261, rfl, ho0, hb⟩; refine ⟨_, rfl, ?_⟩; have n0_ := Aside0.mk (Kd.V_lower (Kd.V_mono (ok' := fun k_ => True) ho0 (fun k_ hk_ => trivial)) (below_size (by repeat (first | (with_reducible first | exact HB.out | apply below_alloc | apply pw_below_drewN | apply below_drew1) | exact HB.out)))); have n1_ := Aside0.mk (below_step (by repeat (first | (with_reducible first | exact HB.out | apply below_alloc | apply pw_below_drewN | apply below_drew1) | exact HB.out)) hb); clear HB; have HO262 := n0_; have HB := n1_; clear n0_ n1_; (try clear hb); (try clear hb2); (try clear hk); (try clear hi); (try clear ho0)) | ((with_reducible refine gate_callee (f := 23) rfl ?_); refine goesL_ (some 20) rfl rfl Try.func23 (by kernel_rfl) rfl #[.int .u64 a0, .slice A1 l1.length c1] rfl (by (try simp only [List.map_toArray, List.map_cons, List.map_nil]); first | done | rfl | (simp only [List.length_drop, List.length_take]; rfl)) ?_; (with_reducible refine (affidavitref01_Has.calls k a0 _ _ l1 false _ ?side1 ?side2 A8.out).mono ?_); (case side1 => repeat (first | exact (Kd.C_below HR1.out HB.out) | (with_reducible refine Kd.C_alloc ?_ _) | (with_reducible refine Kd.C_drewN ?_ _) | (with_reducible refine Kd.C_drew ?_))); (case side2 => exact HC1.out); rintro e w' ⟨rfl, ⟨nd, rfl⟩⟩; refine ⟨_, rfl, ?_⟩; obtain ⟨Ao33, co33, eo33⟩ := Kd.V_slice HO262.out; subst eo33))
          go_ret
          exact ⟨by first | rfl | (simp [errW_none, errW_some] <;> rfl) | (simp [*, errW_none, errW_some] <;> rfl), by repeat (first | (with_reducible first | exact HB.out | apply below_alloc | apply pw_below_drewN | apply below_drew1) | exact HB.out)⟩
        · rw [if_neg c30] at H
          exact absurd H (by simp)
  · replace c4 := Bool.eq_false_iff.mpr c4
    subst c4
    have H1 : (none) = some r := by rw [if_neg (show ¬ (false = true) by decide)] at H; exact H
    clear H
    have H := H1
    clear H1
    exact absurd H (by simp)

/-- THE ONE PURE STATEMENT of affidavitlaw04_SeriesShortest: yours. -/
def affidavitlaw04_SeriesShortest.Pure : Prop := ∀ (a0 : Int) (l1 : List Int), (Lit.int .u64 a0).wf = true → l1.length ≤ maxLen → l1.length * 8 ≤ 140737488351232 → (∀ x ∈ l1, (Lit.int .u64 x).wf = true) → ∃ k, affidavitlaw04_SeriesShortest.f k a0 l1 = some true
theorem affidavitlaw04_SeriesShortest.walk (P : affidavitlaw04_SeriesShortest.Pure) (a0 : Int) (a1 : Option Addr) (len1 cap1 : Nat) (z1 : List Int) (w : World) (w0 : (Lit.int .u64 a0).wf = true) (w1 : (a1 = none ∧ len1 = 0 ∧ cap1 = 0 ∧ z1 = []) ∨ ∃ x, a1 = some x ∧ len1 ≤ cap1 ∧ cap1 ≤ maxLen ∧ z1.length = cap1 ∧ (∀ i, i < z1.length → w.cell? (x.add i) = some (.int .u64 (z1.getD i 0))) ∧ ∀ n ∈ z1, (Lit.int .u64 n).wf = true) (y1 : len1 * 8 ≤ 140737488351232) :
    Calls Try.prog 4 #[.int .u64 a0, .slice a1 len1 cap1] w fun e w' => e = .returned (.bool true) ∧ Below w.heap.size w w' := by
  obtain ⟨l1, rfl, hr1, hm1, hw1, hc1⟩ := ReadsInt.ofRowC w1
  obtain ⟨k, h⟩ := P a0 l1 w0 hm1 y1 hw1
  refine (affidavitlaw04_SeriesShortest.calls k a0 _ _ l1 true w (Kd.C_of_reads (d := (0 : Int)) (h1 := fun _ => rfl) hr1) hc1 h).mono ?_
  rintro e w' ⟨rfl, hd⟩
  exact ⟨rfl, hd⟩

end Go.Proofs.Ytffcjgelcdilcaa.PSer

/- Contracts of functions of the given program: printed out of the translation by a program of this session, with texts by hand for what the print does not take. -/
import Derived.Test.YtffcjgelcdilcaaPSerx0
import Derived.Test.YtffcjgelcdilcaaPSerx1
import Derived.Test.YtffcjgelcdilcaaPSerx3
import Derived.Test.YtffcjgelcdilcaaPSerx4
import Derived.Test.YtffcjgelcdilcaaPSerx5
import Derived.Test.YtffcjgelcdilcaaPSerx6
import Derived.Test.YtffcjgelcdilcaaPSerx7
import Derived.Test.YtffcjgelcdilcaaPSerx8
import Derived.Test.YtffcjgelcdilcaaPSerx10
import Derived.Test.YtffcjgelcdilcaaPSerx14
namespace Go.Proofs.Ytffcjgelcdilcaa.PSer
open Go.RowKit Go.Proofs.YtffcjgelcdilcaaW.PrintWords Go.Proofs.YtffcjgelcdilcaaW.PrintLast Go.Proofs.YtffcjgelcdilcaaW.PrintMore
attribute [local go_sem] max2_int min2_int max_two min_two max_three min_three max_four min_four   -- for this text's walks alone
set_option linter.unusedVariables false
set_option linter.unusedSimpArgs false

/-! ### affidavitlaw04_SeriesFinds: function 7 -/
mutual
def affidavitlaw04_SeriesFinds.j0 : Nat → Int → List Int → List Int → Bool → Option (Bool)
  | 0, _, _, _, _ => none
  | k + 1, x0, x1, x2, x52 => if x52 = true then (some true) else ((series_On.f k x0 x1 x2 (x1.length : Int)).bind fun bt450 => ((series_Rule.f k x0 bt450.1).bind fun bt454 => ((series_On.f k x0 x1 x2 (wrap64 (3 * (x1.length : Int)))).bind fun bt458 => ((series_On.f k x0 bt450.1 bt454.1 (wrap64 (2 * (x1.length : Int)))).bind fun bt462 => (if bt450.2 = 0 then (if bt454.2 = 0 then (if bt458.2 = 0 then (if bt462.2 = 0 then (if (bt454.1.length : Int) > (x2.length : Int) then (none) else ((affidavitref01_Same.f k bt458.1 bt462.1).bind fun t466 => (affidavitlaw04_SeriesFinds.j1 k x0 x2 bt454.1 (!t466)))) else (none)) else (none)) else (none)) else (none))))))
def affidavitlaw04_SeriesFinds.j1 : Nat → Int → List Int → List Int → Bool → Option (Bool)
  | 0, _, _, _, _ => none
  | k + 1, x0, x2, x10, x113 => if x113 = true then (none) else ((affidavitref04_Turned.f k x2).bind fun t467 => ((poly_Norm.f k x0 t467).bind fun bt470 => ((series_Poly.f k x0 x10).bind fun bt474 => ((poly_Div.f k x0 bt470.1 bt474.1).bind fun bt478 => (if bt474.2 = 0 then (if bt478.2.2 = 0 then (some ((bt478.2.1.length : Int) == 0)) else (none)) else (none))))))
end
def affidavitlaw04_SeriesFinds.f (k : Nat) (a0 : Int) (l1 : List Int) (l2 : List Int) : Option (Bool) := (affidavitlaw04_awake.f k).bind fun t446 => (if t446 = true then ((affidavitlaw04_prime.f k a0).bind fun t447 => (if t447 = true then ((series_Right.f k a0 l2).bind fun t448 => (if t448 = true then ((field_Has.f k a0 l1).bind fun t449 => (if t449 = true then (if (l2.length : Int) > 13 then (affidavitlaw04_SeriesFinds.j0 k a0 l1 l2 true) else (affidavitlaw04_SeriesFinds.j0 k a0 l1 l2 ((l1.length : Int) != (wrap64 ((l2.length : Int) - 1))))) else (affidavitlaw04_SeriesFinds.j0 k a0 l1 l2 true))) else (affidavitlaw04_SeriesFinds.j0 k a0 l1 l2 true))) else (affidavitlaw04_SeriesFinds.j0 k a0 l1 l2 true))) else (none))
theorem affidavitlaw04_SeriesFinds.mono_l : ∀ k, (∀ y0 y1 y2 y3, LeO (affidavitlaw04_SeriesFinds.j0 k y0 y1 y2 y3) (affidavitlaw04_SeriesFinds.j0 (k + 1) y0 y1 y2 y3)) ∧ (∀ y0 y1 y2 y3, LeO (affidavitlaw04_SeriesFinds.j1 k y0 y1 y2 y3) (affidavitlaw04_SeriesFinds.j1 (k + 1) y0 y1 y2 y3))
  | 0 => ⟨fun _ _ _ _ r h => by simp [affidavitlaw04_SeriesFinds.j0] at h, fun _ _ _ _ r h => by simp [affidavitlaw04_SeriesFinds.j1] at h⟩
  | k + 1 => by
    obtain ⟨ih0, ih1⟩ := affidavitlaw04_SeriesFinds.mono_l k
    refine ⟨?_, ?_⟩
    · intro y0 y1 y2 y3
      unfold affidavitlaw04_SeriesFinds.j0
      repeat' first
      | (with_reducible exact ih0 _ _ _ _)
      | (with_reducible exact ih1 _ _ _ _)
      | (with_reducible exact affidavitlaw04_awake.mono _)
      | (with_reducible exact affidavitlaw04_prime.mono _ _)
      | (with_reducible exact affidavitref01_Same.mono _ _ _)
      | (with_reducible exact affidavitref04_Turned.mono _ _)
      | (with_reducible exact field_Has.mono _ _ _)
      | (with_reducible exact poly_Div.mono _ _ _ _)
      | (with_reducible exact poly_Norm.mono _ _ _)
      | (with_reducible exact series_On.mono _ _ _ _ _)
      | (with_reducible exact series_Poly.mono _ _ _)
      | (with_reducible exact series_Right.mono _ _ _)
      | (with_reducible exact series_Rule.mono _ _ _)
      | (with_reducible exact LeO.refl _)
      | (with_reducible exact LeO.none _)
      | (with_reducible refine LeO.ite ?_ ?_)
      | (with_reducible refine LeO.bind ?_ (fun _ => ?_))
      | exact ih0 _ _ _ _
      | exact ih1 _ _ _ _
      | exact affidavitlaw04_awake.mono _
      | exact affidavitlaw04_prime.mono _ _
      | exact affidavitref01_Same.mono _ _ _
      | exact affidavitref04_Turned.mono _ _
      | exact field_Has.mono _ _ _
      | exact poly_Div.mono _ _ _ _
      | exact poly_Norm.mono _ _ _
      | exact series_On.mono _ _ _ _ _
      | exact series_Poly.mono _ _ _
      | exact series_Right.mono _ _ _
      | exact series_Rule.mono _ _ _
      | exact LeO.none _
      | refine LeO.ite ?_ ?_
      | refine LeO.bind ?_ (fun _ => ?_)
    · intro y0 y1 y2 y3
      unfold affidavitlaw04_SeriesFinds.j1
      repeat' first
      | (with_reducible exact ih0 _ _ _ _)
      | (with_reducible exact ih1 _ _ _ _)
      | (with_reducible exact affidavitlaw04_awake.mono _)
      | (with_reducible exact affidavitlaw04_prime.mono _ _)
      | (with_reducible exact affidavitref01_Same.mono _ _ _)
      | (with_reducible exact affidavitref04_Turned.mono _ _)
      | (with_reducible exact field_Has.mono _ _ _)
      | (with_reducible exact poly_Div.mono _ _ _ _)
      | (with_reducible exact poly_Norm.mono _ _ _)
      | (with_reducible exact series_On.mono _ _ _ _ _)
      | (with_reducible exact series_Poly.mono _ _ _)
      | (with_reducible exact series_Right.mono _ _ _)
      | (with_reducible exact series_Rule.mono _ _ _)
      | (with_reducible exact LeO.refl _)
      | (with_reducible exact LeO.none _)
      | (with_reducible refine LeO.ite ?_ ?_)
      | (with_reducible refine LeO.bind ?_ (fun _ => ?_))
      | exact ih0 _ _ _ _
      | exact ih1 _ _ _ _
      | exact affidavitlaw04_awake.mono _
      | exact affidavitlaw04_prime.mono _ _
      | exact affidavitref01_Same.mono _ _ _
      | exact affidavitref04_Turned.mono _ _
      | exact field_Has.mono _ _ _
      | exact poly_Div.mono _ _ _ _
      | exact poly_Norm.mono _ _ _
      | exact series_On.mono _ _ _ _ _
      | exact series_Poly.mono _ _ _
      | exact series_Right.mono _ _ _
      | exact series_Rule.mono _ _ _
      | exact LeO.none _
      | refine LeO.ite ?_ ?_
      | refine LeO.bind ?_ (fun _ => ?_)
theorem affidavitlaw04_SeriesFinds.mono : ∀ a0 a1 a2 k, LeO (affidavitlaw04_SeriesFinds.f k a0 a1 a2) (affidavitlaw04_SeriesFinds.f (k + 1) a0 a1 a2) := by
  intro a0 a1 a2 k
  obtain ⟨ih0, ih1⟩ := affidavitlaw04_SeriesFinds.mono_l k
  unfold affidavitlaw04_SeriesFinds.f
  repeat' first
      | (with_reducible exact ih0 _ _ _ _)
      | (with_reducible exact ih1 _ _ _ _)
      | (with_reducible exact affidavitlaw04_awake.mono _)
      | (with_reducible exact affidavitlaw04_prime.mono _ _)
      | (with_reducible exact affidavitref01_Same.mono _ _ _)
      | (with_reducible exact affidavitref04_Turned.mono _ _)
      | (with_reducible exact field_Has.mono _ _ _)
      | (with_reducible exact poly_Div.mono _ _ _ _)
      | (with_reducible exact poly_Norm.mono _ _ _)
      | (with_reducible exact series_On.mono _ _ _ _ _)
      | (with_reducible exact series_Poly.mono _ _ _)
      | (with_reducible exact series_Right.mono _ _ _)
      | (with_reducible exact series_Rule.mono _ _ _)
      | (with_reducible exact LeO.refl _)
      | (with_reducible exact LeO.none _)
      | (with_reducible refine LeO.ite ?_ ?_)
      | (with_reducible refine LeO.bind ?_ (fun _ => ?_))
      | exact ih0 _ _ _ _
      | exact ih1 _ _ _ _
      | exact affidavitlaw04_awake.mono _
      | exact affidavitlaw04_prime.mono _ _
      | exact affidavitref01_Same.mono _ _ _
      | exact affidavitref04_Turned.mono _ _
      | exact field_Has.mono _ _ _
      | exact poly_Div.mono _ _ _ _
      | exact poly_Norm.mono _ _ _
      | exact series_On.mono _ _ _ _ _
      | exact series_Poly.mono _ _ _
      | exact series_Right.mono _ _ _
      | exact series_Rule.mono _ _ _
      | exact LeO.none _
      | refine LeO.ite ?_ ?_
      | refine LeO.bind ?_ (fun _ => ?_)
set_option maxHeartbeats 8000000 in
set_option maxRecDepth 100000 in
theorem affidavitlaw04_SeriesFinds.calls (k : Nat) (a0 : Int) (A1 : Option Addr) (c1 : Nat) (l1 : List Int) (A2 : Option Addr) (c2 : Nat) (l2 : List Int) (r : Bool) (w : World) (hr1 : Kd.C (Kd.int .u64) w A1 l1.length l1) (hc1 : l1.length ≤ c1) (hr2 : Kd.C (Kd.int .u64) w A2 l2.length l2) (hc2 : l2.length ≤ c2) (h : affidavitlaw04_SeriesFinds.f k a0 l1 l2 = some r) :
    Calls Try.prog 7 #[.int .u64 a0, .slice A1 l1.length c1, .slice A2 l2.length c2] w fun e w' => e = .returned (.bool r) ∧ Below w.heap.size w w' := by
  have HR1 := Aside0.mk hr1
  have HC1 := Aside0.mk hc1
  clear hr1 hc1
  have HR2 := Aside0.mk hr2
  have HC2 := Aside0.mk hc2
  clear hr2 hc2
  have HB := Aside0.mk (Below.refl w.heap.size w)
  have H : ((affidavitlaw04_awake.f k).bind fun t446 => (if t446 = true then ((affidavitlaw04_prime.f k a0).bind fun t447 => (if t447 = true then ((series_Right.f k a0 l2).bind fun t448 => (if t448 = true then ((field_Has.f k a0 l1).bind fun t449 => (if t449 = true then (if (l2.length : Int) > 13 then (affidavitlaw04_SeriesFinds.j0 k a0 l1 l2 true) else (affidavitlaw04_SeriesFinds.j0 k a0 l1 l2 ((l1.length : Int) != (wrap64 ((l2.length : Int) - 1))))) else (affidavitlaw04_SeriesFinds.j0 k a0 l1 l2 true))) else (affidavitlaw04_SeriesFinds.j0 k a0 l1 l2 true))) else (affidavitlaw04_SeriesFinds.j0 k a0 l1 l2 true))) else (none))) = some r := h
  clear h
  replace H := Option.bind_eq_some_iff.mp H
  obtain ⟨t446, A40, H⟩ := H
  replace H : (if t446 = true then ((affidavitlaw04_prime.f k a0).bind fun t447 => (if t447 = true then ((series_Right.f k a0 l2).bind fun t448 => (if t448 = true then ((field_Has.f k a0 l1).bind fun t449 => (if t449 = true then (if (l2.length : Int) > 13 then (affidavitlaw04_SeriesFinds.j0 k a0 l1 l2 true) else (affidavitlaw04_SeriesFinds.j0 k a0 l1 l2 ((l1.length : Int) != (wrap64 ((l2.length : Int) - 1))))) else (affidavitlaw04_SeriesFinds.j0 k a0 l1 l2 true))) else (affidavitlaw04_SeriesFinds.j0 k a0 l1 l2 true))) else (affidavitlaw04_SeriesFinds.j0 k a0 l1 l2 true))) else (none)) = some r := H
  have A4 := Aside0.mk A40
  clear A40
  by_cases c5 : t446 = true
  · subst c5
    have H1 : ((affidavitlaw04_prime.f k a0).bind fun t447 => (if t447 = true then ((series_Right.f k a0 l2).bind fun t448 => (if t448 = true then ((field_Has.f k a0 l1).bind fun t449 => (if t449 = true then (if (l2.length : Int) > 13 then (affidavitlaw04_SeriesFinds.j0 k a0 l1 l2 true) else (affidavitlaw04_SeriesFinds.j0 k a0 l1 l2 ((l1.length : Int) != (wrap64 ((l2.length : Int) - 1))))) else (affidavitlaw04_SeriesFinds.j0 k a0 l1 l2 true))) else (affidavitlaw04_SeriesFinds.j0 k a0 l1 l2 true))) else (affidavitlaw04_SeriesFinds.j0 k a0 l1 l2 true))) = some r := by rw [if_pos rfl] at H; exact H
    clear H
    have H := H1
    clear H1
    have HC6 := Aside0.mk H
    clear H
    go_enter Try.func7, Try.ntmps7
    go_upto_region 3 with (first | ((with_reducible refine gate_callee (f := 14) rfl ?_); refine goesL_ (some 23) rfl rfl Try.func14 (by kernel_rfl) rfl #[] rfl (by (try simp only [List.map_toArray, List.map_cons, List.map_nil]); first | done | rfl | (simp only [List.length_drop, List.length_take]; rfl)) ?_; (with_reducible refine (affidavitlaw04_awake.calls k  true _ A4.out).mono ?_); rintro e w7 ⟨rfl, hb⟩; refine ⟨_, rfl, ?_⟩; have n0_ := Aside0.mk (below_step (by repeat (first | (with_reducible first | exact HB.out | apply below_alloc | apply pw_below_drewN | apply below_drew1) | exact HB.out)) hb); clear HB; have HB := n0_; clear n0_; (try clear hb); (try clear hb2); (try clear hk); (try clear hi)))
    (try simp only [Act.put, List.setIfInBounds_toArray, List.set_cons_zero, List.set_cons_succ])
    go_cut [52] (fun v52 wc => ∃ (kq : Nat) (x52_5 : Bool), v52 = .bool x52_5 ∧ Aside0 (affidavitlaw04_SeriesFinds.j0 kq a0 l1 l2 x52_5 = some r) ∧ Aside0 (kq ≤ k) ∧ Aside0 (Below w.heap.size w wc))
    case first =>
      have H := HC6.out
      clear HC6
      replace H := Option.bind_eq_some_iff.mp H
      obtain ⟨t447, A80, H⟩ := H
      replace H : (if t447 = true then ((series_Right.f k a0 l2).bind fun t448 => (if t448 = true then ((field_Has.f k a0 l1).bind fun t449 => (if t449 = true then (if (l2.length : Int) > 13 then (affidavitlaw04_SeriesFinds.j0 k a0 l1 l2 true) else (affidavitlaw04_SeriesFinds.j0 k a0 l1 l2 ((l1.length : Int) != (wrap64 ((l2.length : Int) - 1))))) else (affidavitlaw04_SeriesFinds.j0 k a0 l1 l2 true))) else (affidavitlaw04_SeriesFinds.j0 k a0 l1 l2 true))) else (affidavitlaw04_SeriesFinds.j0 k a0 l1 l2 true)) = some r := H
      have A8 := Aside0.mk A80
      clear A80
      by_cases c9 : t447 = true
      · subst c9
        have H1 : ((series_Right.f k a0 l2).bind fun t448 => (if t448 = true then ((field_Has.f k a0 l1).bind fun t449 => (if t449 = true then (if (l2.length : Int) > 13 then (affidavitlaw04_SeriesFinds.j0 k a0 l1 l2 true) else (affidavitlaw04_SeriesFinds.j0 k a0 l1 l2 ((l1.length : Int) != (wrap64 ((l2.length : Int) - 1))))) else (affidavitlaw04_SeriesFinds.j0 k a0 l1 l2 true))) else (affidavitlaw04_SeriesFinds.j0 k a0 l1 l2 true))) = some r := by rw [if_pos rfl] at H; exact H
        clear H
        have H := H1
        clear H1
        replace H := Option.bind_eq_some_iff.mp H
        obtain ⟨t448, A100, H⟩ := H
        replace H : (if t448 = true then ((field_Has.f k a0 l1).bind fun t449 => (if t449 = true then (if (l2.length : Int) > 13 then (affidavitlaw04_SeriesFinds.j0 k a0 l1 l2 true) else (affidavitlaw04_SeriesFinds.j0 k a0 l1 l2 ((l1.length : Int) != (wrap64 ((l2.length : Int) - 1))))) else (affidavitlaw04_SeriesFinds.j0 k a0 l1 l2 true))) else (affidavitlaw04_SeriesFinds.j0 k a0 l1 l2 true)) = some r := H
        have A10 := Aside0.mk A100
        clear A100
        by_cases c11 : t448 = true
        · subst c11
          have H1 : ((field_Has.f k a0 l1).bind fun t449 => (if t449 = true then (if (l2.length : Int) > 13 then (affidavitlaw04_SeriesFinds.j0 k a0 l1 l2 true) else (affidavitlaw04_SeriesFinds.j0 k a0 l1 l2 ((l1.length : Int) != (wrap64 ((l2.length : Int) - 1))))) else (affidavitlaw04_SeriesFinds.j0 k a0 l1 l2 true))) = some r := by rw [if_pos rfl] at H; exact H
          clear H
          have H := H1
          clear H1
          replace H := Option.bind_eq_some_iff.mp H
          obtain ⟨t449, A120, H⟩ := H
          replace H : (if t449 = true then (if (l2.length : Int) > 13 then (affidavitlaw04_SeriesFinds.j0 k a0 l1 l2 true) else (affidavitlaw04_SeriesFinds.j0 k a0 l1 l2 ((l1.length : Int) != (wrap64 ((l2.length : Int) - 1))))) else (affidavitlaw04_SeriesFinds.j0 k a0 l1 l2 true)) = some r := H
          have A12 := Aside0.mk A120
          clear A120
          by_cases c13 : t449 = true
          · subst c13
            have H1 : (if (l2.length : Int) > 13 then (affidavitlaw04_SeriesFinds.j0 k a0 l1 l2 true) else (affidavitlaw04_SeriesFinds.j0 k a0 l1 l2 ((l1.length : Int) != (wrap64 ((l2.length : Int) - 1))))) = some r := by rw [if_pos rfl] at H; exact H
            clear H
            have H := H1
            clear H1
            by_cases c14 : (l2.length : Int) > 13
            · rw [if_pos c14] at H
              have c14b0 : decide (13 < (l2.length : Int)) = true := decide_eq_true c14
              have c14b1 : decide (13 < l2.length) = true := decide_eq_true (by omega)
              clear c14
              (first | rw [c14b0] | (simp only [i64_w, i32_w]; rw [c14b0]) | skip)
              have H' := Aside0.mk H
              clear H
              go_wp2_with (first | ((with_reducible refine gate_callee (f := 26) rfl ?_); refine goesL_ (some 26) rfl rfl Try.func26 (by kernel_rfl) rfl #[.int .u64 a0] rfl (by (try simp only [List.map_toArray, List.map_cons, List.map_nil]); first | done | rfl | (simp only [List.length_drop, List.length_take]; rfl)) ?_; (with_reducible refine (affidavitlaw04_prime.calls k a0 true _ A8.out).mono ?_); rintro e w' ⟨rfl, ⟨nd, rfl⟩⟩; refine ⟨_, rfl, ?_⟩) | (go_at_call 18; (with_reducible refine (series_Right.calls k a0 _ _ l2 true _ ?side1 ?side2 A10.out).mono ?_); (case side1 => repeat (first | exact (Kd.C_below HR2.out (by repeat (first | (with_reducible first | exact HB.out | apply below_alloc | apply pw_below_drewN | apply below_drew1) | exact HB.out))) | (with_reducible refine Kd.C_alloc ?_ _) | (with_reducible refine Kd.C_drewN ?_ _) | (with_reducible refine Kd.C_drew ?_))); (case side2 => exact HC2.out); rintro e w' ⟨rfl, ⟨nd, rfl⟩⟩) | (go_at_call 28; (with_reducible refine (field_Has.calls k a0 _ _ l1 true _ ?side1 ?side2 A12.out).mono ?_); (case side1 => repeat (first | exact (Kd.C_below HR1.out (by repeat (first | (with_reducible first | exact HB.out | apply below_alloc | apply pw_below_drewN | apply below_drew1) | exact HB.out))) | (with_reducible refine Kd.C_alloc ?_ _) | (with_reducible refine Kd.C_drewN ?_ _) | (with_reducible refine Kd.C_drew ?_))); (case side2 => exact HC1.out); rintro e w' ⟨rfl, ⟨nd, rfl⟩⟩))
              go_meet
              case rel => exact ⟨_, (true), (by first | rfl | (simp; done) | (simp [*]; done)), H', ⟨by first | omega | exact Nat.le_refl _⟩, ⟨by repeat (first | (with_reducible first | exact HB.out | apply below_alloc | apply pw_below_drewN | apply below_drew1) | exact HB.out)⟩⟩
            · rw [if_neg c14] at H
              have c14b0 : decide (13 < (l2.length : Int)) = false := decide_eq_false c14
              have c14b1 : decide (13 < l2.length) = false := decide_eq_false (by omega)
              clear c14
              (first | rw [c14b0] | (simp only [i64_w, i32_w]; rw [c14b0]) | skip)
              have H' := Aside0.mk H
              clear H
              go_wp2_with (first | ((with_reducible refine gate_callee (f := 26) rfl ?_); refine goesL_ (some 26) rfl rfl Try.func26 (by kernel_rfl) rfl #[.int .u64 a0] rfl (by (try simp only [List.map_toArray, List.map_cons, List.map_nil]); first | done | rfl | (simp only [List.length_drop, List.length_take]; rfl)) ?_; (with_reducible refine (affidavitlaw04_prime.calls k a0 true _ A8.out).mono ?_); rintro e w' ⟨rfl, ⟨nd, rfl⟩⟩; refine ⟨_, rfl, ?_⟩) | (go_at_call 18; (with_reducible refine (series_Right.calls k a0 _ _ l2 true _ ?side1 ?side2 A10.out).mono ?_); (case side1 => repeat (first | exact (Kd.C_below HR2.out (by repeat (first | (with_reducible first | exact HB.out | apply below_alloc | apply pw_below_drewN | apply below_drew1) | exact HB.out))) | (with_reducible refine Kd.C_alloc ?_ _) | (with_reducible refine Kd.C_drewN ?_ _) | (with_reducible refine Kd.C_drew ?_))); (case side2 => exact HC2.out); rintro e w' ⟨rfl, ⟨nd, rfl⟩⟩) | (go_at_call 28; (with_reducible refine (field_Has.calls k a0 _ _ l1 true _ ?side1 ?side2 A12.out).mono ?_); (case side1 => repeat (first | exact (Kd.C_below HR1.out (by repeat (first | (with_reducible first | exact HB.out | apply below_alloc | apply pw_below_drewN | apply below_drew1) | exact HB.out))) | (with_reducible refine Kd.C_alloc ?_ _) | (with_reducible refine Kd.C_drewN ?_ _) | (with_reducible refine Kd.C_drew ?_))); (case side2 => exact HC1.out); rintro e w' ⟨rfl, ⟨nd, rfl⟩⟩))
              go_meet
              case rel => exact ⟨_, (((l1.length : Int) != (wrap64 ((l2.length : Int) - 1)))), (by first | rfl | (simp; done) | (simp [*]; done)), H', ⟨by first | omega | exact Nat.le_refl _⟩, ⟨by repeat (first | (with_reducible first | exact HB.out | apply below_alloc | apply pw_below_drewN | apply below_drew1) | exact HB.out)⟩⟩
          · replace c13 := Bool.eq_false_iff.mpr c13
            subst c13
            have H1 : (affidavitlaw04_SeriesFinds.j0 k a0 l1 l2 true) = some r := by rw [if_neg (show ¬ (false = true) by decide)] at H; exact H
            clear H
            have H := H1
            clear H1
            have H' := Aside0.mk H
            clear H
            go_wp2_with (first | ((with_reducible refine gate_callee (f := 26) rfl ?_); refine goesL_ (some 26) rfl rfl Try.func26 (by kernel_rfl) rfl #[.int .u64 a0] rfl (by (try simp only [List.map_toArray, List.map_cons, List.map_nil]); first | done | rfl | (simp only [List.length_drop, List.length_take]; rfl)) ?_; (with_reducible refine (affidavitlaw04_prime.calls k a0 true _ A8.out).mono ?_); rintro e w' ⟨rfl, ⟨nd, rfl⟩⟩; refine ⟨_, rfl, ?_⟩) | (go_at_call 18; (with_reducible refine (series_Right.calls k a0 _ _ l2 true _ ?side1 ?side2 A10.out).mono ?_); (case side1 => repeat (first | exact (Kd.C_below HR2.out (by repeat (first | (with_reducible first | exact HB.out | apply below_alloc | apply pw_below_drewN | apply below_drew1) | exact HB.out))) | (with_reducible refine Kd.C_alloc ?_ _) | (with_reducible refine Kd.C_drewN ?_ _) | (with_reducible refine Kd.C_drew ?_))); (case side2 => exact HC2.out); rintro e w' ⟨rfl, ⟨nd, rfl⟩⟩) | (go_at_call 28; (with_reducible refine (field_Has.calls k a0 _ _ l1 false _ ?side1 ?side2 A12.out).mono ?_); (case side1 => repeat (first | exact (Kd.C_below HR1.out (by repeat (first | (with_reducible first | exact HB.out | apply below_alloc | apply pw_below_drewN | apply below_drew1) | exact HB.out))) | (with_reducible refine Kd.C_alloc ?_ _) | (with_reducible refine Kd.C_drewN ?_ _) | (with_reducible refine Kd.C_drew ?_))); (case side2 => exact HC1.out); rintro e w' ⟨rfl, ⟨nd, rfl⟩⟩))
            go_meet
            case rel => exact ⟨_, (true), (by first | rfl | (simp; done) | (simp [*]; done)), H', ⟨by first | omega | exact Nat.le_refl _⟩, ⟨by repeat (first | (with_reducible first | exact HB.out | apply below_alloc | apply pw_below_drewN | apply below_drew1) | exact HB.out)⟩⟩
        · replace c11 := Bool.eq_false_iff.mpr c11
          subst c11
          have H1 : (affidavitlaw04_SeriesFinds.j0 k a0 l1 l2 true) = some r := by rw [if_neg (show ¬ (false = true) by decide)] at H; exact H
          clear H
          have H := H1
          clear H1
          have H' := Aside0.mk H
          clear H
          go_wp2_with (first | ((with_reducible refine gate_callee (f := 26) rfl ?_); refine goesL_ (some 26) rfl rfl Try.func26 (by kernel_rfl) rfl #[.int .u64 a0] rfl (by (try simp only [List.map_toArray, List.map_cons, List.map_nil]); first | done | rfl | (simp only [List.length_drop, List.length_take]; rfl)) ?_; (with_reducible refine (affidavitlaw04_prime.calls k a0 true _ A8.out).mono ?_); rintro e w' ⟨rfl, ⟨nd, rfl⟩⟩; refine ⟨_, rfl, ?_⟩) | (go_at_call 18; (with_reducible refine (series_Right.calls k a0 _ _ l2 false _ ?side1 ?side2 A10.out).mono ?_); (case side1 => repeat (first | exact (Kd.C_below HR2.out (by repeat (first | (with_reducible first | exact HB.out | apply below_alloc | apply pw_below_drewN | apply below_drew1) | exact HB.out))) | (with_reducible refine Kd.C_alloc ?_ _) | (with_reducible refine Kd.C_drewN ?_ _) | (with_reducible refine Kd.C_drew ?_))); (case side2 => exact HC2.out); rintro e w' ⟨rfl, ⟨nd, rfl⟩⟩))
          go_meet
          case rel => exact ⟨_, (true), (by first | rfl | (simp; done) | (simp [*]; done)), H', ⟨by first | omega | exact Nat.le_refl _⟩, ⟨by repeat (first | (with_reducible first | exact HB.out | apply below_alloc | apply pw_below_drewN | apply below_drew1) | exact HB.out)⟩⟩
      · replace c9 := Bool.eq_false_iff.mpr c9
        subst c9
        have H1 : (affidavitlaw04_SeriesFinds.j0 k a0 l1 l2 true) = some r := by rw [if_neg (show ¬ (false = true) by decide)] at H; exact H
        clear H
        have H := H1
        clear H1
        have H' := Aside0.mk H
        clear H
        go_wp2_with (first | ((with_reducible refine gate_callee (f := 26) rfl ?_); refine goesL_ (some 26) rfl rfl Try.func26 (by kernel_rfl) rfl #[.int .u64 a0] rfl (by (try simp only [List.map_toArray, List.map_cons, List.map_nil]); first | done | rfl | (simp only [List.length_drop, List.length_take]; rfl)) ?_; (with_reducible refine (affidavitlaw04_prime.calls k a0 false _ A8.out).mono ?_); rintro e w' ⟨rfl, ⟨nd, rfl⟩⟩; refine ⟨_, rfl, ?_⟩))
        go_meet
        case rel => exact ⟨_, (true), (by first | rfl | (simp; done) | (simp [*]; done)), H', ⟨by first | omega | exact Nat.le_refl _⟩, ⟨by repeat (first | (with_reducible first | exact HB.out | apply below_alloc | apply pw_below_drewN | apply below_drew1) | exact HB.out)⟩⟩
    case rest =>
      clear HC6
      try clear c1
      try clear c2
      try clear p2
      try clear c5
      try clear p6
      try clear c7
      try clear c9
      try clear c11
      try clear c13
      try clear c14
      try clear c14b0
      try clear c14b1
      obtain ⟨kq, x52_5, rfl, HA, HJ5, HB⟩ := hcut
      cases kq with
      | zero => exact absurd HA.out (by simp [affidavitlaw04_SeriesFinds.j0])
      | succ kj5 =>
        have H := HA.out
        clear HA
        simp only [affidavitlaw04_SeriesFinds.j0] at H
        by_cases c15 : x52_5 = true
        · subst c15
          have H1 : (some true) = some r := by rw [if_pos rfl] at H; exact H
          clear H
          have H := H1
          clear H1
          obtain rfl := Option.some.inj H
          go_wp2
          go_ret
          exact ⟨by first | rfl | (simp [errW_none, errW_some] <;> rfl) | (simp [*, errW_none, errW_some] <;> rfl), by repeat (first | (with_reducible first | exact HB.out | apply below_alloc | apply pw_below_drewN | apply below_drew1) | exact HB.out)⟩
        · replace c15 := Bool.eq_false_iff.mpr c15
          subst c15
          have H1 : ((series_On.f kj5 a0 l1 l2 (l1.length : Int)).bind fun bt450 => ((series_Rule.f kj5 a0 bt450.1).bind fun bt454 => ((series_On.f kj5 a0 l1 l2 (wrap64 (3 * (l1.length : Int)))).bind fun bt458 => ((series_On.f kj5 a0 bt450.1 bt454.1 (wrap64 (2 * (l1.length : Int)))).bind fun bt462 => (if bt450.2 = 0 then (if bt454.2 = 0 then (if bt458.2 = 0 then (if bt462.2 = 0 then (if (bt454.1.length : Int) > (l2.length : Int) then (none) else ((affidavitref01_Same.f kj5 bt458.1 bt462.1).bind fun t466 => (affidavitlaw04_SeriesFinds.j1 kj5 a0 l2 bt454.1 (!t466)))) else (none)) else (none)) else (none)) else (none)))))) = some r := by rw [if_neg (show ¬ (false = true) by decide)] at H; exact H
          clear H
          have H := H1
          clear H1
          replace H := Option.bind_eq_some_iff.mp H
          obtain ⟨⟨t450, t451⟩, A160, H⟩ := H
          replace H : ((series_Rule.f kj5 a0 t450).bind fun bt454 => ((series_On.f kj5 a0 l1 l2 (wrap64 (3 * (l1.length : Int)))).bind fun bt458 => ((series_On.f kj5 a0 t450 bt454.1 (wrap64 (2 * (l1.length : Int)))).bind fun bt462 => (if t451 = 0 then (if bt454.2 = 0 then (if bt458.2 = 0 then (if bt462.2 = 0 then (if (bt454.1.length : Int) > (l2.length : Int) then (none) else ((affidavitref01_Same.f kj5 bt458.1 bt462.1).bind fun t466 => (affidavitlaw04_SeriesFinds.j1 kj5 a0 l2 bt454.1 (!t466)))) else (none)) else (none)) else (none)) else (none))))) = some r := H
          have A16 := Aside0.mk A160
          clear A160
          replace H := Option.bind_eq_some_iff.mp H
          obtain ⟨⟨t454, t457⟩, A170, H⟩ := H
          replace H : ((series_On.f kj5 a0 l1 l2 (wrap64 (3 * (l1.length : Int)))).bind fun bt458 => ((series_On.f kj5 a0 t450 t454 (wrap64 (2 * (l1.length : Int)))).bind fun bt462 => (if t451 = 0 then (if t457 = 0 then (if bt458.2 = 0 then (if bt462.2 = 0 then (if (t454.length : Int) > (l2.length : Int) then (none) else ((affidavitref01_Same.f kj5 bt458.1 bt462.1).bind fun t466 => (affidavitlaw04_SeriesFinds.j1 kj5 a0 l2 t454 (!t466)))) else (none)) else (none)) else (none)) else (none)))) = some r := H
          have A17 := Aside0.mk A170
          clear A170
          replace H := Option.bind_eq_some_iff.mp H
          obtain ⟨⟨t458, t459⟩, A180, H⟩ := H
          replace H : ((series_On.f kj5 a0 t450 t454 (wrap64 (2 * (l1.length : Int)))).bind fun bt462 => (if t451 = 0 then (if t457 = 0 then (if t459 = 0 then (if bt462.2 = 0 then (if (t454.length : Int) > (l2.length : Int) then (none) else ((affidavitref01_Same.f kj5 t458 bt462.1).bind fun t466 => (affidavitlaw04_SeriesFinds.j1 kj5 a0 l2 t454 (!t466)))) else (none)) else (none)) else (none)) else (none))) = some r := H
          have A18 := Aside0.mk A180
          clear A180
          replace H := Option.bind_eq_some_iff.mp H
          obtain ⟨⟨t462, t463⟩, A190, H⟩ := H
          replace H : (if t451 = 0 then (if t457 = 0 then (if t459 = 0 then (if t463 = 0 then (if (t454.length : Int) > (l2.length : Int) then (none) else ((affidavitref01_Same.f kj5 t458 t462).bind fun t466 => (affidavitlaw04_SeriesFinds.j1 kj5 a0 l2 t454 (!t466)))) else (none)) else (none)) else (none)) else (none)) = some r := H
          have A19 := Aside0.mk A190
          clear A190
          have HC20 := Aside0.mk H
          clear H
          go_upto_region 10 with (first | ((with_reducible refine gate_callee (f := 16) rfl ?_); refine goesL_ (some 60) rfl rfl Try.func16 (by kernel_rfl) rfl #[.int .u64 a0, .slice A1 l1.length c1, .slice A2 l2.length c2, .int .i64 (l1.length : Int)] rfl (by (try simp only [List.map_toArray, List.map_cons, List.map_nil]); first | done | rfl | (simp only [List.length_drop, List.length_take]; rfl)) ?_; (with_reducible refine (series_On.calls kj5 a0 _ _ l1 _ _ l2 (l1.length : Int) t450 t451 _ ?side1 ?side2 ?side3 ?side4 A16.out).mono ?_); (case side1 => repeat (first | exact (Kd.C_below HR1.out HB.out) | (with_reducible refine Kd.C_alloc ?_ _) | (with_reducible refine Kd.C_drewN ?_ _) | (with_reducible refine Kd.C_drew ?_))); (case side2 => exact HC1.out); (case side3 => repeat (first | exact (Kd.C_below HR2.out HB.out) | (with_reducible refine Kd.C_alloc ?_ _) | (with_reducible refine Kd.C_drewN ?_ _) | (with_reducible refine Kd.C_drew ?_))); (case side4 => exact HC2.out); rintro e w21 ⟨v452, rfl, ho0, hb⟩; refine ⟨_, rfl, ?_⟩; have n0_ := Aside0.mk (Kd.R_lower ho0 (below_size (by repeat (first | (with_reducible first | exact HB.out | apply below_alloc | apply pw_below_drewN | apply below_drew1) | exact HB.out)))); have n1_ := Aside0.mk (below_step (by repeat (first | (with_reducible first | exact HB.out | apply below_alloc | apply pw_below_drewN | apply below_drew1) | exact HB.out)) hb); clear HB; have HO453 := n0_; have HB := n1_; clear n0_ n1_; (try clear hb); (try clear hb2); (try clear hk); (try clear hi); (try clear ho0); obtain ⟨Ao22, co22, eo22⟩ := Kd.R_slice HO453.out; subst eo22) | ((with_reducible refine gate_callee (f := 25) rfl ?_); refine goesL_ (some 66) rfl rfl Try.func25 (by kernel_rfl) rfl #[.int .u64 a0, .slice Ao22 t450.length co22] rfl (by (try simp only [List.map_toArray, List.map_cons, List.map_nil]); first | done | rfl | (simp only [List.length_drop, List.length_take]; rfl)) ?_; (with_reducible refine (series_Rule.calls kj5 a0 _ _ t450 t454 t457 _ ?side1 ?side2 A17.out).mono ?_); (case side1 => repeat (first | exact (Kd.R_reads' HO453.out).2.2 | (with_reducible refine Kd.C_alloc ?_ _) | (with_reducible refine Kd.C_drewN ?_ _) | (with_reducible refine Kd.C_drew ?_))); (case side2 => exact (Kd.R_reads' HO453.out).2.1); rintro e w23 ⟨v455, rfl, ho0, hb⟩; refine ⟨_, rfl, ?_⟩; have n0_ := Aside0.mk (Kd.R_below (by (with_reducible repeat (first | apply Kd.R_alloc | apply Kd.R_drewN | apply Kd.R_drew)); exact HO453.out) hb); have n1_ := Aside0.mk (Kd.V_lower (Kd.V_mono (ok' := fun k_ => some k_ ≠ (.slice Ao22 t450.length co22 : Value).ownBlock) ho0 (fun k_ hk_ => (Kd.fresh' (Kd.R_lt (by (with_reducible repeat (first | apply Kd.R_alloc | apply Kd.R_drewN | apply Kd.R_drew)); exact HO453.out)) k_ hk_))) (below_size (by repeat (first | (with_reducible first | exact HB.out | apply below_alloc | apply pw_below_drewN | apply below_drew1) | exact HB.out)))); have n2_ := Aside0.mk (below_step (by repeat (first | (with_reducible first | exact HB.out | apply below_alloc | apply pw_below_drewN | apply below_drew1) | exact HB.out)) hb); clear HO453; clear HB; have HO453 := n0_; have HO456 := n1_; have HB := n2_; clear n0_ n1_ n2_; (try clear hb); (try clear hb2); (try clear hk); (try clear hi); (try clear ho0)) | ((with_reducible refine gate_callee (f := 16) rfl ?_); refine goesL_ (some 75) rfl rfl Try.func16 (by kernel_rfl) rfl #[.int .u64 a0, .slice A1 l1.length c1, .slice A2 l2.length c2, .int .i64 (wrap64 (3 * (l1.length : Int)))] rfl (by (try simp only [List.map_toArray, List.map_cons, List.map_nil]); first | done | rfl | (simp only [List.length_drop, List.length_take]; rfl)) ?_; (with_reducible refine (series_On.calls kj5 a0 _ _ l1 _ _ l2 (wrap64 (3 * (l1.length : Int))) t458 t459 _ ?side1 ?side2 ?side3 ?side4 A18.out).mono ?_); (case side1 => repeat (first | exact (Kd.C_below HR1.out HB.out) | (with_reducible refine Kd.C_alloc ?_ _) | (with_reducible refine Kd.C_drewN ?_ _) | (with_reducible refine Kd.C_drew ?_))); (case side2 => exact HC1.out); (case side3 => repeat (first | exact (Kd.C_below HR2.out HB.out) | (with_reducible refine Kd.C_alloc ?_ _) | (with_reducible refine Kd.C_drewN ?_ _) | (with_reducible refine Kd.C_drew ?_))); (case side4 => exact HC2.out); rintro e w24 ⟨v460, rfl, ho0, hb⟩; refine ⟨_, rfl, ?_⟩; have n0_ := Aside0.mk (Kd.R_elder' (by (with_reducible repeat (first | apply Kd.R_alloc | apply Kd.R_drewN | apply Kd.R_drew)); exact HO453.out) (Kd.R_base ho0) hb); have n1_ := Aside0.mk (Kd.V_elder' (by (with_reducible repeat (first | apply Kd.V_alloc | apply Kd.V_drewN | apply Kd.V_drew)); exact HO456.out) (Kd.R_base ho0) hb); have n2_ := Aside0.mk (Kd.R_lower (Kd.R_new' ho0 (Kd.R_lt (by (with_reducible repeat (first | apply Kd.R_alloc | apply Kd.R_drewN | apply Kd.R_drew)); exact HO453.out))) (below_size (by repeat (first | (with_reducible first | exact HB.out | apply below_alloc | apply pw_below_drewN | apply below_drew1) | exact HB.out)))); have n3_ := Aside0.mk (below_step (by repeat (first | (with_reducible first | exact HB.out | apply below_alloc | apply pw_below_drewN | apply below_drew1) | exact HB.out)) hb); clear HO453; clear HO456; clear HB; have HO453 := n0_; have HO456 := n1_; have HO461 := n2_; have HB := n3_; clear n0_ n1_ n2_ n3_; (try clear hb); (try clear hb2); (try clear hk); (try clear hi); (try clear ho0); obtain ⟨Ao25, co25, eo25⟩ := Kd.V_slice HO456.out; subst eo25) | ((with_reducible refine gate_callee (f := 16) rfl ?_); refine goesL_ (some 84) rfl rfl Try.func16 (by kernel_rfl) rfl #[.int .u64 a0, .slice Ao22 t450.length co22, .slice Ao25 t454.length co25, .int .i64 (wrap64 (2 * (l1.length : Int)))] rfl (by (try simp only [List.map_toArray, List.map_cons, List.map_nil]); first | done | rfl | (simp only [List.length_drop, List.length_take]; rfl)) ?_; (with_reducible refine (series_On.calls kj5 a0 _ _ t450 _ _ t454 (wrap64 (2 * (l1.length : Int))) t462 t463 _ ?side1 ?side2 ?side3 ?side4 A19.out).mono ?_); (case side1 => repeat (first | exact (Kd.R_reads' HO453.out).2.2 | (with_reducible refine Kd.C_alloc ?_ _) | (with_reducible refine Kd.C_drewN ?_ _) | (with_reducible refine Kd.C_drew ?_))); (case side2 => exact (Kd.R_reads' HO453.out).2.1); (case side3 => repeat (first | exact (Kd.V_reads' HO456.out).2.2 | (with_reducible refine Kd.C_alloc ?_ _) | (with_reducible refine Kd.C_drewN ?_ _) | (with_reducible refine Kd.C_drew ?_))); (case side4 => exact (Kd.V_reads' HO456.out).2.1); rintro e w26 ⟨v464, rfl, ho0, hb⟩; refine ⟨_, rfl, ?_⟩; have n0_ := Aside0.mk (Kd.R_elder' (by (with_reducible repeat (first | apply Kd.R_alloc | apply Kd.R_drewN | apply Kd.R_drew)); exact HO453.out) (Kd.R_base ho0) hb); have n1_ := Aside0.mk (Kd.V_elder' (by (with_reducible repeat (first | apply Kd.V_alloc | apply Kd.V_drewN | apply Kd.V_drew)); exact HO456.out) (Kd.R_base ho0) hb); have n2_ := Aside0.mk (Kd.R_elder' (by (with_reducible repeat (first | apply Kd.R_alloc | apply Kd.R_drewN | apply Kd.R_drew)); exact HO461.out) (Kd.R_base ho0) hb); have n3_ := Aside0.mk (Kd.R_lower (Kd.R_new' (Kd.R_new' ho0 (Kd.R_lt (by (with_reducible repeat (first | apply Kd.R_alloc | apply Kd.R_drewN | apply Kd.R_drew)); exact HO453.out))) (Kd.R_lt (by (with_reducible repeat (first | apply Kd.R_alloc | apply Kd.R_drewN | apply Kd.R_drew)); exact HO461.out))) (below_size (by repeat (first | (with_reducible first | exact HB.out | apply below_alloc | apply pw_below_drewN | apply below_drew1) | exact HB.out)))); have n4_ := Aside0.mk (below_step (by repeat (first | (with_reducible first | exact HB.out | apply below_alloc | apply pw_below_drewN | apply below_drew1) | exact HB.out)) hb); clear HO453; clear HO456; clear HO461; clear HB; have HO453 := n0_; have HO456 := n1_; have HO461 := n2_; have HO465 := n3_; have HB := n4_; clear n0_ n1_ n2_ n3_ n4_; (try clear hb); (try clear hb2); (try clear hk); (try clear hi); (try clear ho0)))
          (try simp only [Act.put, List.setIfInBounds_toArray, List.set_cons_zero, List.set_cons_succ])
          go_cut [113] (fun v113 wc => ∃ (kq : Nat) (x113_19 : Bool), v113 = .bool x113_19 ∧ Aside0 (affidavitlaw04_SeriesFinds.j1 kq a0 l2 t454 x113_19 = some r) ∧ Aside0 (kq ≤ kj5) ∧ Aside0 (Kd.V (Kd.int .u64) 22 wc w.heap.size (fun _ => True) (.slice Ao25 t454.length co25) t454) ∧ Aside0 (Below w.heap.size w wc))
          case first =>
            have H := HC20.out
            clear HC20
            by_cases c27 : t451 = 0
            · rw [if_pos c27] at H
              have c27b0 : (t451 == 0) = true := beq_iff_eq.mpr c27
              have c27b1 : (t451 != 0) = false := bne_eq_false_iff_eq.mpr c27
              clear c27
              (first | rw [c27b0] | (simp only [i64_w, i32_w]; rw [c27b0]) | skip)
              by_cases c28 : t457 = 0
              · rw [if_pos c28] at H
                have c28b0 : (t457 == 0) = true := beq_iff_eq.mpr c28
                have c28b1 : (t457 != 0) = false := bne_eq_false_iff_eq.mpr c28
                clear c28
                by_cases c29 : t459 = 0
                · rw [if_pos c29] at H
                  have c29b0 : (t459 == 0) = true := beq_iff_eq.mpr c29
                  have c29b1 : (t459 != 0) = false := bne_eq_false_iff_eq.mpr c29
                  clear c29
                  by_cases c30 : t463 = 0
                  · rw [if_pos c30] at H
                    have c30b0 : (t463 == 0) = true := beq_iff_eq.mpr c30
                    have c30b1 : (t463 != 0) = false := bne_eq_false_iff_eq.mpr c30
                    clear c30
                    by_cases c31 : (t454.length : Int) > (l2.length : Int)
                    · rw [if_pos c31] at H
                      exact absurd H (by simp)
                    · rw [if_neg c31] at H
                      have c31b0 : decide ((l2.length : Int) < (t454.length : Int)) = false := decide_eq_false c31
                      have c31b1 : decide (l2.length < t454.length) = false := decide_eq_false (fun h => c31 (Int.ofNat_lt.mpr h))
                      clear c31
                      replace H := Option.bind_eq_some_iff.mp H
                      obtain ⟨t466, A320, H⟩ := H
                      replace H : (affidavitlaw04_SeriesFinds.j1 kj5 a0 l2 t454 (!t466)) = some r := H
                      have A32 := Aside0.mk A320
                      clear A320
                      have H' := Aside0.mk H
                      clear H
                      obtain ⟨Ao33, co33, eo33⟩ := Kd.R_slice HO461.out
                      subst eo33
                      obtain ⟨Ao34, co34, eo34⟩ := Kd.R_slice HO465.out
                      subst eo34
                      go_wp2_with (first | (go_at_call 21; (with_reducible refine (affidavitref01_Same.calls kj5 _ _ t458 _ _ t462 t466 _ ?side1 ?side2 ?side3 ?side4 A32.out).mono ?_); (case side1 => repeat (first | exact (Kd.R_reads' HO461.out).2.2 | (with_reducible refine Kd.C_alloc ?_ _) | (with_reducible refine Kd.C_drewN ?_ _) | (with_reducible refine Kd.C_drew ?_))); (case side2 => exact (Kd.R_reads' HO461.out).2.1); (case side3 => repeat (first | exact (Kd.R_reads' HO465.out).2.2 | (with_reducible refine Kd.C_alloc ?_ _) | (with_reducible refine Kd.C_drewN ?_ _) | (with_reducible refine Kd.C_drew ?_))); (case side4 => exact (Kd.R_reads' HO465.out).2.1); rintro e w' ⟨rfl, ⟨nd, rfl⟩⟩))
                      go_meet
                      case rel => exact ⟨_, (!t466), (by first | rfl | (simp; done) | (simp [*]; done)), H', ⟨by have := HJ5.out; first | omega | exact Nat.le_refl _⟩, ⟨by (with_reducible repeat (first | apply Kd.V_alloc | apply Kd.V_drewN | apply Kd.V_drew)); exact Kd.V_mono HO456.out (fun _ hk => trivial)⟩, ⟨by repeat (first | (with_reducible first | exact HB.out | apply below_alloc | apply pw_below_drewN | apply below_drew1) | exact HB.out)⟩⟩
                  · rw [if_neg c30] at H
                    exact absurd H (by simp)
                · rw [if_neg c29] at H
                  exact absurd H (by simp)
              · rw [if_neg c28] at H
                exact absurd H (by simp)
            · rw [if_neg c27] at H
              exact absurd H (by simp)
          case rest =>
            clear HC20
            try clear c1
            try clear c2
            try clear p2
            try clear c3
            try clear c5
            try clear p6
            try clear c7
            try clear c9
            try clear c11
            try clear c13
            try clear c14
            try clear c14b0
            try clear c14b1
            try clear c15
            try clear c16
            try clear c25
            try clear c26
            try clear c27
            try clear c27b0
            try clear c27b1
            try clear c28
            try clear c28b0
            try clear c28b1
            try clear c29
            try clear c29b0
            try clear c29b1
            try clear c30
            try clear c30b0
            try clear c30b1
            try clear c31
            try clear c31b0
            try clear c31b1
            try clear p2
            try clear p6
            obtain ⟨kq, x113_19, rfl, HA, HJ19, HO_10, HB⟩ := hcut
            cases kq with
            | zero => exact absurd HA.out (by simp [affidavitlaw04_SeriesFinds.j1])
            | succ kj19 =>
              have H := HA.out
              clear HA
              simp only [affidavitlaw04_SeriesFinds.j1] at H
              by_cases c35 : x113_19 = true
              · subst c35
                have H1 : (none) = some r := by rw [if_pos rfl] at H; exact H
                clear H
                have H := H1
                clear H1
                exact absurd H (by simp)
              · replace c35 := Bool.eq_false_iff.mpr c35
                subst c35
                have H1 : ((affidavitref04_Turned.f kj19 l2).bind fun t467 => ((poly_Norm.f kj19 a0 t467).bind fun bt470 => ((series_Poly.f kj19 a0 t454).bind fun bt474 => ((poly_Div.f kj19 a0 bt470.1 bt474.1).bind fun bt478 => (if bt474.2 = 0 then (if bt478.2.2 = 0 then (some ((bt478.2.1.length : Int) == 0)) else (none)) else (none)))))) = some r := by rw [if_neg (show ¬ (false = true) by decide)] at H; exact H
                clear H
                have H := H1
                clear H1
                replace H := Option.bind_eq_some_iff.mp H
                obtain ⟨t467, A360, H⟩ := H
                replace H : ((poly_Norm.f kj19 a0 t467).bind fun bt470 => ((series_Poly.f kj19 a0 t454).bind fun bt474 => ((poly_Div.f kj19 a0 bt470.1 bt474.1).bind fun bt478 => (if bt474.2 = 0 then (if bt478.2.2 = 0 then (some ((bt478.2.1.length : Int) == 0)) else (none)) else (none))))) = some r := H
                have A36 := Aside0.mk A360
                clear A360
                replace H := Option.bind_eq_some_iff.mp H
                obtain ⟨⟨t470, t473⟩, A370, H⟩ := H
                replace H : ((series_Poly.f kj19 a0 t454).bind fun bt474 => ((poly_Div.f kj19 a0 t470 bt474.1).bind fun bt478 => (if bt474.2 = 0 then (if bt478.2.2 = 0 then (some ((bt478.2.1.length : Int) == 0)) else (none)) else (none)))) = some r := H
                have A37 := Aside0.mk A370
                clear A370
                replace H := Option.bind_eq_some_iff.mp H
                obtain ⟨⟨t474, t477⟩, A380, H⟩ := H
                replace H : ((poly_Div.f kj19 a0 t470 t474).bind fun bt478 => (if t477 = 0 then (if bt478.2.2 = 0 then (some ((bt478.2.1.length : Int) == 0)) else (none)) else (none))) = some r := H
                have A38 := Aside0.mk A380
                clear A380
                replace H := Option.bind_eq_some_iff.mp H
                obtain ⟨⟨t478, t481, t484⟩, A390, H⟩ := H
                replace H : (if t477 = 0 then (if t484 = 0 then (some ((t481.length : Int) == 0)) else (none)) else (none)) = some r := H
                have A39 := Aside0.mk A390
                clear A390
                by_cases c40 : t477 = 0
                · rw [if_pos c40] at H
                  have c40b0 : (t477 == 0) = true := beq_iff_eq.mpr c40
                  have c40b1 : (t477 != 0) = false := bne_eq_false_iff_eq.mpr c40
                  clear c40
                  by_cases c41 : t484 = 0
                  · rw [if_pos c41] at H
                    have c41b0 : (t484 == 0) = true := beq_iff_eq.mpr c41
                    have c41b1 : (t484 != 0) = false := bne_eq_false_iff_eq.mpr c41
                    clear c41
                    obtain rfl := Option.some.inj H
                    go_wp2_with (first | ((with_reducible refine gate_callee (f := 22) rfl ?_); refine goesL_ (some 117) rfl rfl Try.func22 (by kernel_rfl) rfl #[.slice A2 l2.length c2] rfl (by (try simp only [List.map_toArray, List.map_cons, List.map_nil]); first | done | rfl | (simp only [List.length_drop, List.length_take]; rfl)) ?_; (with_reducible refine (affidavitref04_Turned.calls kj19 _ _ l2 t467 _ ?side1 ?side2 A36.out).mono ?_); (case side1 => repeat (first | exact (Kd.C_below HR2.out HB.out) | (with_reducible refine Kd.C_alloc ?_ _) | (with_reducible refine Kd.C_drewN ?_ _) | (with_reducible refine Kd.C_drew ?_))); (case side2 => exact HC2.out); rintro e w42 ⟨v468, rfl, ho0, hb⟩; refine ⟨_, rfl, ?_⟩; have n0_ := Aside0.mk (Kd.V_elder' (by (with_reducible repeat (first | apply Kd.V_alloc | apply Kd.V_drewN | apply Kd.V_drew)); exact HO_10.out) (Kd.R_base ho0) hb); have n1_ := Aside0.mk (Kd.R_lower ho0 (below_size (by repeat (first | (with_reducible first | exact HB.out | apply below_alloc | apply pw_below_drewN | apply below_drew1) | exact HB.out)))); have n2_ := Aside0.mk (below_step (by repeat (first | (with_reducible first | exact HB.out | apply below_alloc | apply pw_below_drewN | apply below_drew1) | exact HB.out)) hb); clear HO_10; clear HB; have HO_10 := n0_; have HO469 := n1_; have HB := n2_; clear n0_ n1_ n2_; (try clear hb); (try clear hb2); (try clear hk); (try clear hi); (try clear ho0); obtain ⟨Ao43, co43, eo43⟩ := Kd.R_slice HO469.out; subst eo43) | ((with_reducible refine gate_callee (f := 31) rfl ?_); refine goesL_ (some 118) rfl rfl Try.func31 (by kernel_rfl) rfl #[.int .u64 a0, .slice Ao43 t467.length co43] rfl (by (try simp only [List.map_toArray, List.map_cons, List.map_nil]); first | done | rfl | (simp only [List.length_drop, List.length_take]; rfl)) ?_; (with_reducible refine (poly_Norm.calls kj19 a0 _ _ t467 t470 t473 _ ?side1 ?side2 A37.out).mono ?_); (case side1 => repeat (first | exact (Kd.R_reads' HO469.out).2.2 | (with_reducible refine Kd.C_alloc ?_ _) | (with_reducible refine Kd.C_drewN ?_ _) | (with_reducible refine Kd.C_drew ?_))); (case side2 => exact (Kd.R_reads' HO469.out).2.1); rintro e w44 ⟨v471, rfl, ho0, hb⟩; refine ⟨_, rfl, ?_⟩; have n0_ := Aside0.mk (Kd.V_below (by (with_reducible repeat (first | apply Kd.V_alloc | apply Kd.V_drewN | apply Kd.V_drew)); exact HO_10.out) hb); have n1_ := Aside0.mk (Kd.R_below (by (with_reducible repeat (first | apply Kd.R_alloc | apply Kd.R_drewN | apply Kd.R_drew)); exact HO469.out) hb); have n2_ := Aside0.mk (Kd.V_lower (Kd.V_mono (ok' := fun k_ => some k_ ≠ (.slice Ao43 t467.length co43 : Value).ownBlock) ho0 (fun k_ hk_ => (Kd.fresh' (Kd.R_lt (by (with_reducible repeat (first | apply Kd.R_alloc | apply Kd.R_drewN | apply Kd.R_drew)); exact HO469.out)) k_ hk_))) (below_size (by repeat (first | (with_reducible first | exact HB.out | apply below_alloc | apply pw_below_drewN | apply below_drew1) | exact HB.out)))); have n3_ := Aside0.mk (below_step (by repeat (first | (with_reducible first | exact HB.out | apply below_alloc | apply pw_below_drewN | apply below_drew1) | exact HB.out)) hb); clear HO_10; clear HO469; clear HB; have HO_10 := n0_; have HO469 := n1_; have HO472 := n2_; have HB := n3_; clear n0_ n1_ n2_ n3_; (try clear hb); (try clear hb2); (try clear hk); (try clear hi); (try clear ho0)) | ((with_reducible refine gate_callee (f := 17) rfl ?_); refine goesL_ (some 124) rfl rfl Try.func17 (by kernel_rfl) rfl #[.int .u64 a0, .slice Ao25 t454.length co25] rfl (by (try simp only [List.map_toArray, List.map_cons, List.map_nil]); first | done | rfl | (simp only [List.length_drop, List.length_take]; rfl)) ?_; (with_reducible refine (series_Poly.calls kj19 a0 _ _ t454 t474 t477 _ ?side1 ?side2 A38.out).mono ?_); (case side1 => repeat (first | exact (Kd.V_reads' HO_10.out).2.2 | (with_reducible refine Kd.C_alloc ?_ _) | (with_reducible refine Kd.C_drewN ?_ _) | (with_reducible refine Kd.C_drew ?_))); (case side2 => exact (Kd.V_reads' HO_10.out).2.1); rintro e w45 ⟨v475, rfl, ho0, hb⟩; refine ⟨_, rfl, ?_⟩; have n0_ := Aside0.mk (Kd.V_below (by (with_reducible repeat (first | apply Kd.V_alloc | apply Kd.V_drewN | apply Kd.V_drew)); exact HO_10.out) hb); have n1_ := Aside0.mk (Kd.R_below (by (with_reducible repeat (first | apply Kd.R_alloc | apply Kd.R_drewN | apply Kd.R_drew)); exact HO469.out) hb); have n2_ := Aside0.mk (Kd.V_below (by (with_reducible repeat (first | apply Kd.V_alloc | apply Kd.V_drewN | apply Kd.V_drew)); exact HO472.out) hb); have n3_ := Aside0.mk (Kd.V_lower (Kd.V_mono (ok' := fun k_ => some k_ ≠ (.slice Ao43 t467.length co43 : Value).ownBlock) ho0 (fun k_ hk_ => (Kd.fresh' (Kd.R_lt (by (with_reducible repeat (first | apply Kd.R_alloc | apply Kd.R_drewN | apply Kd.R_drew)); exact HO469.out)) k_ hk_))) (below_size (by repeat (first | (with_reducible first | exact HB.out | apply below_alloc | apply pw_below_drewN | apply below_drew1) | exact HB.out)))); have n4_ := Aside0.mk (below_step (by repeat (first | (with_reducible first | exact HB.out | apply below_alloc | apply pw_below_drewN | apply below_drew1) | exact HB.out)) hb); clear HO_10; clear HO469; clear HO472; clear HB; have HO_10 := n0_; have HO469 := n1_; have HO472 := n2_; have HO476 := n3_; have HB := n4_; clear n0_ n1_ n2_ n3_ n4_; (try clear hb); (try clear hb2); (try clear hk); (try clear hi); (try clear ho0); obtain ⟨Ao46, co46, eo46⟩ := Kd.V_slice HO472.out; subst eo46; obtain ⟨Ao47, co47, eo47⟩ := Kd.V_slice HO476.out; subst eo47) | ((with_reducible refine gate_callee (f := 32) rfl ?_); refine goesL_ (some 131) rfl rfl Try.func32 (by kernel_rfl) rfl #[.int .u64 a0, .slice Ao46 t470.length co46, .slice Ao47 t474.length co47] rfl (by (try simp only [List.map_toArray, List.map_cons, List.map_nil]); first | done | rfl | (simp only [List.length_drop, List.length_take]; rfl)) ?_; (with_reducible refine (poly_Div.calls kj19 a0 _ _ t470 _ _ t474 t478 t481 t484 _ ?side1 ?side2 ?side3 ?side4 A39.out).mono ?_); (case side1 => repeat (first | exact (Kd.V_reads' HO472.out).2.2 | (with_reducible refine Kd.C_alloc ?_ _) | (with_reducible refine Kd.C_drewN ?_ _) | (with_reducible refine Kd.C_drew ?_))); (case side2 => exact (Kd.V_reads' HO472.out).2.1); (case side3 => repeat (first | exact (Kd.V_reads' HO476.out).2.2 | (with_reducible refine Kd.C_alloc ?_ _) | (with_reducible refine Kd.C_drewN ?_ _) | (with_reducible refine Kd.C_drew ?_))); (case side4 => exact (Kd.V_reads' HO476.out).2.1); rintro e w48 ⟨v479, v482, rfl, ho0, ho1, hb⟩; refine ⟨_, rfl, ?_⟩; have n0_ := Aside0.mk (Kd.V_below (by (with_reducible repeat (first | apply Kd.V_alloc | apply Kd.V_drewN | apply Kd.V_drew)); exact HO_10.out) hb); have n1_ := Aside0.mk (Kd.R_below (by (with_reducible repeat (first | apply Kd.R_alloc | apply Kd.R_drewN | apply Kd.R_drew)); exact HO469.out) hb); have n2_ := Aside0.mk (Kd.V_below (by (with_reducible repeat (first | apply Kd.V_alloc | apply Kd.V_drewN | apply Kd.V_drew)); exact HO472.out) hb); have n3_ := Aside0.mk (Kd.V_below (by (with_reducible repeat (first | apply Kd.V_alloc | apply Kd.V_drewN | apply Kd.V_drew)); exact HO476.out) hb); have n4_ := Aside0.mk (Kd.V_lower (Kd.V_mono (ok' := fun k_ => some k_ ≠ (.slice Ao43 t467.length co43 : Value).ownBlock) ho0 (fun k_ hk_ => (Kd.fresh' (Kd.R_lt (by (with_reducible repeat (first | apply Kd.R_alloc | apply Kd.R_drewN | apply Kd.R_drew)); exact HO469.out)) k_ hk_))) (below_size (by repeat (first | (with_reducible first | exact HB.out | apply below_alloc | apply pw_below_drewN | apply below_drew1) | exact HB.out)))); have n5_ := Aside0.mk (Kd.V_lower (Kd.V_mono (ok' := fun k_ => some k_ ≠ (.slice Ao43 t467.length co43 : Value).ownBlock) ho1 (fun k_ hk_ => (Kd.fresh' (Kd.R_lt (by (with_reducible repeat (first | apply Kd.R_alloc | apply Kd.R_drewN | apply Kd.R_drew)); exact HO469.out)) k_ hk_))) (below_size (by repeat (first | (with_reducible first | exact HB.out | apply below_alloc | apply pw_below_drewN | apply below_drew1) | exact HB.out)))); have n6_ := Aside0.mk (below_step (by repeat (first | (with_reducible first | exact HB.out | apply below_alloc | apply pw_below_drewN | apply below_drew1) | exact HB.out)) hb); clear HO_10; clear HO469; clear HO472; clear HO476; clear HB; have HO_10 := n0_; have HO469 := n1_; have HO472 := n2_; have HO476 := n3_; have HO480 := n4_; have HO483 := n5_; have HB := n6_; clear n0_ n1_ n2_ n3_ n4_ n5_ n6_; (try clear hb); (try clear hb2); (try clear hk); (try clear hi); (try clear ho0); (try clear ho1); obtain ⟨Ao49, co49, eo49⟩ := Kd.V_slice HO483.out; subst eo49))
                    go_ret
                    exact ⟨by first | rfl | (simp [errW_none, errW_some] <;> rfl) | (simp [*, errW_none, errW_some] <;> rfl), by repeat (first | (with_reducible first | exact HB.out | apply below_alloc | apply pw_below_drewN | apply below_drew1) | exact HB.out)⟩
                  · rw [if_neg c41] at H
                    exact absurd H (by simp)
                · rw [if_neg c40] at H
                  exact absurd H (by simp)
  · replace c5 := Bool.eq_false_iff.mpr c5
    subst c5
    have H1 : (none) = some r := by rw [if_neg (show ¬ (false = true) by decide)] at H; exact H
    clear H
    have H := H1
    clear H1
    exact absurd H (by simp)

/-- THE ONE PURE STATEMENT of affidavitlaw04_SeriesFinds: yours. -/
def affidavitlaw04_SeriesFinds.Pure : Prop := ∀ (a0 : Int) (l1 : List Int) (l2 : List Int), (Lit.int .u64 a0).wf = true → l1.length ≤ maxLen → l1.length * 8 ≤ 140737488351232 → (∀ x ∈ l1, (Lit.int .u64 x).wf = true) → l2.length ≤ maxLen → l2.length * 8 ≤ 140737488351232 → (∀ x ∈ l2, (Lit.int .u64 x).wf = true) → ∃ k, affidavitlaw04_SeriesFinds.f k a0 l1 l2 = some true
theorem affidavitlaw04_SeriesFinds.walk (P : affidavitlaw04_SeriesFinds.Pure) (a0 : Int) (a1 : Option Addr) (len1 cap1 : Nat) (z1 : List Int) (a2 : Option Addr) (len2 cap2 : Nat) (z2 : List Int) (w : World) (w0 : (Lit.int .u64 a0).wf = true) (w1 : (a1 = none ∧ len1 = 0 ∧ cap1 = 0 ∧ z1 = []) ∨ ∃ x, a1 = some x ∧ len1 ≤ cap1 ∧ cap1 ≤ maxLen ∧ z1.length = cap1 ∧ (∀ i, i < z1.length → w.cell? (x.add i) = some (.int .u64 (z1.getD i 0))) ∧ ∀ n ∈ z1, (Lit.int .u64 n).wf = true) (y1 : len1 * 8 ≤ 140737488351232) (w2 : (a2 = none ∧ len2 = 0 ∧ cap2 = 0 ∧ z2 = []) ∨ ∃ x, a2 = some x ∧ len2 ≤ cap2 ∧ cap2 ≤ maxLen ∧ z2.length = cap2 ∧ (∀ i, i < z2.length → w.cell? (x.add i) = some (.int .u64 (z2.getD i 0))) ∧ ∀ n ∈ z2, (Lit.int .u64 n).wf = true) (y2 : len2 * 8 ≤ 140737488351232) :
    Calls Try.prog 7 #[.int .u64 a0, .slice a1 len1 cap1, .slice a2 len2 cap2] w fun e w' => e = .returned (.bool true) ∧ Below w.heap.size w w' := by
  obtain ⟨l1, rfl, hr1, hm1, hw1, hc1⟩ := ReadsInt.ofRowC w1
  obtain ⟨l2, rfl, hr2, hm2, hw2, hc2⟩ := ReadsInt.ofRowC w2
  obtain ⟨k, h⟩ := P a0 l1 l2 w0 hm1 y1 hw1 hm2 y2 hw2
  refine (affidavitlaw04_SeriesFinds.calls k a0 _ _ l1 _ _ l2 true w (Kd.C_of_reads (d := (0 : Int)) (h1 := fun _ => rfl) hr1) hc1 (Kd.C_of_reads (d := (0 : Int)) (h1 := fun _ => rfl) hr2) hc2 h).mono ?_
  rintro e w' ⟨rfl, hd⟩
  exact ⟨rfl, hd⟩

end Go.Proofs.Ytffcjgelcdilcaa.PSer

/- Contracts of functions of the given program: printed out of the translation by a program of this session, with texts by hand for what the print does not take. -/
import Derived.Test.YtffcjgelcdilcaaPAllx0
import Derived.Test.YtffcjgelcdilcaaPAllx1
import Derived.Test.YtffcjgelcdilcaaPAllx3
import Derived.Test.YtffcjgelcdilcaaPAllx4
import Derived.Test.YtffcjgelcdilcaaPAllx5
import Derived.Test.YtffcjgelcdilcaaPAllx6
import Derived.Test.YtffcjgelcdilcaaPAllx9
import Derived.Test.YtffcjgelcdilcaaPAllx12
namespace Go.Proofs.Ytffcjgelcdilcaa.PAll
open Go.RowKit Go.Proofs.YtffcjgelcdilcaaW.PrintWords Go.Proofs.YtffcjgelcdilcaaW.PrintLast Go.Proofs.YtffcjgelcdilcaaW.PrintMore
attribute [local go_sem] max2_int min2_int max_two min_two max_three min_three max_four min_four   -- for this text's walks alone
set_option linter.unusedVariables false
set_option linter.unusedSimpArgs false

/-! ### affidavitlaw03_PolyPlaces: function 12 -/
def affidavitlaw03_PolyPlaces.j0 : Nat → Int → List Int → List Int → Int → Bool → Option (Bool)
  | 0, _, _, _, _, _ => none
  | k + 1, x0, x1, x2, x3, x56 => if x56 = true then (some true) else ((poly_Add.f k x0 x1 x2).bind fun bt511 => ((poly_Mul.f k x0 x1 x2).bind fun bt515 => ((poly_Eval.f k x0 x1 x3).bind fun bt519 => ((poly_Eval.f k x0 x2 x3).bind fun bt521 => ((poly_Eval.f k x0 bt511.1 x3).bind fun bt523 => ((poly_Eval.f k x0 bt515.1 x3).bind fun bt525 => ((field_Add.f k x0 bt519.1 bt521.1).bind fun bt527 => ((field_Mul.f k x0 bt519.1 bt521.1).bind fun bt529 => ((field_Sub.f k x0 0 x3).bind fun bt531 => ((poly_Div.f k x0 x1 (([bt531.1, 1] : List Int))).bind fun bt536 => (if bt523.2 = 0 then (if bt525.2 = 0 then (if bt523.1 = bt527.1 then (if bt525.1 = bt529.1 then (if bt536.2.2 = 0 then (if (((bt536.2.1.length : Int) == 0) == (bt519.1 == 0)) = true then (if (bt536.2.1.length : Int) = 0 then (some true) else (if (bt536.2.1.length : Int) = 1 then (if 0 < (bt536.2.1.length : Int) then (some ((rd bt536.2.1 0) == bt519.1)) else (none)) else (none))) else (none)) else (none)) else (none)) else (none)) else (none)) else (none))))))))))))
def affidavitlaw03_PolyPlaces.f (k : Nat) (a0 : Int) (l1 : List Int) (l2 : List Int) (a3 : Int) : Option (Bool) := (affidavitlaw03_awake.f k).bind fun t508 => (if t508 = true then (if (l1.length : Int) > 100 then (affidavitlaw03_PolyPlaces.j0 k a0 l1 l2 a3 true) else (if (l2.length : Int) > 100 then (affidavitlaw03_PolyPlaces.j0 k a0 l1 l2 a3 true) else ((poly_Right.f k a0 l1).bind fun t509 => (if t509 = true then ((poly_Right.f k a0 l2).bind fun t510 => (if t510 = true then (affidavitlaw03_PolyPlaces.j0 k a0 l1 l2 a3 (decide (a3 ≥ a0))) else (affidavitlaw03_PolyPlaces.j0 k a0 l1 l2 a3 true))) else (affidavitlaw03_PolyPlaces.j0 k a0 l1 l2 a3 true))))) else (none))
theorem affidavitlaw03_PolyPlaces.mono_l : ∀ k, (∀ y0 y1 y2 y3 y4, LeO (affidavitlaw03_PolyPlaces.j0 k y0 y1 y2 y3 y4) (affidavitlaw03_PolyPlaces.j0 (k + 1) y0 y1 y2 y3 y4))
  | 0 => fun _ _ _ _ _ r h => by simp [affidavitlaw03_PolyPlaces.j0] at h
  | k + 1 => by
    have ih0 := affidavitlaw03_PolyPlaces.mono_l k
    · intro y0 y1 y2 y3 y4
      unfold affidavitlaw03_PolyPlaces.j0
      repeat' first
      | (with_reducible exact ih0 _ _ _ _ _)
      | (with_reducible exact affidavitlaw03_awake.mono _)
      | (with_reducible exact field_Add.mono _ _ _ _)
      | (with_reducible exact field_Mul.mono _ _ _ _)
      | (with_reducible exact field_Sub.mono _ _ _ _)
      | (with_reducible exact poly_Add.mono _ _ _ _)
      | (with_reducible exact poly_Div.mono _ _ _ _)
      | (with_reducible exact poly_Eval.mono _ _ _ _)
      | (with_reducible exact poly_Mul.mono _ _ _ _)
      | (with_reducible exact poly_Right.mono _ _ _)
      | (with_reducible exact LeO.refl _)
      | (with_reducible exact LeO.none _)
      | (with_reducible refine LeO.ite ?_ ?_)
      | (with_reducible refine LeO.bind ?_ (fun _ => ?_))
      | exact ih0 _ _ _ _ _
      | exact affidavitlaw03_awake.mono _
      | exact field_Add.mono _ _ _ _
      | exact field_Mul.mono _ _ _ _
      | exact field_Sub.mono _ _ _ _
      | exact poly_Add.mono _ _ _ _
      | exact poly_Div.mono _ _ _ _
      | exact poly_Eval.mono _ _ _ _
      | exact poly_Mul.mono _ _ _ _
      | exact poly_Right.mono _ _ _
      | exact LeO.none _
      | refine LeO.ite ?_ ?_
      | refine LeO.bind ?_ (fun _ => ?_)
theorem affidavitlaw03_PolyPlaces.mono : ∀ a0 a1 a2 a3 k, LeO (affidavitlaw03_PolyPlaces.f k a0 a1 a2 a3) (affidavitlaw03_PolyPlaces.f (k + 1) a0 a1 a2 a3) := by
  intro a0 a1 a2 a3 k
  have ih0 := affidavitlaw03_PolyPlaces.mono_l k
  unfold affidavitlaw03_PolyPlaces.f
  repeat' first
      | (with_reducible exact ih0 _ _ _ _ _)
      | (with_reducible exact affidavitlaw03_awake.mono _)
      | (with_reducible exact field_Add.mono _ _ _ _)
      | (with_reducible exact field_Mul.mono _ _ _ _)
      | (with_reducible exact field_Sub.mono _ _ _ _)
      | (with_reducible exact poly_Add.mono _ _ _ _)
      | (with_reducible exact poly_Div.mono _ _ _ _)
      | (with_reducible exact poly_Eval.mono _ _ _ _)
      | (with_reducible exact poly_Mul.mono _ _ _ _)
      | (with_reducible exact poly_Right.mono _ _ _)
      | (with_reducible exact LeO.refl _)
      | (with_reducible exact LeO.none _)
      | (with_reducible refine LeO.ite ?_ ?_)
      | (with_reducible refine LeO.bind ?_ (fun _ => ?_))
      | exact ih0 _ _ _ _ _
      | exact affidavitlaw03_awake.mono _
      | exact field_Add.mono _ _ _ _
      | exact field_Mul.mono _ _ _ _
      | exact field_Sub.mono _ _ _ _
      | exact poly_Add.mono _ _ _ _
      | exact poly_Div.mono _ _ _ _
      | exact poly_Eval.mono _ _ _ _
      | exact poly_Mul.mono _ _ _ _
      | exact poly_Right.mono _ _ _
      | exact LeO.none _
      | refine LeO.ite ?_ ?_
      | refine LeO.bind ?_ (fun _ => ?_)
set_option maxHeartbeats 8000000 in
set_option maxRecDepth 100000 in
theorem affidavitlaw03_PolyPlaces.calls (k : Nat) (a0 : Int) (A1 : Option Addr) (c1 : Nat) (l1 : List Int) (A2 : Option Addr) (c2 : Nat) (l2 : List Int) (a3 : Int) (r : Bool) (w : World) (hr1 : Kd.C (Kd.int .u64) w A1 l1.length l1) (hc1 : l1.length ≤ c1) (hr2 : Kd.C (Kd.int .u64) w A2 l2.length l2) (hc2 : l2.length ≤ c2) (h : affidavitlaw03_PolyPlaces.f k a0 l1 l2 a3 = some r) :
    Calls Try.prog 12 #[.int .u64 a0, .slice A1 l1.length c1, .slice A2 l2.length c2, .int .u64 a3] w fun e w' => e = .returned (.bool r) ∧ Below w.heap.size w w' := by
  have HR1 := Aside0.mk hr1
  have HC1 := Aside0.mk hc1
  clear hr1 hc1
  have HR2 := Aside0.mk hr2
  have HC2 := Aside0.mk hc2
  clear hr2 hc2
  have HB := Aside0.mk (Below.refl w.heap.size w)
  have H : ((affidavitlaw03_awake.f k).bind fun t508 => (if t508 = true then (if (l1.length : Int) > 100 then (affidavitlaw03_PolyPlaces.j0 k a0 l1 l2 a3 true) else (if (l2.length : Int) > 100 then (affidavitlaw03_PolyPlaces.j0 k a0 l1 l2 a3 true) else ((poly_Right.f k a0 l1).bind fun t509 => (if t509 = true then ((poly_Right.f k a0 l2).bind fun t510 => (if t510 = true then (affidavitlaw03_PolyPlaces.j0 k a0 l1 l2 a3 (decide (a3 ≥ a0))) else (affidavitlaw03_PolyPlaces.j0 k a0 l1 l2 a3 true))) else (affidavitlaw03_PolyPlaces.j0 k a0 l1 l2 a3 true))))) else (none))) = some r := h
  clear h
  replace H := Option.bind_eq_some_iff.mp H
  obtain ⟨t508, A50, H⟩ := H
  replace H : (if t508 = true then (if (l1.length : Int) > 100 then (affidavitlaw03_PolyPlaces.j0 k a0 l1 l2 a3 true) else (if (l2.length : Int) > 100 then (affidavitlaw03_PolyPlaces.j0 k a0 l1 l2 a3 true) else ((poly_Right.f k a0 l1).bind fun t509 => (if t509 = true then ((poly_Right.f k a0 l2).bind fun t510 => (if t510 = true then (affidavitlaw03_PolyPlaces.j0 k a0 l1 l2 a3 (decide (a3 ≥ a0))) else (affidavitlaw03_PolyPlaces.j0 k a0 l1 l2 a3 true))) else (affidavitlaw03_PolyPlaces.j0 k a0 l1 l2 a3 true))))) else (none)) = some r := H
  have A5 := Aside0.mk A50
  clear A50
  by_cases c6 : t508 = true
  · subst c6
    have H1 : (if (l1.length : Int) > 100 then (affidavitlaw03_PolyPlaces.j0 k a0 l1 l2 a3 true) else (if (l2.length : Int) > 100 then (affidavitlaw03_PolyPlaces.j0 k a0 l1 l2 a3 true) else ((poly_Right.f k a0 l1).bind fun t509 => (if t509 = true then ((poly_Right.f k a0 l2).bind fun t510 => (if t510 = true then (affidavitlaw03_PolyPlaces.j0 k a0 l1 l2 a3 (decide (a3 ≥ a0))) else (affidavitlaw03_PolyPlaces.j0 k a0 l1 l2 a3 true))) else (affidavitlaw03_PolyPlaces.j0 k a0 l1 l2 a3 true))))) = some r := by rw [if_pos rfl] at H; exact H
    clear H
    have H := H1
    clear H1
    have HC7 := Aside0.mk H
    clear H
    go_enter Try.func12, Try.ntmps12
    go_upto_region 3 with (first | ((with_reducible refine gate_callee (f := 33) rfl ?_); refine goesL_ (some 30) rfl rfl Try.func33 (by kernel_rfl) rfl #[] rfl (by (try simp only [List.map_toArray, List.map_cons, List.map_nil]); first | done | rfl | (simp only [List.length_drop, List.length_take]; rfl)) ?_; (with_reducible refine (affidavitlaw03_awake.calls k  true _ A5.out).mono ?_); rintro e w8 ⟨rfl, hb⟩; refine ⟨_, rfl, ?_⟩; have n0_ := Aside0.mk (below_step (by repeat (first | (with_reducible first | exact HB.out | apply below_alloc | apply pw_below_drewN | apply below_drew1) | exact HB.out)) hb); clear HB; have HB := n0_; clear n0_; (try clear hb); (try clear hb2); (try clear hk); (try clear hi)))
    (try simp only [Act.put, List.setIfInBounds_toArray, List.set_cons_zero, List.set_cons_succ])
    go_cut [56] (fun v56 wc => ∃ (kq : Nat) (x56_6 : Bool), v56 = .bool x56_6 ∧ Aside0 (affidavitlaw03_PolyPlaces.j0 kq a0 l1 l2 a3 x56_6 = some r) ∧ Aside0 (kq ≤ k) ∧ Aside0 (Below w.heap.size w wc))
    case first =>
      have H := HC7.out
      clear HC7
      by_cases c9 : (l1.length : Int) > 100
      · rw [if_pos c9] at H
        have c9b0 : decide (100 < (l1.length : Int)) = true := decide_eq_true c9
        have c9b1 : decide (100 < l1.length) = true := decide_eq_true (by omega)
        clear c9
        (first | rw [c9b0] | (simp only [i64_w, i32_w]; rw [c9b0]) | skip)
        have H' := Aside0.mk H
        clear H
        go_wp2
        go_meet
        case rel => exact ⟨_, (true), (by first | rfl | (simp; done) | (simp [*]; done)), H', ⟨by first | omega | exact Nat.le_refl _⟩, ⟨by repeat (first | (with_reducible first | exact HB.out | apply below_alloc | apply pw_below_drewN | apply below_drew1) | exact HB.out)⟩⟩
      · rw [if_neg c9] at H
        have c9b0 : decide (100 < (l1.length : Int)) = false := decide_eq_false c9
        have c9b1 : decide (100 < l1.length) = false := decide_eq_false (by omega)
        clear c9
        (first | rw [c9b0] | (simp only [i64_w, i32_w]; rw [c9b0]) | skip)
        by_cases c10 : (l2.length : Int) > 100
        · rw [if_pos c10] at H
          have c10b0 : decide (100 < (l2.length : Int)) = true := decide_eq_true c10
          have c10b1 : decide (100 < l2.length) = true := decide_eq_true (by omega)
          clear c10
          have H' := Aside0.mk H
          clear H
          go_wp2
          go_meet
          case rel => exact ⟨_, (true), (by first | rfl | (simp; done) | (simp [*]; done)), H', ⟨by first | omega | exact Nat.le_refl _⟩, ⟨by repeat (first | (with_reducible first | exact HB.out | apply below_alloc | apply pw_below_drewN | apply below_drew1) | exact HB.out)⟩⟩
        · rw [if_neg c10] at H
          have c10b0 : decide (100 < (l2.length : Int)) = false := decide_eq_false c10
          have c10b1 : decide (100 < l2.length) = false := decide_eq_false (by omega)
          clear c10
          replace H := Option.bind_eq_some_iff.mp H
          obtain ⟨t509, A110, H⟩ := H
          replace H : (if t509 = true then ((poly_Right.f k a0 l2).bind fun t510 => (if t510 = true then (affidavitlaw03_PolyPlaces.j0 k a0 l1 l2 a3 (decide (a3 ≥ a0))) else (affidavitlaw03_PolyPlaces.j0 k a0 l1 l2 a3 true))) else (affidavitlaw03_PolyPlaces.j0 k a0 l1 l2 a3 true)) = some r := H
          have A11 := Aside0.mk A110
          clear A110
          by_cases c12 : t509 = true
          · subst c12
            have H1 : ((poly_Right.f k a0 l2).bind fun t510 => (if t510 = true then (affidavitlaw03_PolyPlaces.j0 k a0 l1 l2 a3 (decide (a3 ≥ a0))) else (affidavitlaw03_PolyPlaces.j0 k a0 l1 l2 a3 true))) = some r := by rw [if_pos rfl] at H; exact H
            clear H
            have H := H1
            clear H1
            replace H := Option.bind_eq_some_iff.mp H
            obtain ⟨t510, A130, H⟩ := H
            replace H : (if t510 = true then (affidavitlaw03_PolyPlaces.j0 k a0 l1 l2 a3 (decide (a3 ≥ a0))) else (affidavitlaw03_PolyPlaces.j0 k a0 l1 l2 a3 true)) = some r := H
            have A13 := Aside0.mk A130
            clear A130
            by_cases c14 : t510 = true
            · subst c14
              have H1 : (affidavitlaw03_PolyPlaces.j0 k a0 l1 l2 a3 (decide (a3 ≥ a0))) = some r := by rw [if_pos rfl] at H; exact H
              clear H
              have H := H1
              clear H1
              have H' := Aside0.mk H
              clear H
              go_wp2_with (first | (go_at_call 39; (with_reducible refine (poly_Right.calls k a0 _ _ l1 true _ ?side1 ?side2 A11.out).mono ?_); (case side1 => repeat (first | exact (Kd.C_below HR1.out HB.out) | (with_reducible refine Kd.C_alloc ?_ _) | (with_reducible refine Kd.C_drewN ?_ _) | (with_reducible refine Kd.C_drew ?_))); (case side2 => exact HC1.out); rintro e w' ⟨rfl, ⟨nd, rfl⟩⟩) | (go_at_call 39; (with_reducible refine (poly_Right.calls k a0 _ _ l2 true _ ?side1 ?side2 A13.out).mono ?_); (case side1 => repeat (first | exact (Kd.C_below HR2.out (by repeat (first | (with_reducible first | exact HB.out | apply below_alloc | apply pw_below_drewN | apply below_drew1) | exact HB.out))) | (with_reducible refine Kd.C_alloc ?_ _) | (with_reducible refine Kd.C_drewN ?_ _) | (with_reducible refine Kd.C_drew ?_))); (case side2 => exact HC2.out); rintro e w' ⟨rfl, ⟨nd, rfl⟩⟩))
              go_meet
              case rel => exact ⟨_, (decide (a3 ≥ a0)), (by first | rfl | (simp; done) | (simp [*]; done)), H', ⟨by first | omega | exact Nat.le_refl _⟩, ⟨by repeat (first | (with_reducible first | exact HB.out | apply below_alloc | apply pw_below_drewN | apply below_drew1) | exact HB.out)⟩⟩
            · replace c14 := Bool.eq_false_iff.mpr c14
              subst c14
              have H1 : (affidavitlaw03_PolyPlaces.j0 k a0 l1 l2 a3 true) = some r := by rw [if_neg (show ¬ (false = true) by decide)] at H; exact H
              clear H
              have H := H1
              clear H1
              have H' := Aside0.mk H
              clear H
              go_wp2_with (first | (go_at_call 39; (with_reducible refine (poly_Right.calls k a0 _ _ l1 true _ ?side1 ?side2 A11.out).mono ?_); (case side1 => repeat (first | exact (Kd.C_below HR1.out HB.out) | (with_reducible refine Kd.C_alloc ?_ _) | (with_reducible refine Kd.C_drewN ?_ _) | (with_reducible refine Kd.C_drew ?_))); (case side2 => exact HC1.out); rintro e w' ⟨rfl, ⟨nd, rfl⟩⟩) | (go_at_call 39; (with_reducible refine (poly_Right.calls k a0 _ _ l2 false _ ?side1 ?side2 A13.out).mono ?_); (case side1 => repeat (first | exact (Kd.C_below HR2.out (by repeat (first | (with_reducible first | exact HB.out | apply below_alloc | apply pw_below_drewN | apply below_drew1) | exact HB.out))) | (with_reducible refine Kd.C_alloc ?_ _) | (with_reducible refine Kd.C_drewN ?_ _) | (with_reducible refine Kd.C_drew ?_))); (case side2 => exact HC2.out); rintro e w' ⟨rfl, ⟨nd, rfl⟩⟩))
              go_meet
              case rel => exact ⟨_, (true), (by first | rfl | (simp; done) | (simp [*]; done)), H', ⟨by first | omega | exact Nat.le_refl _⟩, ⟨by repeat (first | (with_reducible first | exact HB.out | apply below_alloc | apply pw_below_drewN | apply below_drew1) | exact HB.out)⟩⟩
          · replace c12 := Bool.eq_false_iff.mpr c12
            subst c12
            have H1 : (affidavitlaw03_PolyPlaces.j0 k a0 l1 l2 a3 true) = some r := by rw [if_neg (show ¬ (false = true) by decide)] at H; exact H
            clear H
            have H := H1
            clear H1
            have H' := Aside0.mk H
            clear H
            go_wp2_with (first | (go_at_call 39; (with_reducible refine (poly_Right.calls k a0 _ _ l1 false _ ?side1 ?side2 A11.out).mono ?_); (case side1 => repeat (first | exact (Kd.C_below HR1.out HB.out) | (with_reducible refine Kd.C_alloc ?_ _) | (with_reducible refine Kd.C_drewN ?_ _) | (with_reducible refine Kd.C_drew ?_))); (case side2 => exact HC1.out); rintro e w' ⟨rfl, ⟨nd, rfl⟩⟩))
            go_meet
            case rel => exact ⟨_, (true), (by first | rfl | (simp; done) | (simp [*]; done)), H', ⟨by first | omega | exact Nat.le_refl _⟩, ⟨by repeat (first | (with_reducible first | exact HB.out | apply below_alloc | apply pw_below_drewN | apply below_drew1) | exact HB.out)⟩⟩
    case rest =>
      clear HC7
      try clear c1
      try clear c2
      try clear p2
      try clear c3
      try clear c6
      try clear c9
      try clear c9b0
      try clear c9b1
      try clear c10
      try clear c10b0
      try clear c10b1
      try clear c12
      try clear c14
      obtain ⟨kq, x56_6, rfl, HA, HJ6, HB⟩ := hcut
      cases kq with
      | zero => exact absurd HA.out (by simp [affidavitlaw03_PolyPlaces.j0])
      | succ kj6 =>
        have H := HA.out
        clear HA
        simp only [affidavitlaw03_PolyPlaces.j0] at H
        by_cases c15 : x56_6 = true
        · subst c15
          have H1 : (some true) = some r := by rw [if_pos rfl] at H; exact H
          clear H
          have H := H1
          clear H1
          obtain rfl := Option.some.inj H
          go_wp2
          go_ret
          exact ⟨by first | rfl | (simp [errW_none, errW_some] <;> rfl) | (simp [*, errW_none, errW_some] <;> rfl), by repeat (first | (with_reducible first | exact HB.out | apply below_alloc | apply pw_below_drewN | apply below_drew1) | exact HB.out)⟩
        · replace c15 := Bool.eq_false_iff.mpr c15
          subst c15
          have H1 : ((poly_Add.f kj6 a0 l1 l2).bind fun bt511 => ((poly_Mul.f kj6 a0 l1 l2).bind fun bt515 => ((poly_Eval.f kj6 a0 l1 a3).bind fun bt519 => ((poly_Eval.f kj6 a0 l2 a3).bind fun bt521 => ((poly_Eval.f kj6 a0 bt511.1 a3).bind fun bt523 => ((poly_Eval.f kj6 a0 bt515.1 a3).bind fun bt525 => ((field_Add.f kj6 a0 bt519.1 bt521.1).bind fun bt527 => ((field_Mul.f kj6 a0 bt519.1 bt521.1).bind fun bt529 => ((field_Sub.f kj6 a0 0 a3).bind fun bt531 => ((poly_Div.f kj6 a0 l1 (([bt531.1, 1] : List Int))).bind fun bt536 => (if bt523.2 = 0 then (if bt525.2 = 0 then (if bt523.1 = bt527.1 then (if bt525.1 = bt529.1 then (if bt536.2.2 = 0 then (if (((bt536.2.1.length : Int) == 0) == (bt519.1 == 0)) = true then (if (bt536.2.1.length : Int) = 0 then (some true) else (if (bt536.2.1.length : Int) = 1 then (if 0 < (bt536.2.1.length : Int) then (some ((rd bt536.2.1 0) == bt519.1)) else (none)) else (none))) else (none)) else (none)) else (none)) else (none)) else (none)) else (none)))))))))))) = some r := by rw [if_neg (show ¬ (false = true) by decide)] at H; exact H
          clear H
          have H := H1
          clear H1
          replace H := Option.bind_eq_some_iff.mp H
          obtain ⟨⟨t511, t514⟩, A160, H⟩ := H
          replace H : ((poly_Mul.f kj6 a0 l1 l2).bind fun bt515 => ((poly_Eval.f kj6 a0 l1 a3).bind fun bt519 => ((poly_Eval.f kj6 a0 l2 a3).bind fun bt521 => ((poly_Eval.f kj6 a0 t511 a3).bind fun bt523 => ((poly_Eval.f kj6 a0 bt515.1 a3).bind fun bt525 => ((field_Add.f kj6 a0 bt519.1 bt521.1).bind fun bt527 => ((field_Mul.f kj6 a0 bt519.1 bt521.1).bind fun bt529 => ((field_Sub.f kj6 a0 0 a3).bind fun bt531 => ((poly_Div.f kj6 a0 l1 (([bt531.1, 1] : List Int))).bind fun bt536 => (if bt523.2 = 0 then (if bt525.2 = 0 then (if bt523.1 = bt527.1 then (if bt525.1 = bt529.1 then (if bt536.2.2 = 0 then (if (((bt536.2.1.length : Int) == 0) == (bt519.1 == 0)) = true then (if (bt536.2.1.length : Int) = 0 then (some true) else (if (bt536.2.1.length : Int) = 1 then (if 0 < (bt536.2.1.length : Int) then (some ((rd bt536.2.1 0) == bt519.1)) else (none)) else (none))) else (none)) else (none)) else (none)) else (none)) else (none)) else (none))))))))))) = some r := H
          have A16 := Aside0.mk A160
          clear A160
          replace H := Option.bind_eq_some_iff.mp H
          obtain ⟨⟨t515, t518⟩, A170, H⟩ := H
          replace H : ((poly_Eval.f kj6 a0 l1 a3).bind fun bt519 => ((poly_Eval.f kj6 a0 l2 a3).bind fun bt521 => ((poly_Eval.f kj6 a0 t511 a3).bind fun bt523 => ((poly_Eval.f kj6 a0 t515 a3).bind fun bt525 => ((field_Add.f kj6 a0 bt519.1 bt521.1).bind fun bt527 => ((field_Mul.f kj6 a0 bt519.1 bt521.1).bind fun bt529 => ((field_Sub.f kj6 a0 0 a3).bind fun bt531 => ((poly_Div.f kj6 a0 l1 (([bt531.1, 1] : List Int))).bind fun bt536 => (if bt523.2 = 0 then (if bt525.2 = 0 then (if bt523.1 = bt527.1 then (if bt525.1 = bt529.1 then (if bt536.2.2 = 0 then (if (((bt536.2.1.length : Int) == 0) == (bt519.1 == 0)) = true then (if (bt536.2.1.length : Int) = 0 then (some true) else (if (bt536.2.1.length : Int) = 1 then (if 0 < (bt536.2.1.length : Int) then (some ((rd bt536.2.1 0) == bt519.1)) else (none)) else (none))) else (none)) else (none)) else (none)) else (none)) else (none)) else (none)))))))))) = some r := H
          have A17 := Aside0.mk A170
          clear A170
          replace H := Option.bind_eq_some_iff.mp H
          obtain ⟨⟨t519, t520⟩, A180, H⟩ := H
          replace H : ((poly_Eval.f kj6 a0 l2 a3).bind fun bt521 => ((poly_Eval.f kj6 a0 t511 a3).bind fun bt523 => ((poly_Eval.f kj6 a0 t515 a3).bind fun bt525 => ((field_Add.f kj6 a0 t519 bt521.1).bind fun bt527 => ((field_Mul.f kj6 a0 t519 bt521.1).bind fun bt529 => ((field_Sub.f kj6 a0 0 a3).bind fun bt531 => ((poly_Div.f kj6 a0 l1 (([bt531.1, 1] : List Int))).bind fun bt536 => (if bt523.2 = 0 then (if bt525.2 = 0 then (if bt523.1 = bt527.1 then (if bt525.1 = bt529.1 then (if bt536.2.2 = 0 then (if (((bt536.2.1.length : Int) == 0) == (t519 == 0)) = true then (if (bt536.2.1.length : Int) = 0 then (some true) else (if (bt536.2.1.length : Int) = 1 then (if 0 < (bt536.2.1.length : Int) then (some ((rd bt536.2.1 0) == t519)) else (none)) else (none))) else (none)) else (none)) else (none)) else (none)) else (none)) else (none))))))))) = some r := H
          have A18 := Aside0.mk A180
          clear A180
          replace H := Option.bind_eq_some_iff.mp H
          obtain ⟨⟨t521, t522⟩, A190, H⟩ := H
          replace H : ((poly_Eval.f kj6 a0 t511 a3).bind fun bt523 => ((poly_Eval.f kj6 a0 t515 a3).bind fun bt525 => ((field_Add.f kj6 a0 t519 t521).bind fun bt527 => ((field_Mul.f kj6 a0 t519 t521).bind fun bt529 => ((field_Sub.f kj6 a0 0 a3).bind fun bt531 => ((poly_Div.f kj6 a0 l1 (([bt531.1, 1] : List Int))).bind fun bt536 => (if bt523.2 = 0 then (if bt525.2 = 0 then (if bt523.1 = bt527.1 then (if bt525.1 = bt529.1 then (if bt536.2.2 = 0 then (if (((bt536.2.1.length : Int) == 0) == (t519 == 0)) = true then (if (bt536.2.1.length : Int) = 0 then (some true) else (if (bt536.2.1.length : Int) = 1 then (if 0 < (bt536.2.1.length : Int) then (some ((rd bt536.2.1 0) == t519)) else (none)) else (none))) else (none)) else (none)) else (none)) else (none)) else (none)) else (none)))))))) = some r := H
          have A19 := Aside0.mk A190
          clear A190
          replace H := Option.bind_eq_some_iff.mp H
          obtain ⟨⟨t523, t524⟩, A200, H⟩ := H
          replace H : ((poly_Eval.f kj6 a0 t515 a3).bind fun bt525 => ((field_Add.f kj6 a0 t519 t521).bind fun bt527 => ((field_Mul.f kj6 a0 t519 t521).bind fun bt529 => ((field_Sub.f kj6 a0 0 a3).bind fun bt531 => ((poly_Div.f kj6 a0 l1 (([bt531.1, 1] : List Int))).bind fun bt536 => (if t524 = 0 then (if bt525.2 = 0 then (if t523 = bt527.1 then (if bt525.1 = bt529.1 then (if bt536.2.2 = 0 then (if (((bt536.2.1.length : Int) == 0) == (t519 == 0)) = true then (if (bt536.2.1.length : Int) = 0 then (some true) else (if (bt536.2.1.length : Int) = 1 then (if 0 < (bt536.2.1.length : Int) then (some ((rd bt536.2.1 0) == t519)) else (none)) else (none))) else (none)) else (none)) else (none)) else (none)) else (none)) else (none))))))) = some r := H
          have A20 := Aside0.mk A200
          clear A200
          replace H := Option.bind_eq_some_iff.mp H
          obtain ⟨⟨t525, t526⟩, A210, H⟩ := H
          replace H : ((field_Add.f kj6 a0 t519 t521).bind fun bt527 => ((field_Mul.f kj6 a0 t519 t521).bind fun bt529 => ((field_Sub.f kj6 a0 0 a3).bind fun bt531 => ((poly_Div.f kj6 a0 l1 (([bt531.1, 1] : List Int))).bind fun bt536 => (if t524 = 0 then (if t526 = 0 then (if t523 = bt527.1 then (if t525 = bt529.1 then (if bt536.2.2 = 0 then (if (((bt536.2.1.length : Int) == 0) == (t519 == 0)) = true then (if (bt536.2.1.length : Int) = 0 then (some true) else (if (bt536.2.1.length : Int) = 1 then (if 0 < (bt536.2.1.length : Int) then (some ((rd bt536.2.1 0) == t519)) else (none)) else (none))) else (none)) else (none)) else (none)) else (none)) else (none)) else (none)))))) = some r := H
          have A21 := Aside0.mk A210
          clear A210
          replace H := Option.bind_eq_some_iff.mp H
          obtain ⟨⟨t527, t528⟩, A220, H⟩ := H
          replace H : ((field_Mul.f kj6 a0 t519 t521).bind fun bt529 => ((field_Sub.f kj6 a0 0 a3).bind fun bt531 => ((poly_Div.f kj6 a0 l1 (([bt531.1, 1] : List Int))).bind fun bt536 => (if t524 = 0 then (if t526 = 0 then (if t523 = t527 then (if t525 = bt529.1 then (if bt536.2.2 = 0 then (if (((bt536.2.1.length : Int) == 0) == (t519 == 0)) = true then (if (bt536.2.1.length : Int) = 0 then (some true) else (if (bt536.2.1.length : Int) = 1 then (if 0 < (bt536.2.1.length : Int) then (some ((rd bt536.2.1 0) == t519)) else (none)) else (none))) else (none)) else (none)) else (none)) else (none)) else (none)) else (none))))) = some r := H
          have A22 := Aside0.mk A220
          clear A220
          replace H := Option.bind_eq_some_iff.mp H
          obtain ⟨⟨t529, t530⟩, A230, H⟩ := H
          replace H : ((field_Sub.f kj6 a0 0 a3).bind fun bt531 => ((poly_Div.f kj6 a0 l1 (([bt531.1, 1] : List Int))).bind fun bt536 => (if t524 = 0 then (if t526 = 0 then (if t523 = t527 then (if t525 = t529 then (if bt536.2.2 = 0 then (if (((bt536.2.1.length : Int) == 0) == (t519 == 0)) = true then (if (bt536.2.1.length : Int) = 0 then (some true) else (if (bt536.2.1.length : Int) = 1 then (if 0 < (bt536.2.1.length : Int) then (some ((rd bt536.2.1 0) == t519)) else (none)) else (none))) else (none)) else (none)) else (none)) else (none)) else (none)) else (none)))) = some r := H
          have A23 := Aside0.mk A230
          clear A230
          replace H := Option.bind_eq_some_iff.mp H
          obtain ⟨⟨t531, t532⟩, A240, H⟩ := H
          replace H : ((poly_Div.f kj6 a0 l1 (([t531, 1] : List Int))).bind fun bt536 => (if t524 = 0 then (if t526 = 0 then (if t523 = t527 then (if t525 = t529 then (if bt536.2.2 = 0 then (if (((bt536.2.1.length : Int) == 0) == (t519 == 0)) = true then (if (bt536.2.1.length : Int) = 0 then (some true) else (if (bt536.2.1.length : Int) = 1 then (if 0 < (bt536.2.1.length : Int) then (some ((rd bt536.2.1 0) == t519)) else (none)) else (none))) else (none)) else (none)) else (none)) else (none)) else (none)) else (none))) = some r := H
          have A24 := Aside0.mk A240
          clear A240
          obtain ⟨y533, hy533⟩ : ∃ y_ : List Int, y_ = (([t531, 1] : List Int)) := ⟨_, rfl⟩
          replace H : ((poly_Div.f kj6 a0 l1 y533).bind fun bt536 => (if t524 = 0 then (if t526 = 0 then (if t523 = t527 then (if t525 = t529 then (if bt536.2.2 = 0 then (if (((bt536.2.1.length : Int) == 0) == (t519 == 0)) = true then (if (bt536.2.1.length : Int) = 0 then (some true) else (if (bt536.2.1.length : Int) = 1 then (if 0 < (bt536.2.1.length : Int) then (some ((rd bt536.2.1 0) == t519)) else (none)) else (none))) else (none)) else (none)) else (none)) else (none)) else (none)) else (none))) = some r := by first | (rw [hy533]; with_reducible exact H) | (have H2_ := (Option.bind_some _ _).symm.trans H; rw [hy533]; with_reducible exact H2_) | (have H2_ := (Option.bind_some _ _).symm.trans H; with_reducible exact H2_) | with_reducible exact H | (rw [hy533]; exact H) | exact H
          have Ny533 := Aside0.mk hy533
          clear hy533
          replace H := Option.bind_eq_some_iff.mp H
          obtain ⟨⟨t536, t539, t542⟩, A250, H⟩ := H
          replace H : (if t524 = 0 then (if t526 = 0 then (if t523 = t527 then (if t525 = t529 then (if t542 = 0 then (if (((t539.length : Int) == 0) == (t519 == 0)) = true then (if (t539.length : Int) = 0 then (some true) else (if (t539.length : Int) = 1 then (if 0 < (t539.length : Int) then (some ((rd t539 0) == t519)) else (none)) else (none))) else (none)) else (none)) else (none)) else (none)) else (none)) else (none)) = some r := H
          have A25 := Aside0.mk A250
          clear A250
          by_cases c26 : t524 = 0
          · rw [if_pos c26] at H
            have c26b0 : (t524 == 0) = true := beq_iff_eq.mpr c26
            have c26b1 : (t524 != 0) = false := bne_eq_false_iff_eq.mpr c26
            clear c26
            by_cases c27 : t526 = 0
            · rw [if_pos c27] at H
              have c27b0 : (t526 == 0) = true := beq_iff_eq.mpr c27
              have c27b1 : (t526 != 0) = false := bne_eq_false_iff_eq.mpr c27
              clear c27
              by_cases c28 : t523 = t527
              · rw [if_pos c28] at H
                have c28b0 : (t523 == t527) = true := beq_iff_eq.mpr c28
                have c28b1 : (t523 != t527) = false := bne_eq_false_iff_eq.mpr c28
                clear c28
                by_cases c29 : t525 = t529
                · rw [if_pos c29] at H
                  have c29b0 : (t525 == t529) = true := beq_iff_eq.mpr c29
                  have c29b1 : (t525 != t529) = false := bne_eq_false_iff_eq.mpr c29
                  clear c29
                  by_cases c30 : t542 = 0
                  · rw [if_pos c30] at H
                    have c30b0 : (t542 == 0) = true := beq_iff_eq.mpr c30
                    have c30b1 : (t542 != 0) = false := bne_eq_false_iff_eq.mpr c30
                    clear c30
                    by_cases c31 : (((t539.length : Int) == 0) == (t519 == 0)) = true
                    · rw [if_pos c31] at H
                      have c31b0 : (((t539.length : Int) == 0) == (t519 == 0)) = true := c31
                      (try (have c31b1 : decide (((t539.length : Int) == 0) = (t519 == 0)) = true := by simpa using c31))
                      (try (have c31b2 : (((t539.length : Int) == 0) == (t519 == 0)) = true := by simpa using c31))
                      clear c31
                      by_cases c32 : (t539.length : Int) = 0
                      · rw [if_pos c32] at H
                        have c32b0 : ((t539.length : Int) == 0) = true := beq_iff_eq.mpr c32
                        have c32b0y : (t519 == 0) = true := by have h_ := c31b0; rw [c32b0] at h_; simpa using h_
                        have c32b1 : ((t539.length : Int) != 0) = false := bne_eq_false_iff_eq.mpr c32
                        clear c32
                        obtain rfl := Option.some.inj H
                        go_wp2_with (first | ((with_reducible refine gate_callee (f := 42) rfl ?_); refine goesL_ (some 61) rfl rfl Try.func42 (by kernel_rfl) rfl #[.int .u64 a0, .slice A1 l1.length c1, .slice A2 l2.length c2] rfl (by (try simp only [List.map_toArray, List.map_cons, List.map_nil]); first | done | rfl | (simp only [List.length_drop, List.length_take]; rfl)) ?_; (with_reducible refine (poly_Add.calls kj6 a0 _ _ l1 _ _ l2 t511 t514 _ ?side1 ?side2 ?side3 ?side4 A16.out).mono ?_); (case side1 => repeat (first | exact (Kd.C_below HR1.out HB.out) | (with_reducible refine Kd.C_alloc ?_ _) | (with_reducible refine Kd.C_drewN ?_ _) | (with_reducible refine Kd.C_drew ?_))); (case side2 => exact HC1.out); (case side3 => repeat (first | exact (Kd.C_below HR2.out HB.out) | (with_reducible refine Kd.C_alloc ?_ _) | (with_reducible refine Kd.C_drewN ?_ _) | (with_reducible refine Kd.C_drew ?_))); (case side4 => exact HC2.out); rintro e w33 ⟨v512, rfl, ho0, hb⟩; refine ⟨_, rfl, ?_⟩; have n0_ := Aside0.mk (Kd.V_lower (Kd.V_mono (ok' := fun k_ => True) ho0 (fun k_ hk_ => trivial)) (below_size (by repeat (first | (with_reducible first | exact HB.out | apply below_alloc | apply pw_below_drewN | apply below_drew1) | exact HB.out)))); have n1_ := Aside0.mk (below_step (by repeat (first | (with_reducible first | exact HB.out | apply below_alloc | apply pw_below_drewN | apply below_drew1) | exact HB.out)) hb); clear HB; have HO513 := n0_; have HB := n1_; clear n0_ n1_; (try clear hb); (try clear hb2); (try clear hk); (try clear hi); (try clear ho0)) | ((with_reducible refine gate_callee (f := 36) rfl ?_); refine goesL_ (some 68) rfl rfl Try.func36 (by kernel_rfl) rfl #[.int .u64 a0, .slice A1 l1.length c1, .slice A2 l2.length c2] rfl (by (try simp only [List.map_toArray, List.map_cons, List.map_nil]); first | done | rfl | (simp only [List.length_drop, List.length_take]; rfl)) ?_; (with_reducible refine (poly_Mul.calls kj6 a0 _ _ l1 _ _ l2 t515 t518 _ ?side1 ?side2 ?side3 ?side4 A17.out).mono ?_); (case side1 => repeat (first | exact (Kd.C_below HR1.out HB.out) | (with_reducible refine Kd.C_alloc ?_ _) | (with_reducible refine Kd.C_drewN ?_ _) | (with_reducible refine Kd.C_drew ?_))); (case side2 => exact HC1.out); (case side3 => repeat (first | exact (Kd.C_below HR2.out HB.out) | (with_reducible refine Kd.C_alloc ?_ _) | (with_reducible refine Kd.C_drewN ?_ _) | (with_reducible refine Kd.C_drew ?_))); (case side4 => exact HC2.out); rintro e w34 ⟨v516, rfl, ho0, hb⟩; refine ⟨_, rfl, ?_⟩; have n0_ := Aside0.mk (Kd.V_below (by (with_reducible repeat (first | apply Kd.V_alloc | apply Kd.V_drewN | apply Kd.V_drew)); exact HO513.out) hb); have n1_ := Aside0.mk (Kd.V_lower (Kd.V_mono (ok' := fun k_ => True) ho0 (fun k_ hk_ => trivial)) (below_size (by repeat (first | (with_reducible first | exact HB.out | apply below_alloc | apply pw_below_drewN | apply below_drew1) | exact HB.out)))); have n2_ := Aside0.mk (below_step (by repeat (first | (with_reducible first | exact HB.out | apply below_alloc | apply pw_below_drewN | apply below_drew1) | exact HB.out)) hb); clear HO513; clear HB; have HO513 := n0_; have HO517 := n1_; have HB := n2_; clear n0_ n1_ n2_; (try clear hb); (try clear hb2); (try clear hk); (try clear hi); (try clear ho0)) | ((with_reducible refine gate_callee (f := 37) rfl ?_); refine goesL_ (some 75) rfl rfl Try.func37 (by kernel_rfl) rfl #[.int .u64 a0, .slice A1 l1.length c1, .int .u64 a3] rfl (by (try simp only [List.map_toArray, List.map_cons, List.map_nil]); first | done | rfl | (simp only [List.length_drop, List.length_take]; rfl)) ?_; (with_reducible refine (poly_Eval.calls kj6 a0 _ _ l1 a3 t519 t520 _ ?side1 ?side2 A18.out).mono ?_); (case side1 => repeat (first | exact (Kd.C_below HR1.out HB.out) | (with_reducible refine Kd.C_alloc ?_ _) | (with_reducible refine Kd.C_drewN ?_ _) | (with_reducible refine Kd.C_drew ?_))); (case side2 => exact HC1.out); rintro e w35 ⟨rfl, hb⟩; refine ⟨_, rfl, ?_⟩; have n0_ := Aside0.mk (Kd.V_below (by (with_reducible repeat (first | apply Kd.V_alloc | apply Kd.V_drewN | apply Kd.V_drew)); exact HO513.out) hb); have n1_ := Aside0.mk (Kd.V_below (by (with_reducible repeat (first | apply Kd.V_alloc | apply Kd.V_drewN | apply Kd.V_drew)); exact HO517.out) hb); have n2_ := Aside0.mk (below_step (by repeat (first | (with_reducible first | exact HB.out | apply below_alloc | apply pw_below_drewN | apply below_drew1) | exact HB.out)) hb); clear HO513; clear HO517; clear HB; have HO513 := n0_; have HO517 := n1_; have HB := n2_; clear n0_ n1_ n2_; (try clear hb); (try clear hb2); (try clear hk); (try clear hi)) | ((with_reducible refine gate_callee (f := 37) rfl ?_); refine goesL_ (some 82) rfl rfl Try.func37 (by kernel_rfl) rfl #[.int .u64 a0, .slice A2 l2.length c2, .int .u64 a3] rfl (by (try simp only [List.map_toArray, List.map_cons, List.map_nil]); first | done | rfl | (simp only [List.length_drop, List.length_take]; rfl)) ?_; (with_reducible refine (poly_Eval.calls kj6 a0 _ _ l2 a3 t521 t522 _ ?side1 ?side2 A19.out).mono ?_); (case side1 => repeat (first | exact (Kd.C_below HR2.out HB.out) | (with_reducible refine Kd.C_alloc ?_ _) | (with_reducible refine Kd.C_drewN ?_ _) | (with_reducible refine Kd.C_drew ?_))); (case side2 => exact HC2.out); rintro e w36 ⟨rfl, hb⟩; refine ⟨_, rfl, ?_⟩; have n0_ := Aside0.mk (Kd.V_below (by (with_reducible repeat (first | apply Kd.V_alloc | apply Kd.V_drewN | apply Kd.V_drew)); exact HO513.out) hb); have n1_ := Aside0.mk (Kd.V_below (by (with_reducible repeat (first | apply Kd.V_alloc | apply Kd.V_drewN | apply Kd.V_drew)); exact HO517.out) hb); have n2_ := Aside0.mk (below_step (by repeat (first | (with_reducible first | exact HB.out | apply below_alloc | apply pw_below_drewN | apply below_drew1) | exact HB.out)) hb); clear HO513; clear HO517; clear HB; have HO513 := n0_; have HO517 := n1_; have HB := n2_; clear n0_ n1_ n2_; (try clear hb); (try clear hb2); (try clear hk); (try clear hi); obtain ⟨Ao37, co37, eo37⟩ := Kd.V_slice HO513.out; subst eo37) | ((with_reducible refine gate_callee (f := 37) rfl ?_); refine goesL_ (some 89) rfl rfl Try.func37 (by kernel_rfl) rfl #[.int .u64 a0, .slice Ao37 t511.length co37, .int .u64 a3] rfl (by (try simp only [List.map_toArray, List.map_cons, List.map_nil]); first | done | rfl | (simp only [List.length_drop, List.length_take]; rfl)) ?_; (with_reducible refine (poly_Eval.calls kj6 a0 _ _ t511 a3 t523 t524 _ ?side1 ?side2 A20.out).mono ?_); (case side1 => repeat (first | exact (Kd.V_reads' HO513.out).2.2 | (with_reducible refine Kd.C_alloc ?_ _) | (with_reducible refine Kd.C_drewN ?_ _) | (with_reducible refine Kd.C_drew ?_))); (case side2 => exact (Kd.V_reads' HO513.out).2.1); rintro e w38 ⟨rfl, hb⟩; refine ⟨_, rfl, ?_⟩; have n0_ := Aside0.mk (Kd.V_below (by (with_reducible repeat (first | apply Kd.V_alloc | apply Kd.V_drewN | apply Kd.V_drew)); exact HO513.out) hb); have n1_ := Aside0.mk (Kd.V_below (by (with_reducible repeat (first | apply Kd.V_alloc | apply Kd.V_drewN | apply Kd.V_drew)); exact HO517.out) hb); have n2_ := Aside0.mk (below_step (by repeat (first | (with_reducible first | exact HB.out | apply below_alloc | apply pw_below_drewN | apply below_drew1) | exact HB.out)) hb); clear HO513; clear HO517; clear HB; have HO513 := n0_; have HO517 := n1_; have HB := n2_; clear n0_ n1_ n2_; (try clear hb); (try clear hb2); (try clear hk); (try clear hi); obtain ⟨Ao39, co39, eo39⟩ := Kd.V_slice HO517.out; subst eo39) | ((with_reducible refine gate_callee (f := 37) rfl ?_); refine goesL_ (some 96) rfl rfl Try.func37 (by kernel_rfl) rfl #[.int .u64 a0, .slice Ao39 t515.length co39, .int .u64 a3] rfl (by (try simp only [List.map_toArray, List.map_cons, List.map_nil]); first | done | rfl | (simp only [List.length_drop, List.length_take]; rfl)) ?_; (with_reducible refine (poly_Eval.calls kj6 a0 _ _ t515 a3 t525 t526 _ ?side1 ?side2 A21.out).mono ?_); (case side1 => repeat (first | exact (Kd.V_reads' HO517.out).2.2 | (with_reducible refine Kd.C_alloc ?_ _) | (with_reducible refine Kd.C_drewN ?_ _) | (with_reducible refine Kd.C_drew ?_))); (case side2 => exact (Kd.V_reads' HO517.out).2.1); rintro e w40 ⟨rfl, hb⟩; refine ⟨_, rfl, ?_⟩; have n0_ := Aside0.mk (Kd.V_below (by (with_reducible repeat (first | apply Kd.V_alloc | apply Kd.V_drewN | apply Kd.V_drew)); exact HO513.out) hb); have n1_ := Aside0.mk (Kd.V_below (by (with_reducible repeat (first | apply Kd.V_alloc | apply Kd.V_drewN | apply Kd.V_drew)); exact HO517.out) hb); have n2_ := Aside0.mk (below_step (by repeat (first | (with_reducible first | exact HB.out | apply below_alloc | apply pw_below_drewN | apply below_drew1) | exact HB.out)) hb); clear HO513; clear HO517; clear HB; have HO513 := n0_; have HO517 := n1_; have HB := n2_; clear n0_ n1_ n2_; (try clear hb); (try clear hb2); (try clear hk); (try clear hi)) | ((with_reducible refine gate_callee (f := 30) rfl ?_); refine goesL_ (some 103) rfl rfl Try.func30 (by kernel_rfl) rfl #[.int .u64 a0, .int .u64 t519, .int .u64 t521] rfl (by (try simp only [List.map_toArray, List.map_cons, List.map_nil]); first | done | rfl | (simp only [List.length_drop, List.length_take]; rfl)) ?_; (with_reducible refine (field_Add.calls kj6 a0 t519 t521 t527 t528 _ A22.out).mono ?_); rintro e w41 ⟨rfl, hb⟩; refine ⟨_, rfl, ?_⟩; have n0_ := Aside0.mk (Kd.V_below (by (with_reducible repeat (first | apply Kd.V_alloc | apply Kd.V_drewN | apply Kd.V_drew)); exact HO513.out) hb); have n1_ := Aside0.mk (Kd.V_below (by (with_reducible repeat (first | apply Kd.V_alloc | apply Kd.V_drewN | apply Kd.V_drew)); exact HO517.out) hb); have n2_ := Aside0.mk (below_step (by repeat (first | (with_reducible first | exact HB.out | apply below_alloc | apply pw_below_drewN | apply below_drew1) | exact HB.out)) hb); clear HO513; clear HO517; clear HB; have HO513 := n0_; have HO517 := n1_; have HB := n2_; clear n0_ n1_ n2_; (try clear hb); (try clear hb2); (try clear hk); (try clear hi)) | ((with_reducible refine gate_callee (f := 29) rfl ?_); refine goesL_ (some 110) rfl rfl Try.func29 (by kernel_rfl) rfl #[.int .u64 a0, .int .u64 t519, .int .u64 t521] rfl (by (try simp only [List.map_toArray, List.map_cons, List.map_nil]); first | done | rfl | (simp only [List.length_drop, List.length_take]; rfl)) ?_; (with_reducible refine (field_Mul.calls kj6 a0 t519 t521 t529 t530 _ A23.out).mono ?_); rintro e w42 ⟨rfl, hb⟩; refine ⟨_, rfl, ?_⟩; have n0_ := Aside0.mk (Kd.V_below (by (with_reducible repeat (first | apply Kd.V_alloc | apply Kd.V_drewN | apply Kd.V_drew)); exact HO513.out) hb); have n1_ := Aside0.mk (Kd.V_below (by (with_reducible repeat (first | apply Kd.V_alloc | apply Kd.V_drewN | apply Kd.V_drew)); exact HO517.out) hb); have n2_ := Aside0.mk (below_step (by repeat (first | (with_reducible first | exact HB.out | apply below_alloc | apply pw_below_drewN | apply below_drew1) | exact HB.out)) hb); clear HO513; clear HO517; clear HB; have HO513 := n0_; have HO517 := n1_; have HB := n2_; clear n0_ n1_ n2_; (try clear hb); (try clear hb2); (try clear hk); (try clear hi)) | ((with_reducible refine gate_callee (f := 35) rfl ?_); refine goesL_ (some 116) rfl rfl Try.func35 (by kernel_rfl) rfl #[.int .u64 a0, .int .u64 0, .int .u64 a3] rfl (by (try simp only [List.map_toArray, List.map_cons, List.map_nil]); first | done | rfl | (simp only [List.length_drop, List.length_take]; rfl)) ?_; (with_reducible refine (field_Sub.calls kj6 a0 0 a3 t531 t532 _ A24.out).mono ?_); rintro e w43 ⟨rfl, hb⟩; refine ⟨_, rfl, ?_⟩; have n0_ := Aside0.mk (Kd.V_below (by (with_reducible repeat (first | apply Kd.V_alloc | apply Kd.V_drewN | apply Kd.V_drew)); exact HO513.out) hb); have n1_ := Aside0.mk (Kd.V_below (by (with_reducible repeat (first | apply Kd.V_alloc | apply Kd.V_drewN | apply Kd.V_drew)); exact HO517.out) hb); have n2_ := Aside0.mk (below_step (by repeat (first | (with_reducible first | exact HB.out | apply below_alloc | apply pw_below_drewN | apply below_drew1) | exact HB.out)) hb); clear HO513; clear HO517; clear HB; have HO513 := n0_; have HO517 := n1_; have HB := n2_; clear n0_ n1_ n2_; (try clear hb); (try clear hb2); (try clear hk); (try clear hi)) | ((with_reducible refine gate_dst (N := 123) rfl ?_); (try (refine gate_guard (by rfl) ?_; dsimp only)); refine Kd.R_lit (Kd.int .u64) _ 22 ?hg (N := 123) ?hd (xs := ([t531, 1] : List Int)) (inner := [.int .u64 t531, .int .u64 1]) (ok := fun _ => True) (okp := fun _ => True) ?hr ?hp (fun _ hk => hk) trivial (Below.refl _ _) (Nat.le_refl _) (by simp) ?_; (case hd => rfl); (case hg => rfl); (case hr => first | (go_simp; done) | (go_simp; rfl)); (case hp => exact (Reps.one (show Kd.M (Kd.int .u64) _ _ _ t531 [.int .u64 t531] from rfl) (Reps.one (show Kd.M (Kd.int .u64) _ _ _ 1 [.int .u64 1] from rfl) (Reps.none _ _)))); intro v534 w44 ho45 hb hg_ hnew_; clear hg_ hnew_; (first | rw [← Ny533.out] at ho45 | (simp only [Int.reduceToNat] at ho45; rw [← Ny533.out] at ho45)); have n0_ := Aside0.mk (Kd.V_elder' (by (with_reducible repeat (first | apply Kd.V_alloc | apply Kd.V_drewN | apply Kd.V_drew)); exact HO513.out) (Kd.R_base ho45) hb); have n1_ := Aside0.mk (Kd.V_elder' (by (with_reducible repeat (first | apply Kd.V_alloc | apply Kd.V_drewN | apply Kd.V_drew)); exact HO517.out) (Kd.R_base ho45) hb); have n2_ := Aside0.mk (Kd.R_lower ho45 (below_size (by repeat (first | (with_reducible first | exact HB.out | apply below_alloc | apply pw_below_drewN | apply below_drew1) | exact HB.out)))); have n3_ := Aside0.mk (below_step (by repeat (first | (with_reducible first | exact HB.out | apply below_alloc | apply pw_below_drewN | apply below_drew1) | exact HB.out)) hb); clear HO513; clear HO517; clear HB; have HO513 := n0_; have HO517 := n1_; have HO535 := n2_; have HB := n3_; clear n0_ n1_ n2_ n3_; clear hb ho45; obtain ⟨Ao46, co46, eo46⟩ := Kd.R_slice HO535.out; subst eo46) | ((with_reducible refine gate_callee (f := 32) rfl ?_); refine goesL_ (some 124) rfl rfl Try.func32 (by kernel_rfl) rfl #[.int .u64 a0, .slice A1 l1.length c1, .slice Ao46 y533.length co46] rfl (by (try simp only [List.map_toArray, List.map_cons, List.map_nil]); first | done | rfl | (simp only [List.length_drop, List.length_take]; rfl)) ?_; (with_reducible refine (poly_Div.calls kj6 a0 _ _ l1 _ _ y533 t536 t539 t542 _ ?side1 ?side2 ?side3 ?side4 A25.out).mono ?_); (case side1 => repeat (first | exact (Kd.C_below HR1.out HB.out) | (with_reducible refine Kd.C_alloc ?_ _) | (with_reducible refine Kd.C_drewN ?_ _) | (with_reducible refine Kd.C_drew ?_))); (case side2 => exact HC1.out); (case side3 => repeat (first | exact (Kd.R_reads' HO535.out).2.2 | (with_reducible refine Kd.C_alloc ?_ _) | (with_reducible refine Kd.C_drewN ?_ _) | (with_reducible refine Kd.C_drew ?_))); (case side4 => exact (Kd.R_reads' HO535.out).2.1); rintro e w47 ⟨v537, v540, rfl, ho0, ho1, hb⟩; refine ⟨_, rfl, ?_⟩; have n0_ := Aside0.mk (Kd.V_below (by (with_reducible repeat (first | apply Kd.V_alloc | apply Kd.V_drewN | apply Kd.V_drew)); exact HO513.out) hb); have n1_ := Aside0.mk (Kd.V_below (by (with_reducible repeat (first | apply Kd.V_alloc | apply Kd.V_drewN | apply Kd.V_drew)); exact HO517.out) hb); have n2_ := Aside0.mk (Kd.R_below (by (with_reducible repeat (first | apply Kd.R_alloc | apply Kd.R_drewN | apply Kd.R_drew)); exact HO535.out) hb); have n3_ := Aside0.mk (Kd.V_lower (Kd.V_mono (ok' := fun k_ => some k_ ≠ (.slice Ao46 y533.length co46 : Value).ownBlock) ho0 (fun k_ hk_ => (Kd.fresh' (Kd.R_lt (by (with_reducible repeat (first | apply Kd.R_alloc | apply Kd.R_drewN | apply Kd.R_drew)); exact HO535.out)) k_ hk_))) (below_size (by repeat (first | (with_reducible first | exact HB.out | apply below_alloc | apply pw_below_drewN | apply below_drew1) | exact HB.out)))); have n4_ := Aside0.mk (Kd.V_lower (Kd.V_mono (ok' := fun k_ => some k_ ≠ (.slice Ao46 y533.length co46 : Value).ownBlock) ho1 (fun k_ hk_ => (Kd.fresh' (Kd.R_lt (by (with_reducible repeat (first | apply Kd.R_alloc | apply Kd.R_drewN | apply Kd.R_drew)); exact HO535.out)) k_ hk_))) (below_size (by repeat (first | (with_reducible first | exact HB.out | apply below_alloc | apply pw_below_drewN | apply below_drew1) | exact HB.out)))); have n5_ := Aside0.mk (below_step (by repeat (first | (with_reducible first | exact HB.out | apply below_alloc | apply pw_below_drewN | apply below_drew1) | exact HB.out)) hb); clear HO513; clear HO517; clear HO535; clear HB; have HO513 := n0_; have HO517 := n1_; have HO535 := n2_; have HO538 := n3_; have HO541 := n4_; have HB := n5_; clear n0_ n1_ n2_ n3_ n4_ n5_; (try clear hb); (try clear hb2); (try clear hk); (try clear hi); (try clear ho0); (try clear ho1); obtain ⟨Ao48, co48, eo48⟩ := Kd.V_slice HO541.out; subst eo48))
                        go_ret
                        exact ⟨by first | rfl | (simp [errW_none, errW_some] <;> rfl) | (simp [*, errW_none, errW_some] <;> rfl), by repeat (first | (with_reducible first | exact HB.out | apply below_alloc | apply pw_below_drewN | apply below_drew1) | exact HB.out)⟩
                      · rw [if_neg c32] at H
                        have c32b0 : ((t539.length : Int) == 0) = false := beq_eq_false_iff_ne.mpr c32
                        have c32b0y : (t519 == 0) = false := by have h_ := c31b0; rw [c32b0] at h_; simpa using h_
                        have c32b1 : ((t539.length : Int) != 0) = true := bne_iff_ne.mpr c32
                        have c32b2 : ¬ (t539 = []) := fun h_ => c32 (by rw [h_]; rfl)
                        by_cases c49 : (t539.length : Int) = 1
                        · rw [if_pos c49] at H
                          have c49b0 : ((t539.length : Int) == 1) = true := beq_iff_eq.mpr c49
                          have c49b1 : ((t539.length : Int) != 1) = false := bne_eq_false_iff_eq.mpr c49
                          clear c49
                          by_cases c50 : 0 < (t539.length : Int)
                          · rw [if_pos c50] at H
                            have c50b0 : decide (0 < (t539.length : Int)) = true := decide_eq_true c50
                            have c50b1 : decide (0 < t539.length) = true := decide_eq_true (by omega)
                            clear c50
                            obtain rfl := Option.some.inj H
                            go_wp2_with (first | ((with_reducible refine gate_callee (f := 42) rfl ?_); refine goesL_ (some 61) rfl rfl Try.func42 (by kernel_rfl) rfl #[.int .u64 a0, .slice A1 l1.length c1, .slice A2 l2.length c2] rfl (by (try simp only [List.map_toArray, List.map_cons, List.map_nil]); first | done | rfl | (simp only [List.length_drop, List.length_take]; rfl)) ?_; (with_reducible refine (poly_Add.calls kj6 a0 _ _ l1 _ _ l2 t511 t514 _ ?side1 ?side2 ?side3 ?side4 A16.out).mono ?_); (case side1 => repeat (first | exact (Kd.C_below HR1.out HB.out) | (with_reducible refine Kd.C_alloc ?_ _) | (with_reducible refine Kd.C_drewN ?_ _) | (with_reducible refine Kd.C_drew ?_))); (case side2 => exact HC1.out); (case side3 => repeat (first | exact (Kd.C_below HR2.out HB.out) | (with_reducible refine Kd.C_alloc ?_ _) | (with_reducible refine Kd.C_drewN ?_ _) | (with_reducible refine Kd.C_drew ?_))); (case side4 => exact HC2.out); rintro e w51 ⟨v512, rfl, ho0, hb⟩; refine ⟨_, rfl, ?_⟩; have n0_ := Aside0.mk (Kd.V_lower (Kd.V_mono (ok' := fun k_ => True) ho0 (fun k_ hk_ => trivial)) (below_size (by repeat (first | (with_reducible first | exact HB.out | apply below_alloc | apply pw_below_drewN | apply below_drew1) | exact HB.out)))); have n1_ := Aside0.mk (below_step (by repeat (first | (with_reducible first | exact HB.out | apply below_alloc | apply pw_below_drewN | apply below_drew1) | exact HB.out)) hb); clear HB; have HO513 := n0_; have HB := n1_; clear n0_ n1_; (try clear hb); (try clear hb2); (try clear hk); (try clear hi); (try clear ho0)) | ((with_reducible refine gate_callee (f := 36) rfl ?_); refine goesL_ (some 68) rfl rfl Try.func36 (by kernel_rfl) rfl #[.int .u64 a0, .slice A1 l1.length c1, .slice A2 l2.length c2] rfl (by (try simp only [List.map_toArray, List.map_cons, List.map_nil]); first | done | rfl | (simp only [List.length_drop, List.length_take]; rfl)) ?_; (with_reducible refine (poly_Mul.calls kj6 a0 _ _ l1 _ _ l2 t515 t518 _ ?side1 ?side2 ?side3 ?side4 A17.out).mono ?_); (case side1 => repeat (first | exact (Kd.C_below HR1.out HB.out) | (with_reducible refine Kd.C_alloc ?_ _) | (with_reducible refine Kd.C_drewN ?_ _) | (with_reducible refine Kd.C_drew ?_))); (case side2 => exact HC1.out); (case side3 => repeat (first | exact (Kd.C_below HR2.out HB.out) | (with_reducible refine Kd.C_alloc ?_ _) | (with_reducible refine Kd.C_drewN ?_ _) | (with_reducible refine Kd.C_drew ?_))); (case side4 => exact HC2.out); rintro e w52 ⟨v516, rfl, ho0, hb⟩; refine ⟨_, rfl, ?_⟩; have n0_ := Aside0.mk (Kd.V_below (by (with_reducible repeat (first | apply Kd.V_alloc | apply Kd.V_drewN | apply Kd.V_drew)); exact HO513.out) hb); have n1_ := Aside0.mk (Kd.V_lower (Kd.V_mono (ok' := fun k_ => True) ho0 (fun k_ hk_ => trivial)) (below_size (by repeat (first | (with_reducible first | exact HB.out | apply below_alloc | apply pw_below_drewN | apply below_drew1) | exact HB.out)))); have n2_ := Aside0.mk (below_step (by repeat (first | (with_reducible first | exact HB.out | apply below_alloc | apply pw_below_drewN | apply below_drew1) | exact HB.out)) hb); clear HO513; clear HB; have HO513 := n0_; have HO517 := n1_; have HB := n2_; clear n0_ n1_ n2_; (try clear hb); (try clear hb2); (try clear hk); (try clear hi); (try clear ho0)) | ((with_reducible refine gate_callee (f := 37) rfl ?_); refine goesL_ (some 75) rfl rfl Try.func37 (by kernel_rfl) rfl #[.int .u64 a0, .slice A1 l1.length c1, .int .u64 a3] rfl (by (try simp only [List.map_toArray, List.map_cons, List.map_nil]); first | done | rfl | (simp only [List.length_drop, List.length_take]; rfl)) ?_; (with_reducible refine (poly_Eval.calls kj6 a0 _ _ l1 a3 t519 t520 _ ?side1 ?side2 A18.out).mono ?_); (case side1 => repeat (first | exact (Kd.C_below HR1.out HB.out) | (with_reducible refine Kd.C_alloc ?_ _) | (with_reducible refine Kd.C_drewN ?_ _) | (with_reducible refine Kd.C_drew ?_))); (case side2 => exact HC1.out); rintro e w53 ⟨rfl, hb⟩; refine ⟨_, rfl, ?_⟩; have n0_ := Aside0.mk (Kd.V_below (by (with_reducible repeat (first | apply Kd.V_alloc | apply Kd.V_drewN | apply Kd.V_drew)); exact HO513.out) hb); have n1_ := Aside0.mk (Kd.V_below (by (with_reducible repeat (first | apply Kd.V_alloc | apply Kd.V_drewN | apply Kd.V_drew)); exact HO517.out) hb); have n2_ := Aside0.mk (below_step (by repeat (first | (with_reducible first | exact HB.out | apply below_alloc | apply pw_below_drewN | apply below_drew1) | exact HB.out)) hb); clear HO513; clear HO517; clear HB; have HO513 := n0_; have HO517 := n1_; have HB := n2_; clear n0_ n1_ n2_; (try clear hb); (try clear hb2); (try clear hk); (try clear hi)) | ((with_reducible refine gate_callee (f := 37) rfl ?_); refine goesL_ (some 82) rfl rfl Try.func37 (by kernel_rfl) rfl #[.int .u64 a0, .slice A2 l2.length c2, .int .u64 a3] rfl (by (try simp only [List.map_toArray, List.map_cons, List.map_nil]); first | done | rfl | (simp only [List.length_drop, List.length_take]; rfl)) ?_; (with_reducible refine (poly_Eval.calls kj6 a0 _ _ l2 a3 t521 t522 _ ?side1 ?side2 A19.out).mono ?_); (case side1 => repeat (first | exact (Kd.C_below HR2.out HB.out) | (with_reducible refine Kd.C_alloc ?_ _) | (with_reducible refine Kd.C_drewN ?_ _) | (with_reducible refine Kd.C_drew ?_))); (case side2 => exact HC2.out); rintro e w54 ⟨rfl, hb⟩; refine ⟨_, rfl, ?_⟩; have n0_ := Aside0.mk (Kd.V_below (by (with_reducible repeat (first | apply Kd.V_alloc | apply Kd.V_drewN | apply Kd.V_drew)); exact HO513.out) hb); have n1_ := Aside0.mk (Kd.V_below (by (with_reducible repeat (first | apply Kd.V_alloc | apply Kd.V_drewN | apply Kd.V_drew)); exact HO517.out) hb); have n2_ := Aside0.mk (below_step (by repeat (first | (with_reducible first | exact HB.out | apply below_alloc | apply pw_below_drewN | apply below_drew1) | exact HB.out)) hb); clear HO513; clear HO517; clear HB; have HO513 := n0_; have HO517 := n1_; have HB := n2_; clear n0_ n1_ n2_; (try clear hb); (try clear hb2); (try clear hk); (try clear hi); obtain ⟨Ao55, co55, eo55⟩ := Kd.V_slice HO513.out; subst eo55) | ((with_reducible refine gate_callee (f := 37) rfl ?_); refine goesL_ (some 89) rfl rfl Try.func37 (by kernel_rfl) rfl #[.int .u64 a0, .slice Ao55 t511.length co55, .int .u64 a3] rfl (by (try simp only [List.map_toArray, List.map_cons, List.map_nil]); first | done | rfl | (simp only [List.length_drop, List.length_take]; rfl)) ?_; (with_reducible refine (poly_Eval.calls kj6 a0 _ _ t511 a3 t523 t524 _ ?side1 ?side2 A20.out).mono ?_); (case side1 => repeat (first | exact (Kd.V_reads' HO513.out).2.2 | (with_reducible refine Kd.C_alloc ?_ _) | (with_reducible refine Kd.C_drewN ?_ _) | (with_reducible refine Kd.C_drew ?_))); (case side2 => exact (Kd.V_reads' HO513.out).2.1); rintro e w56 ⟨rfl, hb⟩; refine ⟨_, rfl, ?_⟩; have n0_ := Aside0.mk (Kd.V_below (by (with_reducible repeat (first | apply Kd.V_alloc | apply Kd.V_drewN | apply Kd.V_drew)); exact HO513.out) hb); have n1_ := Aside0.mk (Kd.V_below (by (with_reducible repeat (first | apply Kd.V_alloc | apply Kd.V_drewN | apply Kd.V_drew)); exact HO517.out) hb); have n2_ := Aside0.mk (below_step (by repeat (first | (with_reducible first | exact HB.out | apply below_alloc | apply pw_below_drewN | apply below_drew1) | exact HB.out)) hb); clear HO513; clear HO517; clear HB; have HO513 := n0_; have HO517 := n1_; have HB := n2_; clear n0_ n1_ n2_; (try clear hb); (try clear hb2); (try clear hk); (try clear hi); obtain ⟨Ao57, co57, eo57⟩ := Kd.V_slice HO517.out; subst eo57) | ((with_reducible refine gate_callee (f := 37) rfl ?_); refine goesL_ (some 96) rfl rfl Try.func37 (by kernel_rfl) rfl #[.int .u64 a0, .slice Ao57 t515.length co57, .int .u64 a3] rfl (by (try simp only [List.map_toArray, List.map_cons, List.map_nil]); first | done | rfl | (simp only [List.length_drop, List.length_take]; rfl)) ?_; (with_reducible refine (poly_Eval.calls kj6 a0 _ _ t515 a3 t525 t526 _ ?side1 ?side2 A21.out).mono ?_); (case side1 => repeat (first | exact (Kd.V_reads' HO517.out).2.2 | (with_reducible refine Kd.C_alloc ?_ _) | (with_reducible refine Kd.C_drewN ?_ _) | (with_reducible refine Kd.C_drew ?_))); (case side2 => exact (Kd.V_reads' HO517.out).2.1); rintro e w58 ⟨rfl, hb⟩; refine ⟨_, rfl, ?_⟩; have n0_ := Aside0.mk (Kd.V_below (by (with_reducible repeat (first | apply Kd.V_alloc | apply Kd.V_drewN | apply Kd.V_drew)); exact HO513.out) hb); have n1_ := Aside0.mk (Kd.V_below (by (with_reducible repeat (first | apply Kd.V_alloc | apply Kd.V_drewN | apply Kd.V_drew)); exact HO517.out) hb); have n2_ := Aside0.mk (below_step (by repeat (first | (with_reducible first | exact HB.out | apply below_alloc | apply pw_below_drewN | apply below_drew1) | exact HB.out)) hb); clear HO513; clear HO517; clear HB; have HO513 := n0_; have HO517 := n1_; have HB := n2_; clear n0_ n1_ n2_; (try clear hb); (try clear hb2); (try clear hk); (try clear hi)) | ((with_reducible refine gate_callee (f := 30) rfl ?_); refine goesL_ (some 103) rfl rfl Try.func30 (by kernel_rfl) rfl #[.int .u64 a0, .int .u64 t519, .int .u64 t521] rfl (by (try simp only [List.map_toArray, List.map_cons, List.map_nil]); first | done | rfl | (simp only [List.length_drop, List.length_take]; rfl)) ?_; (with_reducible refine (field_Add.calls kj6 a0 t519 t521 t527 t528 _ A22.out).mono ?_); rintro e w59 ⟨rfl, hb⟩; refine ⟨_, rfl, ?_⟩; have n0_ := Aside0.mk (Kd.V_below (by (with_reducible repeat (first | apply Kd.V_alloc | apply Kd.V_drewN | apply Kd.V_drew)); exact HO513.out) hb); have n1_ := Aside0.mk (Kd.V_below (by (with_reducible repeat (first | apply Kd.V_alloc | apply Kd.V_drewN | apply Kd.V_drew)); exact HO517.out) hb); have n2_ := Aside0.mk (below_step (by repeat (first | (with_reducible first | exact HB.out | apply below_alloc | apply pw_below_drewN | apply below_drew1) | exact HB.out)) hb); clear HO513; clear HO517; clear HB; have HO513 := n0_; have HO517 := n1_; have HB := n2_; clear n0_ n1_ n2_; (try clear hb); (try clear hb2); (try clear hk); (try clear hi)) | ((with_reducible refine gate_callee (f := 29) rfl ?_); refine goesL_ (some 110) rfl rfl Try.func29 (by kernel_rfl) rfl #[.int .u64 a0, .int .u64 t519, .int .u64 t521] rfl (by (try simp only [List.map_toArray, List.map_cons, List.map_nil]); first | done | rfl | (simp only [List.length_drop, List.length_take]; rfl)) ?_; (with_reducible refine (field_Mul.calls kj6 a0 t519 t521 t529 t530 _ A23.out).mono ?_); rintro e w60 ⟨rfl, hb⟩; refine ⟨_, rfl, ?_⟩; have n0_ := Aside0.mk (Kd.V_below (by (with_reducible repeat (first | apply Kd.V_alloc | apply Kd.V_drewN | apply Kd.V_drew)); exact HO513.out) hb); have n1_ := Aside0.mk (Kd.V_below (by (with_reducible repeat (first | apply Kd.V_alloc | apply Kd.V_drewN | apply Kd.V_drew)); exact HO517.out) hb); have n2_ := Aside0.mk (below_step (by repeat (first | (with_reducible first | exact HB.out | apply below_alloc | apply pw_below_drewN | apply below_drew1) | exact HB.out)) hb); clear HO513; clear HO517; clear HB; have HO513 := n0_; have HO517 := n1_; have HB := n2_; clear n0_ n1_ n2_; (try clear hb); (try clear hb2); (try clear hk); (try clear hi)) | ((with_reducible refine gate_callee (f := 35) rfl ?_); refine goesL_ (some 116) rfl rfl Try.func35 (by kernel_rfl) rfl #[.int .u64 a0, .int .u64 0, .int .u64 a3] rfl (by (try simp only [List.map_toArray, List.map_cons, List.map_nil]); first | done | rfl | (simp only [List.length_drop, List.length_take]; rfl)) ?_; (with_reducible refine (field_Sub.calls kj6 a0 0 a3 t531 t532 _ A24.out).mono ?_); rintro e w61 ⟨rfl, hb⟩; refine ⟨_, rfl, ?_⟩; have n0_ := Aside0.mk (Kd.V_below (by (with_reducible repeat (first | apply Kd.V_alloc | apply Kd.V_drewN | apply Kd.V_drew)); exact HO513.out) hb); have n1_ := Aside0.mk (Kd.V_below (by (with_reducible repeat (first | apply Kd.V_alloc | apply Kd.V_drewN | apply Kd.V_drew)); exact HO517.out) hb); have n2_ := Aside0.mk (below_step (by repeat (first | (with_reducible first | exact HB.out | apply below_alloc | apply pw_below_drewN | apply below_drew1) | exact HB.out)) hb); clear HO513; clear HO517; clear HB; have HO513 := n0_; have HO517 := n1_; have HB := n2_; clear n0_ n1_ n2_; (try clear hb); (try clear hb2); (try clear hk); (try clear hi)) | ((with_reducible refine gate_dst (N := 123) rfl ?_); (try (refine gate_guard (by rfl) ?_; dsimp only)); refine Kd.R_lit (Kd.int .u64) _ 22 ?hg (N := 123) ?hd (xs := ([t531, 1] : List Int)) (inner := [.int .u64 t531, .int .u64 1]) (ok := fun _ => True) (okp := fun _ => True) ?hr ?hp (fun _ hk => hk) trivial (Below.refl _ _) (Nat.le_refl _) (by simp) ?_; (case hd => rfl); (case hg => rfl); (case hr => first | (go_simp; done) | (go_simp; rfl)); (case hp => exact (Reps.one (show Kd.M (Kd.int .u64) _ _ _ t531 [.int .u64 t531] from rfl) (Reps.one (show Kd.M (Kd.int .u64) _ _ _ 1 [.int .u64 1] from rfl) (Reps.none _ _)))); intro v534 w62 ho63 hb hg_ hnew_; clear hg_ hnew_; (first | rw [← Ny533.out] at ho63 | (simp only [Int.reduceToNat] at ho63; rw [← Ny533.out] at ho63)); have n0_ := Aside0.mk (Kd.V_elder' (by (with_reducible repeat (first | apply Kd.V_alloc | apply Kd.V_drewN | apply Kd.V_drew)); exact HO513.out) (Kd.R_base ho63) hb); have n1_ := Aside0.mk (Kd.V_elder' (by (with_reducible repeat (first | apply Kd.V_alloc | apply Kd.V_drewN | apply Kd.V_drew)); exact HO517.out) (Kd.R_base ho63) hb); have n2_ := Aside0.mk (Kd.R_lower ho63 (below_size (by repeat (first | (with_reducible first | exact HB.out | apply below_alloc | apply pw_below_drewN | apply below_drew1) | exact HB.out)))); have n3_ := Aside0.mk (below_step (by repeat (first | (with_reducible first | exact HB.out | apply below_alloc | apply pw_below_drewN | apply below_drew1) | exact HB.out)) hb); clear HO513; clear HO517; clear HB; have HO513 := n0_; have HO517 := n1_; have HO535 := n2_; have HB := n3_; clear n0_ n1_ n2_ n3_; clear hb ho63; obtain ⟨Ao64, co64, eo64⟩ := Kd.R_slice HO535.out; subst eo64) | ((with_reducible refine gate_callee (f := 32) rfl ?_); refine goesL_ (some 124) rfl rfl Try.func32 (by kernel_rfl) rfl #[.int .u64 a0, .slice A1 l1.length c1, .slice Ao64 y533.length co64] rfl (by (try simp only [List.map_toArray, List.map_cons, List.map_nil]); first | done | rfl | (simp only [List.length_drop, List.length_take]; rfl)) ?_; (with_reducible refine (poly_Div.calls kj6 a0 _ _ l1 _ _ y533 t536 t539 t542 _ ?side1 ?side2 ?side3 ?side4 A25.out).mono ?_); (case side1 => repeat (first | exact (Kd.C_below HR1.out HB.out) | (with_reducible refine Kd.C_alloc ?_ _) | (with_reducible refine Kd.C_drewN ?_ _) | (with_reducible refine Kd.C_drew ?_))); (case side2 => exact HC1.out); (case side3 => repeat (first | exact (Kd.R_reads' HO535.out).2.2 | (with_reducible refine Kd.C_alloc ?_ _) | (with_reducible refine Kd.C_drewN ?_ _) | (with_reducible refine Kd.C_drew ?_))); (case side4 => exact (Kd.R_reads' HO535.out).2.1); rintro e w65 ⟨v537, v540, rfl, ho0, ho1, hb⟩; refine ⟨_, rfl, ?_⟩; have n0_ := Aside0.mk (Kd.V_below (by (with_reducible repeat (first | apply Kd.V_alloc | apply Kd.V_drewN | apply Kd.V_drew)); exact HO513.out) hb); have n1_ := Aside0.mk (Kd.V_below (by (with_reducible repeat (first | apply Kd.V_alloc | apply Kd.V_drewN | apply Kd.V_drew)); exact HO517.out) hb); have n2_ := Aside0.mk (Kd.R_below (by (with_reducible repeat (first | apply Kd.R_alloc | apply Kd.R_drewN | apply Kd.R_drew)); exact HO535.out) hb); have n3_ := Aside0.mk (Kd.V_lower (Kd.V_mono (ok' := fun k_ => some k_ ≠ (.slice Ao64 y533.length co64 : Value).ownBlock) ho0 (fun k_ hk_ => (Kd.fresh' (Kd.R_lt (by (with_reducible repeat (first | apply Kd.R_alloc | apply Kd.R_drewN | apply Kd.R_drew)); exact HO535.out)) k_ hk_))) (below_size (by repeat (first | (with_reducible first | exact HB.out | apply below_alloc | apply pw_below_drewN | apply below_drew1) | exact HB.out)))); have n4_ := Aside0.mk (Kd.V_lower (Kd.V_mono (ok' := fun k_ => some k_ ≠ (.slice Ao64 y533.length co64 : Value).ownBlock) ho1 (fun k_ hk_ => (Kd.fresh' (Kd.R_lt (by (with_reducible repeat (first | apply Kd.R_alloc | apply Kd.R_drewN | apply Kd.R_drew)); exact HO535.out)) k_ hk_))) (below_size (by repeat (first | (with_reducible first | exact HB.out | apply below_alloc | apply pw_below_drewN | apply below_drew1) | exact HB.out)))); have n5_ := Aside0.mk (below_step (by repeat (first | (with_reducible first | exact HB.out | apply below_alloc | apply pw_below_drewN | apply below_drew1) | exact HB.out)) hb); clear HO513; clear HO517; clear HO535; clear HB; have HO513 := n0_; have HO517 := n1_; have HO535 := n2_; have HO538 := n3_; have HO541 := n4_; have HB := n5_; clear n0_ n1_ n2_ n3_ n4_ n5_; (try clear hb); (try clear hb2); (try clear hk); (try clear hi); (try clear ho0); (try clear ho1); obtain ⟨Ao66, co66, eo66⟩ := Kd.V_slice HO541.out; subst eo66; have p543 : 0 ≤ (0 : Int) := (by omega); have q543 : 0 < (t539.length : Int) := of_decide_eq_true (by first | (with_reducible assumption) | assumption); obtain ⟨ad543, e543, hx543_0⟩ := Kd.at_int (Kd.V_reads' HO541.out).2.2 0 p543 q543; cases e543; have qi543 : (0 < t539.length) = True := eq_true (by omega); (try rw [show ((0 : Int)).toNat = 0 from rfl] at hx543_0); (try rw [Addr.add_zero'] at hx543_0); replace p543 := eq_true p543; replace q543 := eq_true q543))
                            go_ret
                            exact ⟨by first | rfl | (simp [errW_none, errW_some] <;> rfl) | (simp [*, errW_none, errW_some] <;> rfl), by repeat (first | (with_reducible first | exact HB.out | apply below_alloc | apply pw_below_drewN | apply below_drew1) | exact HB.out)⟩
                          · rw [if_neg c50] at H
                            exact absurd H (by simp)
                        · rw [if_neg c49] at H
                          exact absurd H (by simp)
                    · rw [if_neg c31] at H
                      exact absurd H (by simp)
                  · rw [if_neg c30] at H
                    exact absurd H (by simp)
                · rw [if_neg c29] at H
                  exact absurd H (by simp)
              · rw [if_neg c28] at H
                exact absurd H (by simp)
            · rw [if_neg c27] at H
              exact absurd H (by simp)
          · rw [if_neg c26] at H
            exact absurd H (by simp)
  · replace c6 := Bool.eq_false_iff.mpr c6
    subst c6
    have H1 : (none) = some r := by rw [if_neg (show ¬ (false = true) by decide)] at H; exact H
    clear H
    have H := H1
    clear H1
    exact absurd H (by simp)

/-- THE ONE PURE STATEMENT of affidavitlaw03_PolyPlaces: yours. -/
def affidavitlaw03_PolyPlaces.Pure : Prop := ∀ (a0 : Int) (l1 : List Int) (l2 : List Int) (a3 : Int), (Lit.int .u64 a0).wf = true → l1.length ≤ maxLen → l1.length * 8 ≤ 140737488351232 → (∀ x ∈ l1, (Lit.int .u64 x).wf = true) → l2.length ≤ maxLen → l2.length * 8 ≤ 140737488351232 → (∀ x ∈ l2, (Lit.int .u64 x).wf = true) → (Lit.int .u64 a3).wf = true → ∃ k, affidavitlaw03_PolyPlaces.f k a0 l1 l2 a3 = some true
theorem affidavitlaw03_PolyPlaces.walk (P : affidavitlaw03_PolyPlaces.Pure) (a0 : Int) (a1 : Option Addr) (len1 cap1 : Nat) (z1 : List Int) (a2 : Option Addr) (len2 cap2 : Nat) (z2 : List Int) (a3 : Int) (w : World) (w0 : (Lit.int .u64 a0).wf = true) (w1 : (a1 = none ∧ len1 = 0 ∧ cap1 = 0 ∧ z1 = []) ∨ ∃ x, a1 = some x ∧ len1 ≤ cap1 ∧ cap1 ≤ maxLen ∧ z1.length = cap1 ∧ (∀ i, i < z1.length → w.cell? (x.add i) = some (.int .u64 (z1.getD i 0))) ∧ ∀ n ∈ z1, (Lit.int .u64 n).wf = true) (y1 : len1 * 8 ≤ 140737488351232) (w2 : (a2 = none ∧ len2 = 0 ∧ cap2 = 0 ∧ z2 = []) ∨ ∃ x, a2 = some x ∧ len2 ≤ cap2 ∧ cap2 ≤ maxLen ∧ z2.length = cap2 ∧ (∀ i, i < z2.length → w.cell? (x.add i) = some (.int .u64 (z2.getD i 0))) ∧ ∀ n ∈ z2, (Lit.int .u64 n).wf = true) (y2 : len2 * 8 ≤ 140737488351232) (w3 : (Lit.int .u64 a3).wf = true) :
    Calls Try.prog 12 #[.int .u64 a0, .slice a1 len1 cap1, .slice a2 len2 cap2, .int .u64 a3] w fun e w' => e = .returned (.bool true) ∧ Below w.heap.size w w' := by
  obtain ⟨l1, rfl, hr1, hm1, hw1, hc1⟩ := ReadsInt.ofRowC w1
  obtain ⟨l2, rfl, hr2, hm2, hw2, hc2⟩ := ReadsInt.ofRowC w2
  obtain ⟨k, h⟩ := P a0 l1 l2 a3 w0 hm1 y1 hw1 hm2 y2 hw2 w3
  refine (affidavitlaw03_PolyPlaces.calls k a0 _ _ l1 _ _ l2 a3 true w (Kd.C_of_reads (d := (0 : Int)) (h1 := fun _ => rfl) hr1) hc1 (Kd.C_of_reads (d := (0 : Int)) (h1 := fun _ => rfl) hr2) hc2 h).mono ?_
  rintro e w' ⟨rfl, hd⟩
  exact ⟨rfl, hd⟩

end Go.Proofs.Ytffcjgelcdilcaa.PAll

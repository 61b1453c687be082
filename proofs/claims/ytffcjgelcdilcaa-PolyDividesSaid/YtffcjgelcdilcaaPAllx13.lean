/- Contracts of functions of the given program: printed out of the translation by a program of this session, with texts by hand for what the print does not take. -/
import Derived.Test.YtffcjgelcdilcaaPAllx0
import Derived.Test.YtffcjgelcdilcaaPAllx1
import Derived.Test.YtffcjgelcdilcaaPAllx3
import Derived.Test.YtffcjgelcdilcaaPAllx6
import Derived.Test.YtffcjgelcdilcaaPAllx9
import Derived.Test.YtffcjgelcdilcaaPAllx12
namespace Go.Proofs.Ytffcjgelcdilcaa.PAll
open Go.RowKit Go.Proofs.YtffcjgelcdilcaaW.PrintWords Go.Proofs.YtffcjgelcdilcaaW.PrintLast Go.Proofs.YtffcjgelcdilcaaW.PrintMore
attribute [local go_sem] max2_int min2_int max_two min_two max_three min_three max_four min_four   -- for this text's walks alone
set_option linter.unusedVariables false
set_option linter.unusedSimpArgs false

/-! ### affidavitlaw03_PolyDivides: function 10 -/
def affidavitlaw03_PolyDivides.j0 : Nat → Int → List Int → List Int → Bool → Option (Bool)
  | 0, _, _, _, _ => none
  | k + 1, x0, x1, x2, x40 => if x40 = true then (some true) else ((poly_Div.f k x0 x1 x2).bind fun bt415 => (if (x2.length : Int) = 0 then (some (bt415.2.2 == 5)) else ((poly_Mul.f k x0 bt415.1 x2).bind fun bt422 => ((poly_Add.f k x0 bt422.1 bt415.2.1).bind fun bt426 => (if bt415.2.2 = 0 then (if bt422.2 = 0 then (if bt426.2 = 0 then ((affidavitref01_Same.f k bt426.1 x1).bind fun t430 => (if t430 = true then (if (bt415.2.1.length : Int) < (x2.length : Int) then ((poly_Right.f k x0 bt415.1).bind fun t431 => (if t431 = true then ((poly_Right.f k x0 bt415.2.1).bind fun t432 => (some t432)) else (none))) else (none)) else (none))) else (none)) else (none)) else (none))))))
def affidavitlaw03_PolyDivides.f (k : Nat) (a0 : Int) (l1 : List Int) (l2 : List Int) : Option (Bool) := (affidavitlaw03_awake.f k).bind fun t411 => (if t411 = true then (if (l1.length : Int) > 100 then (affidavitlaw03_PolyDivides.j0 k a0 l1 l2 true) else (if (l2.length : Int) > 100 then (affidavitlaw03_PolyDivides.j0 k a0 l1 l2 true) else ((affidavitlaw03_prime.f k a0).bind fun t412 => (if t412 = true then ((poly_Right.f k a0 l1).bind fun t413 => (if t413 = true then ((poly_Right.f k a0 l2).bind fun t414 => (affidavitlaw03_PolyDivides.j0 k a0 l1 l2 (!t414))) else (affidavitlaw03_PolyDivides.j0 k a0 l1 l2 true))) else (affidavitlaw03_PolyDivides.j0 k a0 l1 l2 true))))) else (none))
theorem affidavitlaw03_PolyDivides.mono_l : ∀ k, (∀ y0 y1 y2 y3, LeO (affidavitlaw03_PolyDivides.j0 k y0 y1 y2 y3) (affidavitlaw03_PolyDivides.j0 (k + 1) y0 y1 y2 y3))
  | 0 => fun _ _ _ _ r h => by simp [affidavitlaw03_PolyDivides.j0] at h
  | k + 1 => by
    have ih0 := affidavitlaw03_PolyDivides.mono_l k
    · intro y0 y1 y2 y3
      unfold affidavitlaw03_PolyDivides.j0
      repeat' first
      | (with_reducible exact ih0 _ _ _ _)
      | (with_reducible exact affidavitlaw03_awake.mono _)
      | (with_reducible exact affidavitlaw03_prime.mono _ _)
      | (with_reducible exact affidavitref01_Same.mono _ _ _)
      | (with_reducible exact poly_Add.mono _ _ _ _)
      | (with_reducible exact poly_Div.mono _ _ _ _)
      | (with_reducible exact poly_Mul.mono _ _ _ _)
      | (with_reducible exact poly_Right.mono _ _ _)
      | (with_reducible exact LeO.refl _)
      | (with_reducible exact LeO.none _)
      | (with_reducible refine LeO.ite ?_ ?_)
      | (with_reducible refine LeO.bind ?_ (fun _ => ?_))
      | exact ih0 _ _ _ _
      | exact affidavitlaw03_awake.mono _
      | exact affidavitlaw03_prime.mono _ _
      | exact affidavitref01_Same.mono _ _ _
      | exact poly_Add.mono _ _ _ _
      | exact poly_Div.mono _ _ _ _
      | exact poly_Mul.mono _ _ _ _
      | exact poly_Right.mono _ _ _
      | exact LeO.none _
      | refine LeO.ite ?_ ?_
      | refine LeO.bind ?_ (fun _ => ?_)
theorem affidavitlaw03_PolyDivides.mono : ∀ a0 a1 a2 k, LeO (affidavitlaw03_PolyDivides.f k a0 a1 a2) (affidavitlaw03_PolyDivides.f (k + 1) a0 a1 a2) := by
  intro a0 a1 a2 k
  have ih0 := affidavitlaw03_PolyDivides.mono_l k
  unfold affidavitlaw03_PolyDivides.f
  repeat' first
      | (with_reducible exact ih0 _ _ _ _)
      | (with_reducible exact affidavitlaw03_awake.mono _)
      | (with_reducible exact affidavitlaw03_prime.mono _ _)
      | (with_reducible exact affidavitref01_Same.mono _ _ _)
      | (with_reducible exact poly_Add.mono _ _ _ _)
      | (with_reducible exact poly_Div.mono _ _ _ _)
      | (with_reducible exact poly_Mul.mono _ _ _ _)
      | (with_reducible exact poly_Right.mono _ _ _)
      | (with_reducible exact LeO.refl _)
      | (with_reducible exact LeO.none _)
      | (with_reducible refine LeO.ite ?_ ?_)
      | (with_reducible refine LeO.bind ?_ (fun _ => ?_))
      | exact ih0 _ _ _ _
      | exact affidavitlaw03_awake.mono _
      | exact affidavitlaw03_prime.mono _ _
      | exact affidavitref01_Same.mono _ _ _
      | exact poly_Add.mono _ _ _ _
      | exact poly_Div.mono _ _ _ _
      | exact poly_Mul.mono _ _ _ _
      | exact poly_Right.mono _ _ _
      | exact LeO.none _
      | refine LeO.ite ?_ ?_
      | refine LeO.bind ?_ (fun _ => ?_)
set_option maxHeartbeats 8000000 in
set_option maxRecDepth 100000 in
theorem affidavitlaw03_PolyDivides.calls (k : Nat) (a0 : Int) (A1 : Option Addr) (c1 : Nat) (l1 : List Int) (A2 : Option Addr) (c2 : Nat) (l2 : List Int) (r : Bool) (w : World) (hr1 : Kd.C (Kd.int .u64) w A1 l1.length l1) (hc1 : l1.length ≤ c1) (hr2 : Kd.C (Kd.int .u64) w A2 l2.length l2) (hc2 : l2.length ≤ c2) (h : affidavitlaw03_PolyDivides.f k a0 l1 l2 = some r) :
    Calls Try.prog 10 #[.int .u64 a0, .slice A1 l1.length c1, .slice A2 l2.length c2] w fun e w' => e = .returned (.bool r) ∧ Below w.heap.size w w' := by
  have HR1 := Aside0.mk hr1
  have HC1 := Aside0.mk hc1
  clear hr1 hc1
  have HR2 := Aside0.mk hr2
  have HC2 := Aside0.mk hc2
  clear hr2 hc2
  have HB := Aside0.mk (Below.refl w.heap.size w)
  have H : ((affidavitlaw03_awake.f k).bind fun t411 => (if t411 = true then (if (l1.length : Int) > 100 then (affidavitlaw03_PolyDivides.j0 k a0 l1 l2 true) else (if (l2.length : Int) > 100 then (affidavitlaw03_PolyDivides.j0 k a0 l1 l2 true) else ((affidavitlaw03_prime.f k a0).bind fun t412 => (if t412 = true then ((poly_Right.f k a0 l1).bind fun t413 => (if t413 = true then ((poly_Right.f k a0 l2).bind fun t414 => (affidavitlaw03_PolyDivides.j0 k a0 l1 l2 (!t414))) else (affidavitlaw03_PolyDivides.j0 k a0 l1 l2 true))) else (affidavitlaw03_PolyDivides.j0 k a0 l1 l2 true))))) else (none))) = some r := h
  clear h
  replace H := Option.bind_eq_some_iff.mp H
  obtain ⟨t411, A40, H⟩ := H
  replace H : (if t411 = true then (if (l1.length : Int) > 100 then (affidavitlaw03_PolyDivides.j0 k a0 l1 l2 true) else (if (l2.length : Int) > 100 then (affidavitlaw03_PolyDivides.j0 k a0 l1 l2 true) else ((affidavitlaw03_prime.f k a0).bind fun t412 => (if t412 = true then ((poly_Right.f k a0 l1).bind fun t413 => (if t413 = true then ((poly_Right.f k a0 l2).bind fun t414 => (affidavitlaw03_PolyDivides.j0 k a0 l1 l2 (!t414))) else (affidavitlaw03_PolyDivides.j0 k a0 l1 l2 true))) else (affidavitlaw03_PolyDivides.j0 k a0 l1 l2 true))))) else (none)) = some r := H
  have A4 := Aside0.mk A40
  clear A40
  by_cases c5 : t411 = true
  · subst c5
    have H1 : (if (l1.length : Int) > 100 then (affidavitlaw03_PolyDivides.j0 k a0 l1 l2 true) else (if (l2.length : Int) > 100 then (affidavitlaw03_PolyDivides.j0 k a0 l1 l2 true) else ((affidavitlaw03_prime.f k a0).bind fun t412 => (if t412 = true then ((poly_Right.f k a0 l1).bind fun t413 => (if t413 = true then ((poly_Right.f k a0 l2).bind fun t414 => (affidavitlaw03_PolyDivides.j0 k a0 l1 l2 (!t414))) else (affidavitlaw03_PolyDivides.j0 k a0 l1 l2 true))) else (affidavitlaw03_PolyDivides.j0 k a0 l1 l2 true))))) = some r := by rw [if_pos rfl] at H; exact H
    clear H
    have H := H1
    clear H1
    have HC6 := Aside0.mk H
    clear H
    go_enter Try.func10, Try.ntmps10
    go_upto_region 3 with (first | ((with_reducible refine gate_callee (f := 33) rfl ?_); refine goesL_ (some 14) rfl rfl Try.func33 (by kernel_rfl) rfl #[] rfl (by (try simp only [List.map_toArray, List.map_cons, List.map_nil]); first | done | rfl | (simp only [List.length_drop, List.length_take]; rfl)) ?_; (with_reducible refine (affidavitlaw03_awake.calls k  true _ A4.out).mono ?_); rintro e w7 ⟨rfl, hb⟩; refine ⟨_, rfl, ?_⟩; have n0_ := Aside0.mk (below_step (by repeat (first | (with_reducible first | exact HB.out | apply below_alloc | apply pw_below_drewN | apply below_drew1) | exact HB.out)) hb); clear HB; have HB := n0_; clear n0_; (try clear hb); (try clear hb2); (try clear hk); (try clear hi)))
    (try simp only [Act.put, List.setIfInBounds_toArray, List.set_cons_zero, List.set_cons_succ])
    go_cut [40] (fun v40 wc => ∃ (kq : Nat) (x40_5 : Bool), v40 = .bool x40_5 ∧ Aside0 (affidavitlaw03_PolyDivides.j0 kq a0 l1 l2 x40_5 = some r) ∧ Aside0 (kq ≤ k) ∧ Aside0 (Below w.heap.size w wc))
    case first =>
      have H := HC6.out
      clear HC6
      by_cases c8 : (l1.length : Int) > 100
      · rw [if_pos c8] at H
        have c8b0 : decide (100 < (l1.length : Int)) = true := decide_eq_true c8
        have c8b1 : decide (100 < l1.length) = true := decide_eq_true (by omega)
        clear c8
        (first | rw [c8b0] | (simp only [i64_w, i32_w]; rw [c8b0]) | skip)
        have H' := Aside0.mk H
        clear H
        go_wp2
        go_meet
        case rel => exact ⟨_, (true), (by first | rfl | (simp; done) | (simp [*]; done)), H', ⟨by first | omega | exact Nat.le_refl _⟩, ⟨by repeat (first | (with_reducible first | exact HB.out | apply below_alloc | apply pw_below_drewN | apply below_drew1) | exact HB.out)⟩⟩
      · rw [if_neg c8] at H
        have c8b0 : decide (100 < (l1.length : Int)) = false := decide_eq_false c8
        have c8b1 : decide (100 < l1.length) = false := decide_eq_false (by omega)
        clear c8
        (first | rw [c8b0] | (simp only [i64_w, i32_w]; rw [c8b0]) | skip)
        by_cases c9 : (l2.length : Int) > 100
        · rw [if_pos c9] at H
          have c9b0 : decide (100 < (l2.length : Int)) = true := decide_eq_true c9
          have c9b1 : decide (100 < l2.length) = true := decide_eq_true (by omega)
          clear c9
          have H' := Aside0.mk H
          clear H
          go_wp2
          go_meet
          case rel => exact ⟨_, (true), (by first | rfl | (simp; done) | (simp [*]; done)), H', ⟨by first | omega | exact Nat.le_refl _⟩, ⟨by repeat (first | (with_reducible first | exact HB.out | apply below_alloc | apply pw_below_drewN | apply below_drew1) | exact HB.out)⟩⟩
        · rw [if_neg c9] at H
          have c9b0 : decide (100 < (l2.length : Int)) = false := decide_eq_false c9
          have c9b1 : decide (100 < l2.length) = false := decide_eq_false (by omega)
          clear c9
          replace H := Option.bind_eq_some_iff.mp H
          obtain ⟨t412, A100, H⟩ := H
          replace H : (if t412 = true then ((poly_Right.f k a0 l1).bind fun t413 => (if t413 = true then ((poly_Right.f k a0 l2).bind fun t414 => (affidavitlaw03_PolyDivides.j0 k a0 l1 l2 (!t414))) else (affidavitlaw03_PolyDivides.j0 k a0 l1 l2 true))) else (affidavitlaw03_PolyDivides.j0 k a0 l1 l2 true)) = some r := H
          have A10 := Aside0.mk A100
          clear A100
          by_cases c11 : t412 = true
          · subst c11
            have H1 : ((poly_Right.f k a0 l1).bind fun t413 => (if t413 = true then ((poly_Right.f k a0 l2).bind fun t414 => (affidavitlaw03_PolyDivides.j0 k a0 l1 l2 (!t414))) else (affidavitlaw03_PolyDivides.j0 k a0 l1 l2 true))) = some r := by rw [if_pos rfl] at H; exact H
            clear H
            have H := H1
            clear H1
            replace H := Option.bind_eq_some_iff.mp H
            obtain ⟨t413, A120, H⟩ := H
            replace H : (if t413 = true then ((poly_Right.f k a0 l2).bind fun t414 => (affidavitlaw03_PolyDivides.j0 k a0 l1 l2 (!t414))) else (affidavitlaw03_PolyDivides.j0 k a0 l1 l2 true)) = some r := H
            have A12 := Aside0.mk A120
            clear A120
            by_cases c13 : t413 = true
            · subst c13
              have H1 : ((poly_Right.f k a0 l2).bind fun t414 => (affidavitlaw03_PolyDivides.j0 k a0 l1 l2 (!t414))) = some r := by rw [if_pos rfl] at H; exact H
              clear H
              have H := H1
              clear H1
              replace H := Option.bind_eq_some_iff.mp H
              obtain ⟨t414, A140, H⟩ := H
              replace H : (affidavitlaw03_PolyDivides.j0 k a0 l1 l2 (!t414)) = some r := H
              have A14 := Aside0.mk A140
              clear A140
              have H' := Aside0.mk H
              clear H
              go_wp2_with (first | (go_at_call 34; (with_reducible refine (affidavitlaw03_prime.calls k a0 true _ A10.out).mono ?_); rintro e w' ⟨rfl, ⟨nd, rfl⟩⟩) | (go_at_call 39; (with_reducible refine (poly_Right.calls k a0 _ _ l1 true _ ?side1 ?side2 A12.out).mono ?_); (case side1 => repeat (first | exact (Kd.C_below HR1.out (by repeat (first | (with_reducible first | exact HB.out | apply below_alloc | apply pw_below_drewN | apply below_drew1) | exact HB.out))) | (with_reducible refine Kd.C_alloc ?_ _) | (with_reducible refine Kd.C_drewN ?_ _) | (with_reducible refine Kd.C_drew ?_))); (case side2 => exact HC1.out); rintro e w' ⟨rfl, ⟨nd, rfl⟩⟩) | (go_at_call 39; (with_reducible refine (poly_Right.calls k a0 _ _ l2 t414 _ ?side1 ?side2 A14.out).mono ?_); (case side1 => repeat (first | exact (Kd.C_below HR2.out (by repeat (first | (with_reducible first | exact HB.out | apply below_alloc | apply pw_below_drewN | apply below_drew1) | exact HB.out))) | (with_reducible refine Kd.C_alloc ?_ _) | (with_reducible refine Kd.C_drewN ?_ _) | (with_reducible refine Kd.C_drew ?_))); (case side2 => exact HC2.out); rintro e w' ⟨rfl, ⟨nd, rfl⟩⟩))
              go_meet
              case rel => exact ⟨_, (!t414), (by first | rfl | (simp; done) | (simp [*]; done)), H', ⟨by first | omega | exact Nat.le_refl _⟩, ⟨by repeat (first | (with_reducible first | exact HB.out | apply below_alloc | apply pw_below_drewN | apply below_drew1) | exact HB.out)⟩⟩
            · replace c13 := Bool.eq_false_iff.mpr c13
              subst c13
              have H1 : (affidavitlaw03_PolyDivides.j0 k a0 l1 l2 true) = some r := by rw [if_neg (show ¬ (false = true) by decide)] at H; exact H
              clear H
              have H := H1
              clear H1
              have H' := Aside0.mk H
              clear H
              go_wp2_with (first | (go_at_call 34; (with_reducible refine (affidavitlaw03_prime.calls k a0 true _ A10.out).mono ?_); rintro e w' ⟨rfl, ⟨nd, rfl⟩⟩) | (go_at_call 39; (with_reducible refine (poly_Right.calls k a0 _ _ l1 false _ ?side1 ?side2 A12.out).mono ?_); (case side1 => repeat (first | exact (Kd.C_below HR1.out (by repeat (first | (with_reducible first | exact HB.out | apply below_alloc | apply pw_below_drewN | apply below_drew1) | exact HB.out))) | (with_reducible refine Kd.C_alloc ?_ _) | (with_reducible refine Kd.C_drewN ?_ _) | (with_reducible refine Kd.C_drew ?_))); (case side2 => exact HC1.out); rintro e w' ⟨rfl, ⟨nd, rfl⟩⟩))
              go_meet
              case rel => exact ⟨_, (true), (by first | rfl | (simp; done) | (simp [*]; done)), H', ⟨by first | omega | exact Nat.le_refl _⟩, ⟨by repeat (first | (with_reducible first | exact HB.out | apply below_alloc | apply pw_below_drewN | apply below_drew1) | exact HB.out)⟩⟩
          · replace c11 := Bool.eq_false_iff.mpr c11
            subst c11
            have H1 : (affidavitlaw03_PolyDivides.j0 k a0 l1 l2 true) = some r := by rw [if_neg (show ¬ (false = true) by decide)] at H; exact H
            clear H
            have H := H1
            clear H1
            have H' := Aside0.mk H
            clear H
            go_wp2_with (first | (go_at_call 34; (with_reducible refine (affidavitlaw03_prime.calls k a0 false _ A10.out).mono ?_); rintro e w' ⟨rfl, ⟨nd, rfl⟩⟩))
            go_meet
            case rel => exact ⟨_, (true), (by first | rfl | (simp; done) | (simp [*]; done)), H', ⟨by first | omega | exact Nat.le_refl _⟩, ⟨by repeat (first | (with_reducible first | exact HB.out | apply below_alloc | apply pw_below_drewN | apply below_drew1) | exact HB.out)⟩⟩
    case rest =>
      clear HC6
      try clear c1
      try clear c2
      try clear p2
      try clear c3
      try clear c5
      try clear c8
      try clear c8b0
      try clear c8b1
      try clear c9
      try clear c9b0
      try clear c9b1
      try clear c10
      try clear c11
      try clear c13
      obtain ⟨kq, x40_5, rfl, HA, HJ5, HB⟩ := hcut
      cases kq with
      | zero => exact absurd HA.out (by simp [affidavitlaw03_PolyDivides.j0])
      | succ kj5 =>
        have H := HA.out
        clear HA
        simp only [affidavitlaw03_PolyDivides.j0] at H
        by_cases c15 : x40_5 = true
        · subst c15
          have H1 : (some true) = some r := by rw [if_pos rfl] at H; exact H
          clear H
          have H := H1
          clear H1
          obtain rfl := Option.some.inj H
          go_wp2
          go_ret
          exact ⟨by first | rfl | (simp [errW_none, errW_some] <;> rfl) | (simp [*, errW_none, errW_some] <;> rfl), by repeat (first | (with_reducible first | exact HB.out | apply below_alloc | apply pw_below_drewN | apply below_drew1) | exact HB.out)⟩
        · replace c15 := Bool.eq_false_iff.mpr c15
          subst c15
          have H1 : ((poly_Div.f kj5 a0 l1 l2).bind fun bt415 => (if (l2.length : Int) = 0 then (some (bt415.2.2 == 5)) else ((poly_Mul.f kj5 a0 bt415.1 l2).bind fun bt422 => ((poly_Add.f kj5 a0 bt422.1 bt415.2.1).bind fun bt426 => (if bt415.2.2 = 0 then (if bt422.2 = 0 then (if bt426.2 = 0 then ((affidavitref01_Same.f kj5 bt426.1 l1).bind fun t430 => (if t430 = true then (if (bt415.2.1.length : Int) < (l2.length : Int) then ((poly_Right.f kj5 a0 bt415.1).bind fun t431 => (if t431 = true then ((poly_Right.f kj5 a0 bt415.2.1).bind fun t432 => (some t432)) else (none))) else (none)) else (none))) else (none)) else (none)) else (none)))))) = some r := by rw [if_neg (show ¬ (false = true) by decide)] at H; exact H
          clear H
          have H := H1
          clear H1
          replace H := Option.bind_eq_some_iff.mp H
          obtain ⟨⟨t415, t418, t421⟩, A160, H⟩ := H
          replace H : (if (l2.length : Int) = 0 then (some (t421 == 5)) else ((poly_Mul.f kj5 a0 t415 l2).bind fun bt422 => ((poly_Add.f kj5 a0 bt422.1 t418).bind fun bt426 => (if t421 = 0 then (if bt422.2 = 0 then (if bt426.2 = 0 then ((affidavitref01_Same.f kj5 bt426.1 l1).bind fun t430 => (if t430 = true then (if (t418.length : Int) < (l2.length : Int) then ((poly_Right.f kj5 a0 t415).bind fun t431 => (if t431 = true then ((poly_Right.f kj5 a0 t418).bind fun t432 => (some t432)) else (none))) else (none)) else (none))) else (none)) else (none)) else (none))))) = some r := H
          have A16 := Aside0.mk A160
          clear A160
          by_cases c17 : (l2.length : Int) = 0
          · rw [if_pos c17] at H
            have c17b0 : ((l2.length : Int) == 0) = true := beq_iff_eq.mpr c17
            have c17b1 : ((l2.length : Int) != 0) = false := bne_eq_false_iff_eq.mpr c17
            clear c17
            obtain rfl := Option.some.inj H
            go_wp2_with (first | ((with_reducible refine gate_callee (f := 32) rfl ?_); refine goesL_ (some 45) rfl rfl Try.func32 (by kernel_rfl) rfl #[.int .u64 a0, .slice A1 l1.length c1, .slice A2 l2.length c2] rfl (by (try simp only [List.map_toArray, List.map_cons, List.map_nil]); first | done | rfl | (simp only [List.length_drop, List.length_take]; rfl)) ?_; (with_reducible refine (poly_Div.calls kj5 a0 _ _ l1 _ _ l2 t415 t418 t421 _ ?side1 ?side2 ?side3 ?side4 A16.out).mono ?_); (case side1 => repeat (first | exact (Kd.C_below HR1.out HB.out) | (with_reducible refine Kd.C_alloc ?_ _) | (with_reducible refine Kd.C_drewN ?_ _) | (with_reducible refine Kd.C_drew ?_))); (case side2 => exact HC1.out); (case side3 => repeat (first | exact (Kd.C_below HR2.out HB.out) | (with_reducible refine Kd.C_alloc ?_ _) | (with_reducible refine Kd.C_drewN ?_ _) | (with_reducible refine Kd.C_drew ?_))); (case side4 => exact HC2.out); rintro e w18 ⟨v416, v419, rfl, ho0, ho1, hb⟩; refine ⟨_, rfl, ?_⟩; have n0_ := Aside0.mk (Kd.V_lower (Kd.V_mono (ok' := fun k_ => True) ho0 (fun k_ hk_ => trivial)) (below_size (by repeat (first | (with_reducible first | exact HB.out | apply below_alloc | apply pw_below_drewN | apply below_drew1) | exact HB.out)))); have n1_ := Aside0.mk (Kd.V_lower (Kd.V_mono (ok' := fun k_ => True) ho1 (fun k_ hk_ => trivial)) (below_size (by repeat (first | (with_reducible first | exact HB.out | apply below_alloc | apply pw_below_drewN | apply below_drew1) | exact HB.out)))); have n2_ := Aside0.mk (below_step (by repeat (first | (with_reducible first | exact HB.out | apply below_alloc | apply pw_below_drewN | apply below_drew1) | exact HB.out)) hb); clear HB; have HO417 := n0_; have HO420 := n1_; have HB := n2_; clear n0_ n1_ n2_; (try clear hb); (try clear hb2); (try clear hk); (try clear hi); (try clear ho0); (try clear ho1)))
            go_ret
            exact ⟨by first | rfl | (simp [errW_none, errW_some] <;> rfl) | (simp [*, errW_none, errW_some] <;> rfl), by repeat (first | (with_reducible first | exact HB.out | apply below_alloc | apply pw_below_drewN | apply below_drew1) | exact HB.out)⟩
          · rw [if_neg c17] at H
            have c17b0 : ((l2.length : Int) == 0) = false := beq_eq_false_iff_ne.mpr c17
            have c17b1 : ((l2.length : Int) != 0) = true := bne_iff_ne.mpr c17
            have c17b2 : ¬ (l2 = []) := fun h_ => c17 (by rw [h_]; rfl)
            replace H := Option.bind_eq_some_iff.mp H
            obtain ⟨⟨t422, t425⟩, A190, H⟩ := H
            replace H : ((poly_Add.f kj5 a0 t422 t418).bind fun bt426 => (if t421 = 0 then (if t425 = 0 then (if bt426.2 = 0 then ((affidavitref01_Same.f kj5 bt426.1 l1).bind fun t430 => (if t430 = true then (if (t418.length : Int) < (l2.length : Int) then ((poly_Right.f kj5 a0 t415).bind fun t431 => (if t431 = true then ((poly_Right.f kj5 a0 t418).bind fun t432 => (some t432)) else (none))) else (none)) else (none))) else (none)) else (none)) else (none))) = some r := H
            have A19 := Aside0.mk A190
            clear A190
            replace H := Option.bind_eq_some_iff.mp H
            obtain ⟨⟨t426, t429⟩, A200, H⟩ := H
            replace H : (if t421 = 0 then (if t425 = 0 then (if t429 = 0 then ((affidavitref01_Same.f kj5 t426 l1).bind fun t430 => (if t430 = true then (if (t418.length : Int) < (l2.length : Int) then ((poly_Right.f kj5 a0 t415).bind fun t431 => (if t431 = true then ((poly_Right.f kj5 a0 t418).bind fun t432 => (some t432)) else (none))) else (none)) else (none))) else (none)) else (none)) else (none)) = some r := H
            have A20 := Aside0.mk A200
            clear A200
            by_cases c21 : t421 = 0
            · rw [if_pos c21] at H
              have c21b0 : (t421 == 0) = true := beq_iff_eq.mpr c21
              have c21b1 : (t421 != 0) = false := bne_eq_false_iff_eq.mpr c21
              clear c21
              by_cases c22 : t425 = 0
              · rw [if_pos c22] at H
                have c22b0 : (t425 == 0) = true := beq_iff_eq.mpr c22
                have c22b1 : (t425 != 0) = false := bne_eq_false_iff_eq.mpr c22
                clear c22
                by_cases c23 : t429 = 0
                · rw [if_pos c23] at H
                  have c23b0 : (t429 == 0) = true := beq_iff_eq.mpr c23
                  have c23b1 : (t429 != 0) = false := bne_eq_false_iff_eq.mpr c23
                  clear c23
                  replace H := Option.bind_eq_some_iff.mp H
                  obtain ⟨t430, A240, H⟩ := H
                  replace H : (if t430 = true then (if (t418.length : Int) < (l2.length : Int) then ((poly_Right.f kj5 a0 t415).bind fun t431 => (if t431 = true then ((poly_Right.f kj5 a0 t418).bind fun t432 => (some t432)) else (none))) else (none)) else (none)) = some r := H
                  have A24 := Aside0.mk A240
                  clear A240
                  by_cases c25 : t430 = true
                  · subst c25
                    have H1 : (if (t418.length : Int) < (l2.length : Int) then ((poly_Right.f kj5 a0 t415).bind fun t431 => (if t431 = true then ((poly_Right.f kj5 a0 t418).bind fun t432 => (some t432)) else (none))) else (none)) = some r := by rw [if_pos rfl] at H; exact H
                    clear H
                    have H := H1
                    clear H1
                    by_cases c26 : (t418.length : Int) < (l2.length : Int)
                    · rw [if_pos c26] at H
                      have c26b0 : decide ((t418.length : Int) < (l2.length : Int)) = true := decide_eq_true c26
                      have c26b1 : decide (t418.length < l2.length) = true := decide_eq_true (Int.ofNat_lt.mp c26)
                      clear c26
                      replace H := Option.bind_eq_some_iff.mp H
                      obtain ⟨t431, A270, H⟩ := H
                      replace H : (if t431 = true then ((poly_Right.f kj5 a0 t418).bind fun t432 => (some t432)) else (none)) = some r := H
                      have A27 := Aside0.mk A270
                      clear A270
                      by_cases c28 : t431 = true
                      · subst c28
                        have H1 : ((poly_Right.f kj5 a0 t418).bind fun t432 => (some t432)) = some r := by rw [if_pos rfl] at H; exact H
                        clear H
                        have H := H1
                        clear H1
                        replace H := Option.bind_eq_some_iff.mp H
                        obtain ⟨t432, A290, H⟩ := H
                        replace H : (some t432) = some r := H
                        have A29 := Aside0.mk A290
                        clear A290
                        obtain rfl := Option.some.inj H
                        go_wp2_with (first | ((with_reducible refine gate_callee (f := 32) rfl ?_); refine goesL_ (some 45) rfl rfl Try.func32 (by kernel_rfl) rfl #[.int .u64 a0, .slice A1 l1.length c1, .slice A2 l2.length c2] rfl (by (try simp only [List.map_toArray, List.map_cons, List.map_nil]); first | done | rfl | (simp only [List.length_drop, List.length_take]; rfl)) ?_; (with_reducible refine (poly_Div.calls kj5 a0 _ _ l1 _ _ l2 t415 t418 t421 _ ?side1 ?side2 ?side3 ?side4 A16.out).mono ?_); (case side1 => repeat (first | exact (Kd.C_below HR1.out HB.out) | (with_reducible refine Kd.C_alloc ?_ _) | (with_reducible refine Kd.C_drewN ?_ _) | (with_reducible refine Kd.C_drew ?_))); (case side2 => exact HC1.out); (case side3 => repeat (first | exact (Kd.C_below HR2.out HB.out) | (with_reducible refine Kd.C_alloc ?_ _) | (with_reducible refine Kd.C_drewN ?_ _) | (with_reducible refine Kd.C_drew ?_))); (case side4 => exact HC2.out); rintro e w30 ⟨v416, v419, rfl, ho0, ho1, hb⟩; refine ⟨_, rfl, ?_⟩; have n0_ := Aside0.mk (Kd.V_lower (Kd.V_mono (ok' := fun k_ => True) ho0 (fun k_ hk_ => trivial)) (below_size (by repeat (first | (with_reducible first | exact HB.out | apply below_alloc | apply pw_below_drewN | apply below_drew1) | exact HB.out)))); have n1_ := Aside0.mk (Kd.V_lower (Kd.V_mono (ok' := fun k_ => True) ho1 (fun k_ hk_ => trivial)) (below_size (by repeat (first | (with_reducible first | exact HB.out | apply below_alloc | apply pw_below_drewN | apply below_drew1) | exact HB.out)))); have n2_ := Aside0.mk (below_step (by repeat (first | (with_reducible first | exact HB.out | apply below_alloc | apply pw_below_drewN | apply below_drew1) | exact HB.out)) hb); clear HB; have HO417 := n0_; have HO420 := n1_; have HB := n2_; clear n0_ n1_ n2_; (try clear hb); (try clear hb2); (try clear hk); (try clear hi); (try clear ho0); (try clear ho1); obtain ⟨Ao31, co31, eo31⟩ := Kd.V_slice HO417.out; subst eo31) | ((with_reducible refine gate_callee (f := 36) rfl ?_); refine goesL_ (some 58) rfl rfl Try.func36 (by kernel_rfl) rfl #[.int .u64 a0, .slice Ao31 t415.length co31, .slice A2 l2.length c2] rfl (by (try simp only [List.map_toArray, List.map_cons, List.map_nil]); first | done | rfl | (simp only [List.length_drop, List.length_take]; rfl)) ?_; (with_reducible refine (poly_Mul.calls kj5 a0 _ _ t415 _ _ l2 t422 t425 _ ?side1 ?side2 ?side3 ?side4 A19.out).mono ?_); (case side1 => repeat (first | exact (Kd.V_reads' HO417.out).2.2 | (with_reducible refine Kd.C_alloc ?_ _) | (with_reducible refine Kd.C_drewN ?_ _) | (with_reducible refine Kd.C_drew ?_))); (case side2 => exact (Kd.V_reads' HO417.out).2.1); (case side3 => repeat (first | exact (Kd.C_below HR2.out HB.out) | (with_reducible refine Kd.C_alloc ?_ _) | (with_reducible refine Kd.C_drewN ?_ _) | (with_reducible refine Kd.C_drew ?_))); (case side4 => exact HC2.out); rintro e w32 ⟨v423, rfl, ho0, hb⟩; refine ⟨_, rfl, ?_⟩; have n0_ := Aside0.mk (Kd.V_below (by (with_reducible repeat (first | apply Kd.V_alloc | apply Kd.V_drewN | apply Kd.V_drew)); exact HO417.out) hb); have n1_ := Aside0.mk (Kd.V_below (by (with_reducible repeat (first | apply Kd.V_alloc | apply Kd.V_drewN | apply Kd.V_drew)); exact HO420.out) hb); have n2_ := Aside0.mk (Kd.V_lower (Kd.V_mono (ok' := fun k_ => True) ho0 (fun k_ hk_ => trivial)) (below_size (by repeat (first | (with_reducible first | exact HB.out | apply below_alloc | apply pw_below_drewN | apply below_drew1) | exact HB.out)))); have n3_ := Aside0.mk (below_step (by repeat (first | (with_reducible first | exact HB.out | apply below_alloc | apply pw_below_drewN | apply below_drew1) | exact HB.out)) hb); clear HO417; clear HO420; clear HB; have HO417 := n0_; have HO420 := n1_; have HO424 := n2_; have HB := n3_; clear n0_ n1_ n2_ n3_; (try clear hb); (try clear hb2); (try clear hk); (try clear hi); (try clear ho0); obtain ⟨Ao33, co33, eo33⟩ := Kd.V_slice HO424.out; subst eo33; obtain ⟨Ao34, co34, eo34⟩ := Kd.V_slice HO420.out; subst eo34) | ((with_reducible refine gate_callee (f := 42) rfl ?_); refine goesL_ (some 65) rfl rfl Try.func42 (by kernel_rfl) rfl #[.int .u64 a0, .slice Ao33 t422.length co33, .slice Ao34 t418.length co34] rfl (by (try simp only [List.map_toArray, List.map_cons, List.map_nil]); first | done | rfl | (simp only [List.length_drop, List.length_take]; rfl)) ?_; (with_reducible refine (poly_Add.calls kj5 a0 _ _ t422 _ _ t418 t426 t429 _ ?side1 ?side2 ?side3 ?side4 A20.out).mono ?_); (case side1 => repeat (first | exact (Kd.V_reads' HO424.out).2.2 | (with_reducible refine Kd.C_alloc ?_ _) | (with_reducible refine Kd.C_drewN ?_ _) | (with_reducible refine Kd.C_drew ?_))); (case side2 => exact (Kd.V_reads' HO424.out).2.1); (case side3 => repeat (first | exact (Kd.V_reads' HO420.out).2.2 | (with_reducible refine Kd.C_alloc ?_ _) | (with_reducible refine Kd.C_drewN ?_ _) | (with_reducible refine Kd.C_drew ?_))); (case side4 => exact (Kd.V_reads' HO420.out).2.1); rintro e w35 ⟨v427, rfl, ho0, hb⟩; refine ⟨_, rfl, ?_⟩; have n0_ := Aside0.mk (Kd.V_below (by (with_reducible repeat (first | apply Kd.V_alloc | apply Kd.V_drewN | apply Kd.V_drew)); exact HO417.out) hb); have n1_ := Aside0.mk (Kd.V_below (by (with_reducible repeat (first | apply Kd.V_alloc | apply Kd.V_drewN | apply Kd.V_drew)); exact HO420.out) hb); have n2_ := Aside0.mk (Kd.V_below (by (with_reducible repeat (first | apply Kd.V_alloc | apply Kd.V_drewN | apply Kd.V_drew)); exact HO424.out) hb); have n3_ := Aside0.mk (Kd.V_lower (Kd.V_mono (ok' := fun k_ => True) ho0 (fun k_ hk_ => trivial)) (below_size (by repeat (first | (with_reducible first | exact HB.out | apply below_alloc | apply pw_below_drewN | apply below_drew1) | exact HB.out)))); have n4_ := Aside0.mk (below_step (by repeat (first | (with_reducible first | exact HB.out | apply below_alloc | apply pw_below_drewN | apply below_drew1) | exact HB.out)) hb); clear HO417; clear HO420; clear HO424; clear HB; have HO417 := n0_; have HO420 := n1_; have HO424 := n2_; have HO428 := n3_; have HB := n4_; clear n0_ n1_ n2_ n3_ n4_; (try clear hb); (try clear hb2); (try clear hk); (try clear hi); (try clear ho0); obtain ⟨Ao36, co36, eo36⟩ := Kd.V_slice HO428.out; subst eo36) | (go_at_call 21; (with_reducible refine (affidavitref01_Same.calls kj5 _ _ t426 _ _ l1 true _ ?side1 ?side2 ?side3 ?side4 A24.out).mono ?_); (case side1 => repeat (first | exact (Kd.V_reads' HO428.out).2.2 | (with_reducible refine Kd.C_alloc ?_ _) | (with_reducible refine Kd.C_drewN ?_ _) | (with_reducible refine Kd.C_drew ?_))); (case side2 => exact (Kd.V_reads' HO428.out).2.1); (case side3 => repeat (first | exact (Kd.C_below HR1.out HB.out) | (with_reducible refine Kd.C_alloc ?_ _) | (with_reducible refine Kd.C_drewN ?_ _) | (with_reducible refine Kd.C_drew ?_))); (case side4 => exact HC1.out); rintro e w' ⟨rfl, ⟨nd, rfl⟩⟩) | (go_at_call 39; (with_reducible refine (poly_Right.calls kj5 a0 _ _ t415 true _ ?side1 ?side2 A27.out).mono ?_); (case side1 => repeat (first | exact (Kd.V_reads' HO417.out).2.2 | (with_reducible refine Kd.C_alloc ?_ _) | (with_reducible refine Kd.C_drewN ?_ _) | (with_reducible refine Kd.C_drew ?_))); (case side2 => exact (Kd.V_reads' HO417.out).2.1); rintro e w' ⟨rfl, ⟨nd, rfl⟩⟩) | (go_at_call 39; (with_reducible refine (poly_Right.calls kj5 a0 _ _ t418 t432 _ ?side1 ?side2 A29.out).mono ?_); (case side1 => repeat (first | exact (Kd.V_reads' HO420.out).2.2 | (with_reducible refine Kd.C_alloc ?_ _) | (with_reducible refine Kd.C_drewN ?_ _) | (with_reducible refine Kd.C_drew ?_))); (case side2 => exact (Kd.V_reads' HO420.out).2.1); rintro e w' ⟨rfl, ⟨nd, rfl⟩⟩))
                        go_ret
                        exact ⟨by first | rfl | (simp [errW_none, errW_some] <;> rfl) | (simp [*, errW_none, errW_some] <;> rfl), by repeat (first | (with_reducible first | exact HB.out | apply below_alloc | apply pw_below_drewN | apply below_drew1) | exact HB.out)⟩
                      · replace c28 := Bool.eq_false_iff.mpr c28
                        subst c28
                        have H1 : (none) = some r := by rw [if_neg (show ¬ (false = true) by decide)] at H; exact H
                        clear H
                        have H := H1
                        clear H1
                        exact absurd H (by simp)
                    · rw [if_neg c26] at H
                      exact absurd H (by simp)
                  · replace c25 := Bool.eq_false_iff.mpr c25
                    subst c25
                    have H1 : (none) = some r := by rw [if_neg (show ¬ (false = true) by decide)] at H; exact H
                    clear H
                    have H := H1
                    clear H1
                    exact absurd H (by simp)
                · rw [if_neg c23] at H
                  exact absurd H (by simp)
              · rw [if_neg c22] at H
                exact absurd H (by simp)
            · rw [if_neg c21] at H
              exact absurd H (by simp)
  · replace c5 := Bool.eq_false_iff.mpr c5
    subst c5
    have H1 : (none) = some r := by rw [if_neg (show ¬ (false = true) by decide)] at H; exact H
    clear H
    have H := H1
    clear H1
    exact absurd H (by simp)

/-- THE ONE PURE STATEMENT of affidavitlaw03_PolyDivides: yours. -/
def affidavitlaw03_PolyDivides.Pure : Prop := ∀ (a0 : Int) (l1 : List Int) (l2 : List Int), (Lit.int .u64 a0).wf = true → l1.length ≤ maxLen → l1.length * 8 ≤ 140737488351232 → (∀ x ∈ l1, (Lit.int .u64 x).wf = true) → l2.length ≤ maxLen → l2.length * 8 ≤ 140737488351232 → (∀ x ∈ l2, (Lit.int .u64 x).wf = true) → ∃ k, affidavitlaw03_PolyDivides.f k a0 l1 l2 = some true
theorem affidavitlaw03_PolyDivides.walk (P : affidavitlaw03_PolyDivides.Pure) (a0 : Int) (a1 : Option Addr) (len1 cap1 : Nat) (z1 : List Int) (a2 : Option Addr) (len2 cap2 : Nat) (z2 : List Int) (w : World) (w0 : (Lit.int .u64 a0).wf = true) (w1 : (a1 = none ∧ len1 = 0 ∧ cap1 = 0 ∧ z1 = []) ∨ ∃ x, a1 = some x ∧ len1 ≤ cap1 ∧ cap1 ≤ maxLen ∧ z1.length = cap1 ∧ (∀ i, i < z1.length → w.cell? (x.add i) = some (.int .u64 (z1.getD i 0))) ∧ ∀ n ∈ z1, (Lit.int .u64 n).wf = true) (y1 : len1 * 8 ≤ 140737488351232) (w2 : (a2 = none ∧ len2 = 0 ∧ cap2 = 0 ∧ z2 = []) ∨ ∃ x, a2 = some x ∧ len2 ≤ cap2 ∧ cap2 ≤ maxLen ∧ z2.length = cap2 ∧ (∀ i, i < z2.length → w.cell? (x.add i) = some (.int .u64 (z2.getD i 0))) ∧ ∀ n ∈ z2, (Lit.int .u64 n).wf = true) (y2 : len2 * 8 ≤ 140737488351232) :
    Calls Try.prog 10 #[.int .u64 a0, .slice a1 len1 cap1, .slice a2 len2 cap2] w fun e w' => e = .returned (.bool true) ∧ Below w.heap.size w w' := by
  obtain ⟨l1, rfl, hr1, hm1, hw1, hc1⟩ := ReadsInt.ofRowC w1
  obtain ⟨l2, rfl, hr2, hm2, hw2, hc2⟩ := ReadsInt.ofRowC w2
  obtain ⟨k, h⟩ := P a0 l1 l2 w0 hm1 y1 hw1 hm2 y2 hw2
  refine (affidavitlaw03_PolyDivides.calls k a0 _ _ l1 _ _ l2 true w (Kd.C_of_reads (d := (0 : Int)) (h1 := fun _ => rfl) hr1) hc1 (Kd.C_of_reads (d := (0 : Int)) (h1 := fun _ => rfl) hr2) hc2 h).mono ?_
  rintro e w' ⟨rfl, hd⟩
  exact ⟨rfl, hd⟩

end Go.Proofs.Ytffcjgelcdilcaa.PAll

/- Contracts of functions of the given program: printed out of the translation by a program of this session, with texts by hand for what the print does not take. -/
import Derived.Test.YtffcjgelcdilcaaPAllx0
import Derived.Test.YtffcjgelcdilcaaPAllx1
import Derived.Test.YtffcjgelcdilcaaPAllx9
namespace Go.Proofs.Ytffcjgelcdilcaa.PAll
open Go.RowKit Go.Proofs.YtffcjgelcdilcaaW.PrintWords Go.Proofs.YtffcjgelcdilcaaW.PrintLast Go.Proofs.YtffcjgelcdilcaaW.PrintMore
attribute [local go_sem] max2_int min2_int max_two min_two max_three min_three max_four min_four   -- for this text's walks alone
set_option linter.unusedVariables false
set_option linter.unusedSimpArgs false

/-! ### affidavitlaw03_PolySame: function 9 -/
def affidavitlaw03_PolySame.j0 : Nat → Int → List Int → List Int → Bool → Option (Bool)
  | 0, _, _, _, _ => none
  | k + 1, x0, x1, x2, x51 => if x51 = true then (some true) else ((poly_Gcd.f k x0 x1 x2).bind fun bt339 => ((poly_Gcd.f k x0 x2 x1).bind fun bt343 => ((poly_Lcm.f k x0 x1 x2).bind fun bt347 => ((poly_Lcm.f k x0 x2 x1).bind fun bt351 => ((poly_Monic.f k x0 x1).bind fun bt355 => ((poly_Gcd.f k x0 x1 x1).bind fun bt359 => ((poly_Lcm.f k x0 x1 x1).bind fun bt363 => ((poly_Gcd.f k x0 x1 (([1] : List Int))).bind fun bt370 => ((poly_Lcm.f k x0 x1 (([1] : List Int))).bind fun bt377 => (if bt355.2 = 0 then (if bt359.2 = 0 then (if bt363.2 = 0 then (if bt370.2 = 0 then (if bt377.2 = 0 then ((affidavitref01_Same.f k bt339.1 bt343.1).bind fun t381 => (if t381 = true then ((affidavitref01_Same.f k bt347.1 bt351.1).bind fun t382 => (if t382 = true then ((affidavitref01_Same.f k bt359.1 bt355.1).bind fun t383 => (if t383 = true then ((affidavitref01_Same.f k bt363.1 bt355.1).bind fun t384 => (if t384 = true then ((affidavitref01_Same.f k bt370.1 (([1] : List Int))).bind fun t388 => (if t388 = true then ((affidavitref01_Same.f k bt377.1 bt355.1).bind fun t389 => (some t389)) else (none))) else (none))) else (none))) else (none))) else (none))) else (none)) else (none)) else (none)) else (none)) else (none)))))))))))
def affidavitlaw03_PolySame.f (k : Nat) (a0 : Int) (l1 : List Int) (l2 : List Int) : Option (Bool) := (affidavitlaw03_awake.f k).bind fun t335 => (if t335 = true then (if (l1.length : Int) > 40 then (affidavitlaw03_PolySame.j0 k a0 l1 l2 true) else (if (l2.length : Int) > 40 then (affidavitlaw03_PolySame.j0 k a0 l1 l2 true) else ((affidavitlaw03_prime.f k a0).bind fun t336 => (if t336 = true then ((poly_Right.f k a0 l1).bind fun t337 => (if t337 = true then ((poly_Right.f k a0 l2).bind fun t338 => (affidavitlaw03_PolySame.j0 k a0 l1 l2 (!t338))) else (affidavitlaw03_PolySame.j0 k a0 l1 l2 true))) else (affidavitlaw03_PolySame.j0 k a0 l1 l2 true))))) else (none))
theorem affidavitlaw03_PolySame.mono_l : ∀ k, (∀ y0 y1 y2 y3, LeO (affidavitlaw03_PolySame.j0 k y0 y1 y2 y3) (affidavitlaw03_PolySame.j0 (k + 1) y0 y1 y2 y3))
  | 0 => fun _ _ _ _ r h => by simp [affidavitlaw03_PolySame.j0] at h
  | k + 1 => by
    have ih0 := affidavitlaw03_PolySame.mono_l k
    · intro y0 y1 y2 y3
      unfold affidavitlaw03_PolySame.j0
      repeat' first
      | (with_reducible exact ih0 _ _ _ _)
      | (with_reducible exact affidavitlaw03_awake.mono _)
      | (with_reducible exact affidavitlaw03_prime.mono _ _)
      | (with_reducible exact affidavitref01_Same.mono _ _ _)
      | (with_reducible exact poly_Gcd.mono _ _ _ _)
      | (with_reducible exact poly_Lcm.mono _ _ _ _)
      | (with_reducible exact poly_Monic.mono _ _ _)
      | (with_reducible exact poly_Right.mono _ _ _)
      | (with_reducible exact LeO.refl _)
      | (with_reducible exact LeO.none _)
      | (with_reducible refine LeO.ite ?_ ?_)
      | (with_reducible refine LeO.bind ?_ (fun _ => ?_))
      | exact ih0 _ _ _ _
      | exact affidavitlaw03_awake.mono _
      | exact affidavitlaw03_prime.mono _ _
      | exact affidavitref01_Same.mono _ _ _
      | exact poly_Gcd.mono _ _ _ _
      | exact poly_Lcm.mono _ _ _ _
      | exact poly_Monic.mono _ _ _
      | exact poly_Right.mono _ _ _
      | exact LeO.none _
      | refine LeO.ite ?_ ?_
      | refine LeO.bind ?_ (fun _ => ?_)
theorem affidavitlaw03_PolySame.mono : ∀ a0 a1 a2 k, LeO (affidavitlaw03_PolySame.f k a0 a1 a2) (affidavitlaw03_PolySame.f (k + 1) a0 a1 a2) := by
  intro a0 a1 a2 k
  have ih0 := affidavitlaw03_PolySame.mono_l k
  unfold affidavitlaw03_PolySame.f
  repeat' first
      | (with_reducible exact ih0 _ _ _ _)
      | (with_reducible exact affidavitlaw03_awake.mono _)
      | (with_reducible exact affidavitlaw03_prime.mono _ _)
      | (with_reducible exact affidavitref01_Same.mono _ _ _)
      | (with_reducible exact poly_Gcd.mono _ _ _ _)
      | (with_reducible exact poly_Lcm.mono _ _ _ _)
      | (with_reducible exact poly_Monic.mono _ _ _)
      | (with_reducible exact poly_Right.mono _ _ _)
      | (with_reducible exact LeO.refl _)
      | (with_reducible exact LeO.none _)
      | (with_reducible refine LeO.ite ?_ ?_)
      | (with_reducible refine LeO.bind ?_ (fun _ => ?_))
      | exact ih0 _ _ _ _
      | exact affidavitlaw03_awake.mono _
      | exact affidavitlaw03_prime.mono _ _
      | exact affidavitref01_Same.mono _ _ _
      | exact poly_Gcd.mono _ _ _ _
      | exact poly_Lcm.mono _ _ _ _
      | exact poly_Monic.mono _ _ _
      | exact poly_Right.mono _ _ _
      | exact LeO.none _
      | refine LeO.ite ?_ ?_
      | refine LeO.bind ?_ (fun _ => ?_)
set_option maxHeartbeats 8000000 in
set_option maxRecDepth 100000 in
theorem affidavitlaw03_PolySame.calls (k : Nat) (a0 : Int) (A1 : Option Addr) (c1 : Nat) (l1 : List Int) (A2 : Option Addr) (c2 : Nat) (l2 : List Int) (r : Bool) (w : World) (hr1 : Kd.C (Kd.int .u64) w A1 l1.length l1) (hc1 : l1.length ≤ c1) (hr2 : Kd.C (Kd.int .u64) w A2 l2.length l2) (hc2 : l2.length ≤ c2) (h : affidavitlaw03_PolySame.f k a0 l1 l2 = some r) :
    Calls Try.prog 9 #[.int .u64 a0, .slice A1 l1.length c1, .slice A2 l2.length c2] w fun e w' => e = .returned (.bool r) ∧ Below w.heap.size w w' := by
  have HR1 := Aside0.mk hr1
  have HC1 := Aside0.mk hc1
  clear hr1 hc1
  have HR2 := Aside0.mk hr2
  have HC2 := Aside0.mk hc2
  clear hr2 hc2
  have HB := Aside0.mk (Below.refl w.heap.size w)
  have H : ((affidavitlaw03_awake.f k).bind fun t335 => (if t335 = true then (if (l1.length : Int) > 40 then (affidavitlaw03_PolySame.j0 k a0 l1 l2 true) else (if (l2.length : Int) > 40 then (affidavitlaw03_PolySame.j0 k a0 l1 l2 true) else ((affidavitlaw03_prime.f k a0).bind fun t336 => (if t336 = true then ((poly_Right.f k a0 l1).bind fun t337 => (if t337 = true then ((poly_Right.f k a0 l2).bind fun t338 => (affidavitlaw03_PolySame.j0 k a0 l1 l2 (!t338))) else (affidavitlaw03_PolySame.j0 k a0 l1 l2 true))) else (affidavitlaw03_PolySame.j0 k a0 l1 l2 true))))) else (none))) = some r := h
  clear h
  replace H := Option.bind_eq_some_iff.mp H
  obtain ⟨t335, A40, H⟩ := H
  replace H : (if t335 = true then (if (l1.length : Int) > 40 then (affidavitlaw03_PolySame.j0 k a0 l1 l2 true) else (if (l2.length : Int) > 40 then (affidavitlaw03_PolySame.j0 k a0 l1 l2 true) else ((affidavitlaw03_prime.f k a0).bind fun t336 => (if t336 = true then ((poly_Right.f k a0 l1).bind fun t337 => (if t337 = true then ((poly_Right.f k a0 l2).bind fun t338 => (affidavitlaw03_PolySame.j0 k a0 l1 l2 (!t338))) else (affidavitlaw03_PolySame.j0 k a0 l1 l2 true))) else (affidavitlaw03_PolySame.j0 k a0 l1 l2 true))))) else (none)) = some r := H
  have A4 := Aside0.mk A40
  clear A40
  by_cases c5 : t335 = true
  · subst c5
    have H1 : (if (l1.length : Int) > 40 then (affidavitlaw03_PolySame.j0 k a0 l1 l2 true) else (if (l2.length : Int) > 40 then (affidavitlaw03_PolySame.j0 k a0 l1 l2 true) else ((affidavitlaw03_prime.f k a0).bind fun t336 => (if t336 = true then ((poly_Right.f k a0 l1).bind fun t337 => (if t337 = true then ((poly_Right.f k a0 l2).bind fun t338 => (affidavitlaw03_PolySame.j0 k a0 l1 l2 (!t338))) else (affidavitlaw03_PolySame.j0 k a0 l1 l2 true))) else (affidavitlaw03_PolySame.j0 k a0 l1 l2 true))))) = some r := by rw [if_pos rfl] at H; exact H
    clear H
    have H := H1
    clear H1
    have HC6 := Aside0.mk H
    clear H
    go_enter Try.func9, Try.ntmps9
    go_upto_region 3 with (first | ((with_reducible refine gate_callee (f := 33) rfl ?_); refine goesL_ (some 25) rfl rfl Try.func33 (by kernel_rfl) rfl #[] rfl (by (try simp only [List.map_toArray, List.map_cons, List.map_nil]); first | done | rfl | (simp only [List.length_drop, List.length_take]; rfl)) ?_; (with_reducible refine (affidavitlaw03_awake.calls k  true _ A4.out).mono ?_); rintro e w7 ⟨rfl, hb⟩; refine ⟨_, rfl, ?_⟩; have n0_ := Aside0.mk (below_step (by repeat (first | (with_reducible first | exact HB.out | apply below_alloc | apply pw_below_drewN | apply below_drew1) | exact HB.out)) hb); clear HB; have HB := n0_; clear n0_; (try clear hb); (try clear hb2); (try clear hk); (try clear hi)))
    (try simp only [Act.put, List.setIfInBounds_toArray, List.set_cons_zero, List.set_cons_succ])
    go_cut [51] (fun v51 wc => ∃ (kq : Nat) (x51_5 : Bool), v51 = .bool x51_5 ∧ Aside0 (affidavitlaw03_PolySame.j0 kq a0 l1 l2 x51_5 = some r) ∧ Aside0 (kq ≤ k) ∧ Aside0 (Below w.heap.size w wc))
    case first =>
      have H := HC6.out
      clear HC6
      by_cases c8 : (l1.length : Int) > 40
      · rw [if_pos c8] at H
        have c8b0 : decide (40 < (l1.length : Int)) = true := decide_eq_true c8
        have c8b1 : decide (40 < l1.length) = true := decide_eq_true (by omega)
        clear c8
        (first | rw [c8b0] | (simp only [i64_w, i32_w]; rw [c8b0]) | skip)
        have H' := Aside0.mk H
        clear H
        go_wp2
        go_meet
        case rel => exact ⟨_, (true), (by first | rfl | (simp; done) | (simp [*]; done)), H', ⟨by first | omega | exact Nat.le_refl _⟩, ⟨by repeat (first | (with_reducible first | exact HB.out | apply below_alloc | apply pw_below_drewN | apply below_drew1) | exact HB.out)⟩⟩
      · rw [if_neg c8] at H
        have c8b0 : decide (40 < (l1.length : Int)) = false := decide_eq_false c8
        have c8b1 : decide (40 < l1.length) = false := decide_eq_false (by omega)
        clear c8
        (first | rw [c8b0] | (simp only [i64_w, i32_w]; rw [c8b0]) | skip)
        by_cases c9 : (l2.length : Int) > 40
        · rw [if_pos c9] at H
          have c9b0 : decide (40 < (l2.length : Int)) = true := decide_eq_true c9
          have c9b1 : decide (40 < l2.length) = true := decide_eq_true (by omega)
          clear c9
          have H' := Aside0.mk H
          clear H
          go_wp2
          go_meet
          case rel => exact ⟨_, (true), (by first | rfl | (simp; done) | (simp [*]; done)), H', ⟨by first | omega | exact Nat.le_refl _⟩, ⟨by repeat (first | (with_reducible first | exact HB.out | apply below_alloc | apply pw_below_drewN | apply below_drew1) | exact HB.out)⟩⟩
        · rw [if_neg c9] at H
          have c9b0 : decide (40 < (l2.length : Int)) = false := decide_eq_false c9
          have c9b1 : decide (40 < l2.length) = false := decide_eq_false (by omega)
          clear c9
          replace H := Option.bind_eq_some_iff.mp H
          obtain ⟨t336, A100, H⟩ := H
          replace H : (if t336 = true then ((poly_Right.f k a0 l1).bind fun t337 => (if t337 = true then ((poly_Right.f k a0 l2).bind fun t338 => (affidavitlaw03_PolySame.j0 k a0 l1 l2 (!t338))) else (affidavitlaw03_PolySame.j0 k a0 l1 l2 true))) else (affidavitlaw03_PolySame.j0 k a0 l1 l2 true)) = some r := H
          have A10 := Aside0.mk A100
          clear A100
          by_cases c11 : t336 = true
          · subst c11
            have H1 : ((poly_Right.f k a0 l1).bind fun t337 => (if t337 = true then ((poly_Right.f k a0 l2).bind fun t338 => (affidavitlaw03_PolySame.j0 k a0 l1 l2 (!t338))) else (affidavitlaw03_PolySame.j0 k a0 l1 l2 true))) = some r := by rw [if_pos rfl] at H; exact H
            clear H
            have H := H1
            clear H1
            replace H := Option.bind_eq_some_iff.mp H
            obtain ⟨t337, A120, H⟩ := H
            replace H : (if t337 = true then ((poly_Right.f k a0 l2).bind fun t338 => (affidavitlaw03_PolySame.j0 k a0 l1 l2 (!t338))) else (affidavitlaw03_PolySame.j0 k a0 l1 l2 true)) = some r := H
            have A12 := Aside0.mk A120
            clear A120
            by_cases c13 : t337 = true
            · subst c13
              have H1 : ((poly_Right.f k a0 l2).bind fun t338 => (affidavitlaw03_PolySame.j0 k a0 l1 l2 (!t338))) = some r := by rw [if_pos rfl] at H; exact H
              clear H
              have H := H1
              clear H1
              replace H := Option.bind_eq_some_iff.mp H
              obtain ⟨t338, A140, H⟩ := H
              replace H : (affidavitlaw03_PolySame.j0 k a0 l1 l2 (!t338)) = some r := H
              have A14 := Aside0.mk A140
              clear A140
              have H' := Aside0.mk H
              clear H
              go_wp2_with (first | (go_at_call 34; (with_reducible refine (affidavitlaw03_prime.calls k a0 true _ A10.out).mono ?_); rintro e w' ⟨rfl, ⟨nd, rfl⟩⟩) | (go_at_call 39; (with_reducible refine (poly_Right.calls k a0 _ _ l1 true _ ?side1 ?side2 A12.out).mono ?_); (case side1 => repeat (first | exact (Kd.C_below HR1.out (by repeat (first | (with_reducible first | exact HB.out | apply below_alloc | apply pw_below_drewN | apply below_drew1) | exact HB.out))) | (with_reducible refine Kd.C_alloc ?_ _) | (with_reducible refine Kd.C_drewN ?_ _) | (with_reducible refine Kd.C_drew ?_))); (case side2 => exact HC1.out); rintro e w' ⟨rfl, ⟨nd, rfl⟩⟩) | (go_at_call 39; (with_reducible refine (poly_Right.calls k a0 _ _ l2 t338 _ ?side1 ?side2 A14.out).mono ?_); (case side1 => repeat (first | exact (Kd.C_below HR2.out (by repeat (first | (with_reducible first | exact HB.out | apply below_alloc | apply pw_below_drewN | apply below_drew1) | exact HB.out))) | (with_reducible refine Kd.C_alloc ?_ _) | (with_reducible refine Kd.C_drewN ?_ _) | (with_reducible refine Kd.C_drew ?_))); (case side2 => exact HC2.out); rintro e w' ⟨rfl, ⟨nd, rfl⟩⟩))
              go_meet
              case rel => exact ⟨_, (!t338), (by first | rfl | (simp; done) | (simp [*]; done)), H', ⟨by first | omega | exact Nat.le_refl _⟩, ⟨by repeat (first | (with_reducible first | exact HB.out | apply below_alloc | apply pw_below_drewN | apply below_drew1) | exact HB.out)⟩⟩
            · replace c13 := Bool.eq_false_iff.mpr c13
              subst c13
              have H1 : (affidavitlaw03_PolySame.j0 k a0 l1 l2 true) = some r := by rw [if_neg (show ¬ (false = true) by decide)] at H; exact H
              clear H
              have H := H1
              clear H1
              have H' := Aside0.mk H
              clear H
              go_wp2_with (first | (go_at_call 34; (with_reducible refine (affidavitlaw03_prime.calls k a0 true _ A10.out).mono ?_); rintro e w' ⟨rfl, ⟨nd, rfl⟩⟩) | (go_at_call 39; (with_reducible refine (poly_Right.calls k a0 _ _ l1 false _ ?side1 ?side2 A12.out).mono ?_); (case side1 => repeat (first | exact (Kd.C_below HR1.out (by repeat (first | (with_reducible first | exact HB.out | apply below_alloc | apply pw_below_drewN | apply below_drew1) | exact HB.out))) | (with_reducible refine Kd.C_alloc ?_ _) | (with_reducible refine Kd.C_drewN ?_ _) | (with_reducible refine Kd.C_drew ?_))); (case side2 => exact HC1.out); rintro e w' ⟨rfl, ⟨nd, rfl⟩⟩))
              go_meet
              case rel => exact ⟨_, (true), (by first | rfl | (simp; done) | (simp [*]; done)), H', ⟨by first | omega | exact Nat.le_refl _⟩, ⟨by repeat (first | (with_reducible first | exact HB.out | apply below_alloc | apply pw_below_drewN | apply below_drew1) | exact HB.out)⟩⟩
          · replace c11 := Bool.eq_false_iff.mpr c11
            subst c11
            have H1 : (affidavitlaw03_PolySame.j0 k a0 l1 l2 true) = some r := by rw [if_neg (show ¬ (false = true) by decide)] at H; exact H
            clear H
            have H := H1
            clear H1
            have H' := Aside0.mk H
            clear H
            go_wp2_with (first | (go_at_call 34; (with_reducible refine (affidavitlaw03_prime.calls k a0 false _ A10.out).mono ?_); rintro e w' ⟨rfl, ⟨nd, rfl⟩⟩))
            go_meet
            case rel => exact ⟨_, (true), (by first | rfl | (simp; done) | (simp [*]; done)), H', ⟨by first | omega | exact Nat.le_refl _⟩, ⟨by repeat (first | (with_reducible first | exact HB.out | apply below_alloc | apply pw_below_drewN | apply below_drew1) | exact HB.out)⟩⟩
    case rest =>
      clear HC6
      try clear c1
      try clear c2
      try clear p2
      try clear c3
      try clear c5
      try clear c8
      try clear c8b0
      try clear c8b1
      try clear c9
      try clear c9b0
      try clear c9b1
      try clear c11
      try clear c13
      obtain ⟨kq, x51_5, rfl, HA, HJ5, HB⟩ := hcut
      cases kq with
      | zero => exact absurd HA.out (by simp [affidavitlaw03_PolySame.j0])
      | succ kj5 =>
        have H := HA.out
        clear HA
        simp only [affidavitlaw03_PolySame.j0] at H
        by_cases c15 : x51_5 = true
        · subst c15
          have H1 : (some true) = some r := by rw [if_pos rfl] at H; exact H
          clear H
          have H := H1
          clear H1
          obtain rfl := Option.some.inj H
          go_wp2
          go_ret
          exact ⟨by first | rfl | (simp [errW_none, errW_some] <;> rfl) | (simp [*, errW_none, errW_some] <;> rfl), by repeat (first | (with_reducible first | exact HB.out | apply below_alloc | apply pw_below_drewN | apply below_drew1) | exact HB.out)⟩
        · replace c15 := Bool.eq_false_iff.mpr c15
          subst c15
          have H1 : ((poly_Gcd.f kj5 a0 l1 l2).bind fun bt339 => ((poly_Gcd.f kj5 a0 l2 l1).bind fun bt343 => ((poly_Lcm.f kj5 a0 l1 l2).bind fun bt347 => ((poly_Lcm.f kj5 a0 l2 l1).bind fun bt351 => ((poly_Monic.f kj5 a0 l1).bind fun bt355 => ((poly_Gcd.f kj5 a0 l1 l1).bind fun bt359 => ((poly_Lcm.f kj5 a0 l1 l1).bind fun bt363 => ((poly_Gcd.f kj5 a0 l1 (([1] : List Int))).bind fun bt370 => ((poly_Lcm.f kj5 a0 l1 (([1] : List Int))).bind fun bt377 => (if bt355.2 = 0 then (if bt359.2 = 0 then (if bt363.2 = 0 then (if bt370.2 = 0 then (if bt377.2 = 0 then ((affidavitref01_Same.f kj5 bt339.1 bt343.1).bind fun t381 => (if t381 = true then ((affidavitref01_Same.f kj5 bt347.1 bt351.1).bind fun t382 => (if t382 = true then ((affidavitref01_Same.f kj5 bt359.1 bt355.1).bind fun t383 => (if t383 = true then ((affidavitref01_Same.f kj5 bt363.1 bt355.1).bind fun t384 => (if t384 = true then ((affidavitref01_Same.f kj5 bt370.1 (([1] : List Int))).bind fun t388 => (if t388 = true then ((affidavitref01_Same.f kj5 bt377.1 bt355.1).bind fun t389 => (some t389)) else (none))) else (none))) else (none))) else (none))) else (none))) else (none)) else (none)) else (none)) else (none)) else (none))))))))))) = some r := by rw [if_neg (show ¬ (false = true) by decide)] at H; exact H
          clear H
          have H := H1
          clear H1
          replace H := Option.bind_eq_some_iff.mp H
          obtain ⟨⟨t339, t342⟩, A160, H⟩ := H
          replace H : ((poly_Gcd.f kj5 a0 l2 l1).bind fun bt343 => ((poly_Lcm.f kj5 a0 l1 l2).bind fun bt347 => ((poly_Lcm.f kj5 a0 l2 l1).bind fun bt351 => ((poly_Monic.f kj5 a0 l1).bind fun bt355 => ((poly_Gcd.f kj5 a0 l1 l1).bind fun bt359 => ((poly_Lcm.f kj5 a0 l1 l1).bind fun bt363 => ((poly_Gcd.f kj5 a0 l1 (([1] : List Int))).bind fun bt370 => ((poly_Lcm.f kj5 a0 l1 (([1] : List Int))).bind fun bt377 => (if bt355.2 = 0 then (if bt359.2 = 0 then (if bt363.2 = 0 then (if bt370.2 = 0 then (if bt377.2 = 0 then ((affidavitref01_Same.f kj5 t339 bt343.1).bind fun t381 => (if t381 = true then ((affidavitref01_Same.f kj5 bt347.1 bt351.1).bind fun t382 => (if t382 = true then ((affidavitref01_Same.f kj5 bt359.1 bt355.1).bind fun t383 => (if t383 = true then ((affidavitref01_Same.f kj5 bt363.1 bt355.1).bind fun t384 => (if t384 = true then ((affidavitref01_Same.f kj5 bt370.1 (([1] : List Int))).bind fun t388 => (if t388 = true then ((affidavitref01_Same.f kj5 bt377.1 bt355.1).bind fun t389 => (some t389)) else (none))) else (none))) else (none))) else (none))) else (none))) else (none)) else (none)) else (none)) else (none)) else (none)))))))))) = some r := H
          have A16 := Aside0.mk A160
          clear A160
          replace H := Option.bind_eq_some_iff.mp H
          obtain ⟨⟨t343, t346⟩, A170, H⟩ := H
          replace H : ((poly_Lcm.f kj5 a0 l1 l2).bind fun bt347 => ((poly_Lcm.f kj5 a0 l2 l1).bind fun bt351 => ((poly_Monic.f kj5 a0 l1).bind fun bt355 => ((poly_Gcd.f kj5 a0 l1 l1).bind fun bt359 => ((poly_Lcm.f kj5 a0 l1 l1).bind fun bt363 => ((poly_Gcd.f kj5 a0 l1 (([1] : List Int))).bind fun bt370 => ((poly_Lcm.f kj5 a0 l1 (([1] : List Int))).bind fun bt377 => (if bt355.2 = 0 then (if bt359.2 = 0 then (if bt363.2 = 0 then (if bt370.2 = 0 then (if bt377.2 = 0 then ((affidavitref01_Same.f kj5 t339 t343).bind fun t381 => (if t381 = true then ((affidavitref01_Same.f kj5 bt347.1 bt351.1).bind fun t382 => (if t382 = true then ((affidavitref01_Same.f kj5 bt359.1 bt355.1).bind fun t383 => (if t383 = true then ((affidavitref01_Same.f kj5 bt363.1 bt355.1).bind fun t384 => (if t384 = true then ((affidavitref01_Same.f kj5 bt370.1 (([1] : List Int))).bind fun t388 => (if t388 = true then ((affidavitref01_Same.f kj5 bt377.1 bt355.1).bind fun t389 => (some t389)) else (none))) else (none))) else (none))) else (none))) else (none))) else (none)) else (none)) else (none)) else (none)) else (none))))))))) = some r := H
          have A17 := Aside0.mk A170
          clear A170
          replace H := Option.bind_eq_some_iff.mp H
          obtain ⟨⟨t347, t350⟩, A180, H⟩ := H
          replace H : ((poly_Lcm.f kj5 a0 l2 l1).bind fun bt351 => ((poly_Monic.f kj5 a0 l1).bind fun bt355 => ((poly_Gcd.f kj5 a0 l1 l1).bind fun bt359 => ((poly_Lcm.f kj5 a0 l1 l1).bind fun bt363 => ((poly_Gcd.f kj5 a0 l1 (([1] : List Int))).bind fun bt370 => ((poly_Lcm.f kj5 a0 l1 (([1] : List Int))).bind fun bt377 => (if bt355.2 = 0 then (if bt359.2 = 0 then (if bt363.2 = 0 then (if bt370.2 = 0 then (if bt377.2 = 0 then ((affidavitref01_Same.f kj5 t339 t343).bind fun t381 => (if t381 = true then ((affidavitref01_Same.f kj5 t347 bt351.1).bind fun t382 => (if t382 = true then ((affidavitref01_Same.f kj5 bt359.1 bt355.1).bind fun t383 => (if t383 = true then ((affidavitref01_Same.f kj5 bt363.1 bt355.1).bind fun t384 => (if t384 = true then ((affidavitref01_Same.f kj5 bt370.1 (([1] : List Int))).bind fun t388 => (if t388 = true then ((affidavitref01_Same.f kj5 bt377.1 bt355.1).bind fun t389 => (some t389)) else (none))) else (none))) else (none))) else (none))) else (none))) else (none)) else (none)) else (none)) else (none)) else (none)))))))) = some r := H
          have A18 := Aside0.mk A180
          clear A180
          replace H := Option.bind_eq_some_iff.mp H
          obtain ⟨⟨t351, t354⟩, A190, H⟩ := H
          replace H : ((poly_Monic.f kj5 a0 l1).bind fun bt355 => ((poly_Gcd.f kj5 a0 l1 l1).bind fun bt359 => ((poly_Lcm.f kj5 a0 l1 l1).bind fun bt363 => ((poly_Gcd.f kj5 a0 l1 (([1] : List Int))).bind fun bt370 => ((poly_Lcm.f kj5 a0 l1 (([1] : List Int))).bind fun bt377 => (if bt355.2 = 0 then (if bt359.2 = 0 then (if bt363.2 = 0 then (if bt370.2 = 0 then (if bt377.2 = 0 then ((affidavitref01_Same.f kj5 t339 t343).bind fun t381 => (if t381 = true then ((affidavitref01_Same.f kj5 t347 t351).bind fun t382 => (if t382 = true then ((affidavitref01_Same.f kj5 bt359.1 bt355.1).bind fun t383 => (if t383 = true then ((affidavitref01_Same.f kj5 bt363.1 bt355.1).bind fun t384 => (if t384 = true then ((affidavitref01_Same.f kj5 bt370.1 (([1] : List Int))).bind fun t388 => (if t388 = true then ((affidavitref01_Same.f kj5 bt377.1 bt355.1).bind fun t389 => (some t389)) else (none))) else (none))) else (none))) else (none))) else (none))) else (none)) else (none)) else (none)) else (none)) else (none))))))) = some r := H
          have A19 := Aside0.mk A190
          clear A190
          replace H := Option.bind_eq_some_iff.mp H
          obtain ⟨⟨t355, t358⟩, A200, H⟩ := H
          replace H : ((poly_Gcd.f kj5 a0 l1 l1).bind fun bt359 => ((poly_Lcm.f kj5 a0 l1 l1).bind fun bt363 => ((poly_Gcd.f kj5 a0 l1 (([1] : List Int))).bind fun bt370 => ((poly_Lcm.f kj5 a0 l1 (([1] : List Int))).bind fun bt377 => (if t358 = 0 then (if bt359.2 = 0 then (if bt363.2 = 0 then (if bt370.2 = 0 then (if bt377.2 = 0 then ((affidavitref01_Same.f kj5 t339 t343).bind fun t381 => (if t381 = true then ((affidavitref01_Same.f kj5 t347 t351).bind fun t382 => (if t382 = true then ((affidavitref01_Same.f kj5 bt359.1 t355).bind fun t383 => (if t383 = true then ((affidavitref01_Same.f kj5 bt363.1 t355).bind fun t384 => (if t384 = true then ((affidavitref01_Same.f kj5 bt370.1 (([1] : List Int))).bind fun t388 => (if t388 = true then ((affidavitref01_Same.f kj5 bt377.1 t355).bind fun t389 => (some t389)) else (none))) else (none))) else (none))) else (none))) else (none))) else (none)) else (none)) else (none)) else (none)) else (none)))))) = some r := H
          have A20 := Aside0.mk A200
          clear A200
          replace H := Option.bind_eq_some_iff.mp H
          obtain ⟨⟨t359, t362⟩, A210, H⟩ := H
          replace H : ((poly_Lcm.f kj5 a0 l1 l1).bind fun bt363 => ((poly_Gcd.f kj5 a0 l1 (([1] : List Int))).bind fun bt370 => ((poly_Lcm.f kj5 a0 l1 (([1] : List Int))).bind fun bt377 => (if t358 = 0 then (if t362 = 0 then (if bt363.2 = 0 then (if bt370.2 = 0 then (if bt377.2 = 0 then ((affidavitref01_Same.f kj5 t339 t343).bind fun t381 => (if t381 = true then ((affidavitref01_Same.f kj5 t347 t351).bind fun t382 => (if t382 = true then ((affidavitref01_Same.f kj5 t359 t355).bind fun t383 => (if t383 = true then ((affidavitref01_Same.f kj5 bt363.1 t355).bind fun t384 => (if t384 = true then ((affidavitref01_Same.f kj5 bt370.1 (([1] : List Int))).bind fun t388 => (if t388 = true then ((affidavitref01_Same.f kj5 bt377.1 t355).bind fun t389 => (some t389)) else (none))) else (none))) else (none))) else (none))) else (none))) else (none)) else (none)) else (none)) else (none)) else (none))))) = some r := H
          have A21 := Aside0.mk A210
          clear A210
          replace H := Option.bind_eq_some_iff.mp H
          obtain ⟨⟨t363, t366⟩, A220, H⟩ := H
          replace H : ((poly_Gcd.f kj5 a0 l1 (([1] : List Int))).bind fun bt370 => ((poly_Lcm.f kj5 a0 l1 (([1] : List Int))).bind fun bt377 => (if t358 = 0 then (if t362 = 0 then (if t366 = 0 then (if bt370.2 = 0 then (if bt377.2 = 0 then ((affidavitref01_Same.f kj5 t339 t343).bind fun t381 => (if t381 = true then ((affidavitref01_Same.f kj5 t347 t351).bind fun t382 => (if t382 = true then ((affidavitref01_Same.f kj5 t359 t355).bind fun t383 => (if t383 = true then ((affidavitref01_Same.f kj5 t363 t355).bind fun t384 => (if t384 = true then ((affidavitref01_Same.f kj5 bt370.1 (([1] : List Int))).bind fun t388 => (if t388 = true then ((affidavitref01_Same.f kj5 bt377.1 t355).bind fun t389 => (some t389)) else (none))) else (none))) else (none))) else (none))) else (none))) else (none)) else (none)) else (none)) else (none)) else (none)))) = some r := H
          have A22 := Aside0.mk A220
          clear A220
          obtain ⟨y367, hy367⟩ : ∃ y_ : List Int, y_ = (([1] : List Int)) := ⟨_, rfl⟩
          replace H : ((poly_Gcd.f kj5 a0 l1 y367).bind fun bt370 => ((poly_Lcm.f kj5 a0 l1 (([1] : List Int))).bind fun bt377 => (if t358 = 0 then (if t362 = 0 then (if t366 = 0 then (if bt370.2 = 0 then (if bt377.2 = 0 then ((affidavitref01_Same.f kj5 t339 t343).bind fun t381 => (if t381 = true then ((affidavitref01_Same.f kj5 t347 t351).bind fun t382 => (if t382 = true then ((affidavitref01_Same.f kj5 t359 t355).bind fun t383 => (if t383 = true then ((affidavitref01_Same.f kj5 t363 t355).bind fun t384 => (if t384 = true then ((affidavitref01_Same.f kj5 bt370.1 (([1] : List Int))).bind fun t388 => (if t388 = true then ((affidavitref01_Same.f kj5 bt377.1 t355).bind fun t389 => (some t389)) else (none))) else (none))) else (none))) else (none))) else (none))) else (none)) else (none)) else (none)) else (none)) else (none)))) = some r := by first | (rw [hy367]; with_reducible exact H) | (have H2_ := (Option.bind_some _ _).symm.trans H; rw [hy367]; with_reducible exact H2_) | (have H2_ := (Option.bind_some _ _).symm.trans H; with_reducible exact H2_) | with_reducible exact H | (rw [hy367]; exact H) | exact H
          have Ny367 := Aside0.mk hy367
          clear hy367
          replace H := Option.bind_eq_some_iff.mp H
          obtain ⟨⟨t370, t373⟩, A230, H⟩ := H
          replace H : ((poly_Lcm.f kj5 a0 l1 (([1] : List Int))).bind fun bt377 => (if t358 = 0 then (if t362 = 0 then (if t366 = 0 then (if t373 = 0 then (if bt377.2 = 0 then ((affidavitref01_Same.f kj5 t339 t343).bind fun t381 => (if t381 = true then ((affidavitref01_Same.f kj5 t347 t351).bind fun t382 => (if t382 = true then ((affidavitref01_Same.f kj5 t359 t355).bind fun t383 => (if t383 = true then ((affidavitref01_Same.f kj5 t363 t355).bind fun t384 => (if t384 = true then ((affidavitref01_Same.f kj5 t370 (([1] : List Int))).bind fun t388 => (if t388 = true then ((affidavitref01_Same.f kj5 bt377.1 t355).bind fun t389 => (some t389)) else (none))) else (none))) else (none))) else (none))) else (none))) else (none)) else (none)) else (none)) else (none)) else (none))) = some r := H
          have A23 := Aside0.mk A230
          clear A230
          obtain ⟨y374, hy374⟩ : ∃ y_ : List Int, y_ = (([1] : List Int)) := ⟨_, rfl⟩
          replace H : ((poly_Lcm.f kj5 a0 l1 y374).bind fun bt377 => (if t358 = 0 then (if t362 = 0 then (if t366 = 0 then (if t373 = 0 then (if bt377.2 = 0 then ((affidavitref01_Same.f kj5 t339 t343).bind fun t381 => (if t381 = true then ((affidavitref01_Same.f kj5 t347 t351).bind fun t382 => (if t382 = true then ((affidavitref01_Same.f kj5 t359 t355).bind fun t383 => (if t383 = true then ((affidavitref01_Same.f kj5 t363 t355).bind fun t384 => (if t384 = true then ((affidavitref01_Same.f kj5 t370 (([1] : List Int))).bind fun t388 => (if t388 = true then ((affidavitref01_Same.f kj5 bt377.1 t355).bind fun t389 => (some t389)) else (none))) else (none))) else (none))) else (none))) else (none))) else (none)) else (none)) else (none)) else (none)) else (none))) = some r := by first | (rw [hy374]; with_reducible exact H) | (have H2_ := (Option.bind_some _ _).symm.trans H; rw [hy374]; with_reducible exact H2_) | (have H2_ := (Option.bind_some _ _).symm.trans H; with_reducible exact H2_) | with_reducible exact H | (rw [hy374]; exact H) | exact H
          have Ny374 := Aside0.mk hy374
          clear hy374
          replace H := Option.bind_eq_some_iff.mp H
          obtain ⟨⟨t377, t380⟩, A240, H⟩ := H
          replace H : (if t358 = 0 then (if t362 = 0 then (if t366 = 0 then (if t373 = 0 then (if t380 = 0 then ((affidavitref01_Same.f kj5 t339 t343).bind fun t381 => (if t381 = true then ((affidavitref01_Same.f kj5 t347 t351).bind fun t382 => (if t382 = true then ((affidavitref01_Same.f kj5 t359 t355).bind fun t383 => (if t383 = true then ((affidavitref01_Same.f kj5 t363 t355).bind fun t384 => (if t384 = true then ((affidavitref01_Same.f kj5 t370 (([1] : List Int))).bind fun t388 => (if t388 = true then ((affidavitref01_Same.f kj5 t377 t355).bind fun t389 => (some t389)) else (none))) else (none))) else (none))) else (none))) else (none))) else (none)) else (none)) else (none)) else (none)) else (none)) = some r := H
          have A24 := Aside0.mk A240
          clear A240
          by_cases c25 : t358 = 0
          · rw [if_pos c25] at H
            have c25b0 : (t358 == 0) = true := beq_iff_eq.mpr c25
            have c25b1 : (t358 != 0) = false := bne_eq_false_iff_eq.mpr c25
            clear c25
            by_cases c26 : t362 = 0
            · rw [if_pos c26] at H
              have c26b0 : (t362 == 0) = true := beq_iff_eq.mpr c26
              have c26b1 : (t362 != 0) = false := bne_eq_false_iff_eq.mpr c26
              clear c26
              by_cases c27 : t366 = 0
              · rw [if_pos c27] at H
                have c27b0 : (t366 == 0) = true := beq_iff_eq.mpr c27
                have c27b1 : (t366 != 0) = false := bne_eq_false_iff_eq.mpr c27
                clear c27
                by_cases c28 : t373 = 0
                · rw [if_pos c28] at H
                  have c28b0 : (t373 == 0) = true := beq_iff_eq.mpr c28
                  have c28b1 : (t373 != 0) = false := bne_eq_false_iff_eq.mpr c28
                  clear c28
                  by_cases c29 : t380 = 0
                  · rw [if_pos c29] at H
                    have c29b0 : (t380 == 0) = true := beq_iff_eq.mpr c29
                    have c29b1 : (t380 != 0) = false := bne_eq_false_iff_eq.mpr c29
                    clear c29
                    replace H := Option.bind_eq_some_iff.mp H
                    obtain ⟨t381, A300, H⟩ := H
                    replace H : (if t381 = true then ((affidavitref01_Same.f kj5 t347 t351).bind fun t382 => (if t382 = true then ((affidavitref01_Same.f kj5 t359 t355).bind fun t383 => (if t383 = true then ((affidavitref01_Same.f kj5 t363 t355).bind fun t384 => (if t384 = true then ((affidavitref01_Same.f kj5 t370 (([1] : List Int))).bind fun t388 => (if t388 = true then ((affidavitref01_Same.f kj5 t377 t355).bind fun t389 => (some t389)) else (none))) else (none))) else (none))) else (none))) else (none)) = some r := H
                    have A30 := Aside0.mk A300
                    clear A300
                    by_cases c31 : t381 = true
                    · subst c31
                      have H1 : ((affidavitref01_Same.f kj5 t347 t351).bind fun t382 => (if t382 = true then ((affidavitref01_Same.f kj5 t359 t355).bind fun t383 => (if t383 = true then ((affidavitref01_Same.f kj5 t363 t355).bind fun t384 => (if t384 = true then ((affidavitref01_Same.f kj5 t370 (([1] : List Int))).bind fun t388 => (if t388 = true then ((affidavitref01_Same.f kj5 t377 t355).bind fun t389 => (some t389)) else (none))) else (none))) else (none))) else (none))) = some r := by rw [if_pos rfl] at H; exact H
                      clear H
                      have H := H1
                      clear H1
                      replace H := Option.bind_eq_some_iff.mp H
                      obtain ⟨t382, A320, H⟩ := H
                      replace H : (if t382 = true then ((affidavitref01_Same.f kj5 t359 t355).bind fun t383 => (if t383 = true then ((affidavitref01_Same.f kj5 t363 t355).bind fun t384 => (if t384 = true then ((affidavitref01_Same.f kj5 t370 (([1] : List Int))).bind fun t388 => (if t388 = true then ((affidavitref01_Same.f kj5 t377 t355).bind fun t389 => (some t389)) else (none))) else (none))) else (none))) else (none)) = some r := H
                      have A32 := Aside0.mk A320
                      clear A320
                      by_cases c33 : t382 = true
                      · subst c33
                        have H1 : ((affidavitref01_Same.f kj5 t359 t355).bind fun t383 => (if t383 = true then ((affidavitref01_Same.f kj5 t363 t355).bind fun t384 => (if t384 = true then ((affidavitref01_Same.f kj5 t370 (([1] : List Int))).bind fun t388 => (if t388 = true then ((affidavitref01_Same.f kj5 t377 t355).bind fun t389 => (some t389)) else (none))) else (none))) else (none))) = some r := by rw [if_pos rfl] at H; exact H
                        clear H
                        have H := H1
                        clear H1
                        replace H := Option.bind_eq_some_iff.mp H
                        obtain ⟨t383, A340, H⟩ := H
                        replace H : (if t383 = true then ((affidavitref01_Same.f kj5 t363 t355).bind fun t384 => (if t384 = true then ((affidavitref01_Same.f kj5 t370 (([1] : List Int))).bind fun t388 => (if t388 = true then ((affidavitref01_Same.f kj5 t377 t355).bind fun t389 => (some t389)) else (none))) else (none))) else (none)) = some r := H
                        have A34 := Aside0.mk A340
                        clear A340
                        by_cases c35 : t383 = true
                        · subst c35
                          have H1 : ((affidavitref01_Same.f kj5 t363 t355).bind fun t384 => (if t384 = true then ((affidavitref01_Same.f kj5 t370 (([1] : List Int))).bind fun t388 => (if t388 = true then ((affidavitref01_Same.f kj5 t377 t355).bind fun t389 => (some t389)) else (none))) else (none))) = some r := by rw [if_pos rfl] at H; exact H
                          clear H
                          have H := H1
                          clear H1
                          replace H := Option.bind_eq_some_iff.mp H
                          obtain ⟨t384, A360, H⟩ := H
                          replace H : (if t384 = true then ((affidavitref01_Same.f kj5 t370 (([1] : List Int))).bind fun t388 => (if t388 = true then ((affidavitref01_Same.f kj5 t377 t355).bind fun t389 => (some t389)) else (none))) else (none)) = some r := H
                          have A36 := Aside0.mk A360
                          clear A360
                          by_cases c37 : t384 = true
                          · subst c37
                            have H1 : ((affidavitref01_Same.f kj5 t370 (([1] : List Int))).bind fun t388 => (if t388 = true then ((affidavitref01_Same.f kj5 t377 t355).bind fun t389 => (some t389)) else (none))) = some r := by rw [if_pos rfl] at H; exact H
                            clear H
                            have H := H1
                            clear H1
                            obtain ⟨y385, hy385⟩ : ∃ y_ : List Int, y_ = (([1] : List Int)) := ⟨_, rfl⟩
                            replace H : ((affidavitref01_Same.f kj5 t370 y385).bind fun t388 => (if t388 = true then ((affidavitref01_Same.f kj5 t377 t355).bind fun t389 => (some t389)) else (none))) = some r := by first | (rw [hy385]; with_reducible exact H) | (have H2_ := (Option.bind_some _ _).symm.trans H; rw [hy385]; with_reducible exact H2_) | (have H2_ := (Option.bind_some _ _).symm.trans H; with_reducible exact H2_) | with_reducible exact H | (rw [hy385]; exact H) | exact H
                            have Ny385 := Aside0.mk hy385
                            clear hy385
                            replace H := Option.bind_eq_some_iff.mp H
                            obtain ⟨t388, A380, H⟩ := H
                            replace H : (if t388 = true then ((affidavitref01_Same.f kj5 t377 t355).bind fun t389 => (some t389)) else (none)) = some r := H
                            have A38 := Aside0.mk A380
                            clear A380
                            by_cases c39 : t388 = true
                            · subst c39
                              have H1 : ((affidavitref01_Same.f kj5 t377 t355).bind fun t389 => (some t389)) = some r := by rw [if_pos rfl] at H; exact H
                              clear H
                              have H := H1
                              clear H1
                              replace H := Option.bind_eq_some_iff.mp H
                              obtain ⟨t389, A400, H⟩ := H
                              replace H : (some t389) = some r := H
                              have A40 := Aside0.mk A400
                              clear A400
                              obtain rfl := Option.some.inj H
                              go_wp2_with (first | ((with_reducible refine gate_callee (f := 40) rfl ?_); refine goesL_ (some 56) rfl rfl Try.func40 (by kernel_rfl) rfl #[.int .u64 a0, .slice A1 l1.length c1, .slice A2 l2.length c2] rfl (by (try simp only [List.map_toArray, List.map_cons, List.map_nil]); first | done | rfl | (simp only [List.length_drop, List.length_take]; rfl)) ?_; (with_reducible refine (poly_Gcd.calls kj5 a0 _ _ l1 _ _ l2 t339 t342 _ ?side1 ?side2 ?side3 ?side4 A16.out).mono ?_); (case side1 => repeat (first | exact (Kd.C_below HR1.out HB.out) | (with_reducible refine Kd.C_alloc ?_ _) | (with_reducible refine Kd.C_drewN ?_ _) | (with_reducible refine Kd.C_drew ?_))); (case side2 => exact HC1.out); (case side3 => repeat (first | exact (Kd.C_below HR2.out HB.out) | (with_reducible refine Kd.C_alloc ?_ _) | (with_reducible refine Kd.C_drewN ?_ _) | (with_reducible refine Kd.C_drew ?_))); (case side4 => exact HC2.out); rintro e w41 ⟨v340, rfl, ho0, hb⟩; refine ⟨_, rfl, ?_⟩; have n0_ := Aside0.mk (Kd.V_lower (Kd.V_mono (ok' := fun k_ => True) ho0 (fun k_ hk_ => trivial)) (below_size (by repeat (first | (with_reducible first | exact HB.out | apply below_alloc | apply pw_below_drewN | apply below_drew1) | exact HB.out)))); have n1_ := Aside0.mk (below_step (by repeat (first | (with_reducible first | exact HB.out | apply below_alloc | apply pw_below_drewN | apply below_drew1) | exact HB.out)) hb); clear HB; have HO341 := n0_; have HB := n1_; clear n0_ n1_; (try clear hb); (try clear hb2); (try clear hk); (try clear hi); (try clear ho0)) | ((with_reducible refine gate_callee (f := 40) rfl ?_); refine goesL_ (some 63) rfl rfl Try.func40 (by kernel_rfl) rfl #[.int .u64 a0, .slice A2 l2.length c2, .slice A1 l1.length c1] rfl (by (try simp only [List.map_toArray, List.map_cons, List.map_nil]); first | done | rfl | (simp only [List.length_drop, List.length_take]; rfl)) ?_; (with_reducible refine (poly_Gcd.calls kj5 a0 _ _ l2 _ _ l1 t343 t346 _ ?side1 ?side2 ?side3 ?side4 A17.out).mono ?_); (case side1 => repeat (first | exact (Kd.C_below HR2.out HB.out) | (with_reducible refine Kd.C_alloc ?_ _) | (with_reducible refine Kd.C_drewN ?_ _) | (with_reducible refine Kd.C_drew ?_))); (case side2 => exact HC2.out); (case side3 => repeat (first | exact (Kd.C_below HR1.out HB.out) | (with_reducible refine Kd.C_alloc ?_ _) | (with_reducible refine Kd.C_drewN ?_ _) | (with_reducible refine Kd.C_drew ?_))); (case side4 => exact HC1.out); rintro e w42 ⟨v344, rfl, ho0, hb⟩; refine ⟨_, rfl, ?_⟩; have n0_ := Aside0.mk (Kd.V_below (by (with_reducible repeat (first | apply Kd.V_alloc | apply Kd.V_drewN | apply Kd.V_drew)); exact HO341.out) hb); have n1_ := Aside0.mk (Kd.V_lower (Kd.V_mono (ok' := fun k_ => True) ho0 (fun k_ hk_ => trivial)) (below_size (by repeat (first | (with_reducible first | exact HB.out | apply below_alloc | apply pw_below_drewN | apply below_drew1) | exact HB.out)))); have n2_ := Aside0.mk (below_step (by repeat (first | (with_reducible first | exact HB.out | apply below_alloc | apply pw_below_drewN | apply below_drew1) | exact HB.out)) hb); clear HO341; clear HB; have HO341 := n0_; have HO345 := n1_; have HB := n2_; clear n0_ n1_ n2_; (try clear hb); (try clear hb2); (try clear hk); (try clear hi); (try clear ho0)) | ((with_reducible refine gate_callee (f := 41) rfl ?_); refine goesL_ (some 70) rfl rfl Try.func41 (by kernel_rfl) rfl #[.int .u64 a0, .slice A1 l1.length c1, .slice A2 l2.length c2] rfl (by (try simp only [List.map_toArray, List.map_cons, List.map_nil]); first | done | rfl | (simp only [List.length_drop, List.length_take]; rfl)) ?_; (with_reducible refine (poly_Lcm.calls kj5 a0 _ _ l1 _ _ l2 t347 t350 _ ?side1 ?side2 ?side3 ?side4 A18.out).mono ?_); (case side1 => repeat (first | exact (Kd.C_below HR1.out HB.out) | (with_reducible refine Kd.C_alloc ?_ _) | (with_reducible refine Kd.C_drewN ?_ _) | (with_reducible refine Kd.C_drew ?_))); (case side2 => exact HC1.out); (case side3 => repeat (first | exact (Kd.C_below HR2.out HB.out) | (with_reducible refine Kd.C_alloc ?_ _) | (with_reducible refine Kd.C_drewN ?_ _) | (with_reducible refine Kd.C_drew ?_))); (case side4 => exact HC2.out); rintro e w43 ⟨v348, rfl, ho0, hb⟩; refine ⟨_, rfl, ?_⟩; have n0_ := Aside0.mk (Kd.V_below (by (with_reducible repeat (first | apply Kd.V_alloc | apply Kd.V_drewN | apply Kd.V_drew)); exact HO341.out) hb); have n1_ := Aside0.mk (Kd.V_below (by (with_reducible repeat (first | apply Kd.V_alloc | apply Kd.V_drewN | apply Kd.V_drew)); exact HO345.out) hb); have n2_ := Aside0.mk (Kd.V_lower (Kd.V_mono (ok' := fun k_ => True) ho0 (fun k_ hk_ => trivial)) (below_size (by repeat (first | (with_reducible first | exact HB.out | apply below_alloc | apply pw_below_drewN | apply below_drew1) | exact HB.out)))); have n3_ := Aside0.mk (below_step (by repeat (first | (with_reducible first | exact HB.out | apply below_alloc | apply pw_below_drewN | apply below_drew1) | exact HB.out)) hb); clear HO341; clear HO345; clear HB; have HO341 := n0_; have HO345 := n1_; have HO349 := n2_; have HB := n3_; clear n0_ n1_ n2_ n3_; (try clear hb); (try clear hb2); (try clear hk); (try clear hi); (try clear ho0)) | ((with_reducible refine gate_callee (f := 41) rfl ?_); refine goesL_ (some 77) rfl rfl Try.func41 (by kernel_rfl) rfl #[.int .u64 a0, .slice A2 l2.length c2, .slice A1 l1.length c1] rfl (by (try simp only [List.map_toArray, List.map_cons, List.map_nil]); first | done | rfl | (simp only [List.length_drop, List.length_take]; rfl)) ?_; (with_reducible refine (poly_Lcm.calls kj5 a0 _ _ l2 _ _ l1 t351 t354 _ ?side1 ?side2 ?side3 ?side4 A19.out).mono ?_); (case side1 => repeat (first | exact (Kd.C_below HR2.out HB.out) | (with_reducible refine Kd.C_alloc ?_ _) | (with_reducible refine Kd.C_drewN ?_ _) | (with_reducible refine Kd.C_drew ?_))); (case side2 => exact HC2.out); (case side3 => repeat (first | exact (Kd.C_below HR1.out HB.out) | (with_reducible refine Kd.C_alloc ?_ _) | (with_reducible refine Kd.C_drewN ?_ _) | (with_reducible refine Kd.C_drew ?_))); (case side4 => exact HC1.out); rintro e w44 ⟨v352, rfl, ho0, hb⟩; refine ⟨_, rfl, ?_⟩; have n0_ := Aside0.mk (Kd.V_below (by (with_reducible repeat (first | apply Kd.V_alloc | apply Kd.V_drewN | apply Kd.V_drew)); exact HO341.out) hb); have n1_ := Aside0.mk (Kd.V_below (by (with_reducible repeat (first | apply Kd.V_alloc | apply Kd.V_drewN | apply Kd.V_drew)); exact HO345.out) hb); have n2_ := Aside0.mk (Kd.V_below (by (with_reducible repeat (first | apply Kd.V_alloc | apply Kd.V_drewN | apply Kd.V_drew)); exact HO349.out) hb); have n3_ := Aside0.mk (Kd.V_lower (Kd.V_mono (ok' := fun k_ => True) ho0 (fun k_ hk_ => trivial)) (below_size (by repeat (first | (with_reducible first | exact HB.out | apply below_alloc | apply pw_below_drewN | apply below_drew1) | exact HB.out)))); have n4_ := Aside0.mk (below_step (by repeat (first | (with_reducible first | exact HB.out | apply below_alloc | apply pw_below_drewN | apply below_drew1) | exact HB.out)) hb); clear HO341; clear HO345; clear HO349; clear HB; have HO341 := n0_; have HO345 := n1_; have HO349 := n2_; have HO353 := n3_; have HB := n4_; clear n0_ n1_ n2_ n3_ n4_; (try clear hb); (try clear hb2); (try clear hk); (try clear hi); (try clear ho0)) | ((with_reducible refine gate_callee (f := 38) rfl ?_); refine goesL_ (some 83) rfl rfl Try.func38 (by kernel_rfl) rfl #[.int .u64 a0, .slice A1 l1.length c1] rfl (by (try simp only [List.map_toArray, List.map_cons, List.map_nil]); first | done | rfl | (simp only [List.length_drop, List.length_take]; rfl)) ?_; (with_reducible refine (poly_Monic.calls kj5 a0 _ _ l1 t355 t358 _ ?side1 ?side2 A20.out).mono ?_); (case side1 => repeat (first | exact (Kd.C_below HR1.out HB.out) | (with_reducible refine Kd.C_alloc ?_ _) | (with_reducible refine Kd.C_drewN ?_ _) | (with_reducible refine Kd.C_drew ?_))); (case side2 => exact HC1.out); rintro e w45 ⟨v356, rfl, ho0, hb⟩; refine ⟨_, rfl, ?_⟩; have n0_ := Aside0.mk (Kd.V_below (by (with_reducible repeat (first | apply Kd.V_alloc | apply Kd.V_drewN | apply Kd.V_drew)); exact HO341.out) hb); have n1_ := Aside0.mk (Kd.V_below (by (with_reducible repeat (first | apply Kd.V_alloc | apply Kd.V_drewN | apply Kd.V_drew)); exact HO345.out) hb); have n2_ := Aside0.mk (Kd.V_below (by (with_reducible repeat (first | apply Kd.V_alloc | apply Kd.V_drewN | apply Kd.V_drew)); exact HO349.out) hb); have n3_ := Aside0.mk (Kd.V_below (by (with_reducible repeat (first | apply Kd.V_alloc | apply Kd.V_drewN | apply Kd.V_drew)); exact HO353.out) hb); have n4_ := Aside0.mk (Kd.V_lower (Kd.V_mono (ok' := fun k_ => True) ho0 (fun k_ hk_ => trivial)) (below_size (by repeat (first | (with_reducible first | exact HB.out | apply below_alloc | apply pw_below_drewN | apply below_drew1) | exact HB.out)))); have n5_ := Aside0.mk (below_step (by repeat (first | (with_reducible first | exact HB.out | apply below_alloc | apply pw_below_drewN | apply below_drew1) | exact HB.out)) hb); clear HO341; clear HO345; clear HO349; clear HO353; clear HB; have HO341 := n0_; have HO345 := n1_; have HO349 := n2_; have HO353 := n3_; have HO357 := n4_; have HB := n5_; clear n0_ n1_ n2_ n3_ n4_ n5_; (try clear hb); (try clear hb2); (try clear hk); (try clear hi); (try clear ho0)) | ((with_reducible refine gate_callee (f := 40) rfl ?_); refine goesL_ (some 90) rfl rfl Try.func40 (by kernel_rfl) rfl #[.int .u64 a0, .slice A1 l1.length c1, .slice A1 l1.length c1] rfl (by (try simp only [List.map_toArray, List.map_cons, List.map_nil]); first | done | rfl | (simp only [List.length_drop, List.length_take]; rfl)) ?_; (with_reducible refine (poly_Gcd.calls kj5 a0 _ _ l1 _ _ l1 t359 t362 _ ?side1 ?side2 ?side3 ?side4 A21.out).mono ?_); (case side1 => repeat (first | exact (Kd.C_below HR1.out HB.out) | (with_reducible refine Kd.C_alloc ?_ _) | (with_reducible refine Kd.C_drewN ?_ _) | (with_reducible refine Kd.C_drew ?_))); (case side2 => exact HC1.out); (case side3 => repeat (first | exact (Kd.C_below HR1.out HB.out) | (with_reducible refine Kd.C_alloc ?_ _) | (with_reducible refine Kd.C_drewN ?_ _) | (with_reducible refine Kd.C_drew ?_))); (case side4 => exact HC1.out); rintro e w46 ⟨v360, rfl, ho0, hb⟩; refine ⟨_, rfl, ?_⟩; have n0_ := Aside0.mk (Kd.V_below (by (with_reducible repeat (first | apply Kd.V_alloc | apply Kd.V_drewN | apply Kd.V_drew)); exact HO341.out) hb); have n1_ := Aside0.mk (Kd.V_below (by (with_reducible repeat (first | apply Kd.V_alloc | apply Kd.V_drewN | apply Kd.V_drew)); exact HO345.out) hb); have n2_ := Aside0.mk (Kd.V_below (by (with_reducible repeat (first | apply Kd.V_alloc | apply Kd.V_drewN | apply Kd.V_drew)); exact HO349.out) hb); have n3_ := Aside0.mk (Kd.V_below (by (with_reducible repeat (first | apply Kd.V_alloc | apply Kd.V_drewN | apply Kd.V_drew)); exact HO353.out) hb); have n4_ := Aside0.mk (Kd.V_below (by (with_reducible repeat (first | apply Kd.V_alloc | apply Kd.V_drewN | apply Kd.V_drew)); exact HO357.out) hb); have n5_ := Aside0.mk (Kd.V_lower (Kd.V_mono (ok' := fun k_ => True) ho0 (fun k_ hk_ => trivial)) (below_size (by repeat (first | (with_reducible first | exact HB.out | apply below_alloc | apply pw_below_drewN | apply below_drew1) | exact HB.out)))); have n6_ := Aside0.mk (below_step (by repeat (first | (with_reducible first | exact HB.out | apply below_alloc | apply pw_below_drewN | apply below_drew1) | exact HB.out)) hb); clear HO341; clear HO345; clear HO349; clear HO353; clear HO357; clear HB; have HO341 := n0_; have HO345 := n1_; have HO349 := n2_; have HO353 := n3_; have HO357 := n4_; have HO361 := n5_; have HB := n6_; clear n0_ n1_ n2_ n3_ n4_ n5_ n6_; (try clear hb); (try clear hb2); (try clear hk); (try clear hi); (try clear ho0)) | ((with_reducible refine gate_callee (f := 41) rfl ?_); refine goesL_ (some 97) rfl rfl Try.func41 (by kernel_rfl) rfl #[.int .u64 a0, .slice A1 l1.length c1, .slice A1 l1.length c1] rfl (by (try simp only [List.map_toArray, List.map_cons, List.map_nil]); first | done | rfl | (simp only [List.length_drop, List.length_take]; rfl)) ?_; (with_reducible refine (poly_Lcm.calls kj5 a0 _ _ l1 _ _ l1 t363 t366 _ ?side1 ?side2 ?side3 ?side4 A22.out).mono ?_); (case side1 => repeat (first | exact (Kd.C_below HR1.out HB.out) | (with_reducible refine Kd.C_alloc ?_ _) | (with_reducible refine Kd.C_drewN ?_ _) | (with_reducible refine Kd.C_drew ?_))); (case side2 => exact HC1.out); (case side3 => repeat (first | exact (Kd.C_below HR1.out HB.out) | (with_reducible refine Kd.C_alloc ?_ _) | (with_reducible refine Kd.C_drewN ?_ _) | (with_reducible refine Kd.C_drew ?_))); (case side4 => exact HC1.out); rintro e w47 ⟨v364, rfl, ho0, hb⟩; refine ⟨_, rfl, ?_⟩; have n0_ := Aside0.mk (Kd.V_below (by (with_reducible repeat (first | apply Kd.V_alloc | apply Kd.V_drewN | apply Kd.V_drew)); exact HO341.out) hb); have n1_ := Aside0.mk (Kd.V_below (by (with_reducible repeat (first | apply Kd.V_alloc | apply Kd.V_drewN | apply Kd.V_drew)); exact HO345.out) hb); have n2_ := Aside0.mk (Kd.V_below (by (with_reducible repeat (first | apply Kd.V_alloc | apply Kd.V_drewN | apply Kd.V_drew)); exact HO349.out) hb); have n3_ := Aside0.mk (Kd.V_below (by (with_reducible repeat (first | apply Kd.V_alloc | apply Kd.V_drewN | apply Kd.V_drew)); exact HO353.out) hb); have n4_ := Aside0.mk (Kd.V_below (by (with_reducible repeat (first | apply Kd.V_alloc | apply Kd.V_drewN | apply Kd.V_drew)); exact HO357.out) hb); have n5_ := Aside0.mk (Kd.V_below (by (with_reducible repeat (first | apply Kd.V_alloc | apply Kd.V_drewN | apply Kd.V_drew)); exact HO361.out) hb); have n6_ := Aside0.mk (Kd.V_lower (Kd.V_mono (ok' := fun k_ => True) ho0 (fun k_ hk_ => trivial)) (below_size (by repeat (first | (with_reducible first | exact HB.out | apply below_alloc | apply pw_below_drewN | apply below_drew1) | exact HB.out)))); have n7_ := Aside0.mk (below_step (by repeat (first | (with_reducible first | exact HB.out | apply below_alloc | apply pw_below_drewN | apply below_drew1) | exact HB.out)) hb); clear HO341; clear HO345; clear HO349; clear HO353; clear HO357; clear HO361; clear HB; have HO341 := n0_; have HO345 := n1_; have HO349 := n2_; have HO353 := n3_; have HO357 := n4_; have HO361 := n5_; have HO365 := n6_; have HB := n7_; clear n0_ n1_ n2_ n3_ n4_ n5_ n6_ n7_; (try clear hb); (try clear hb2); (try clear hk); (try clear hi); (try clear ho0)) | ((with_reducible refine gate_dst (N := 103) rfl ?_); (try (refine gate_guard (by rfl) ?_; dsimp only)); refine Kd.R_lit (Kd.int .u64) _ 22 ?hg (N := 103) ?hd (xs := ([1] : List Int)) (inner := [.int .u64 1]) (ok := fun _ => True) (okp := fun _ => True) ?hr ?hp (fun _ hk => hk) trivial (Below.refl _ _) (Nat.le_refl _) (by simp) ?_; (case hd => rfl); (case hg => rfl); (case hr => first | (go_simp; done) | (go_simp; rfl)); (case hp => exact (Reps.one (show Kd.M (Kd.int .u64) _ _ _ 1 [.int .u64 1] from rfl) (Reps.none _ _))); intro v368 w48 ho49 hb hg_ hnew_; clear hg_ hnew_; (first | rw [← Ny367.out] at ho49 | (simp only [Int.reduceToNat] at ho49; rw [← Ny367.out] at ho49)); have n0_ := Aside0.mk (Kd.V_elder' (by (with_reducible repeat (first | apply Kd.V_alloc | apply Kd.V_drewN | apply Kd.V_drew)); exact HO341.out) (Kd.R_base ho49) hb); have n1_ := Aside0.mk (Kd.V_elder' (by (with_reducible repeat (first | apply Kd.V_alloc | apply Kd.V_drewN | apply Kd.V_drew)); exact HO345.out) (Kd.R_base ho49) hb); have n2_ := Aside0.mk (Kd.V_elder' (by (with_reducible repeat (first | apply Kd.V_alloc | apply Kd.V_drewN | apply Kd.V_drew)); exact HO349.out) (Kd.R_base ho49) hb); have n3_ := Aside0.mk (Kd.V_elder' (by (with_reducible repeat (first | apply Kd.V_alloc | apply Kd.V_drewN | apply Kd.V_drew)); exact HO353.out) (Kd.R_base ho49) hb); have n4_ := Aside0.mk (Kd.V_elder' (by (with_reducible repeat (first | apply Kd.V_alloc | apply Kd.V_drewN | apply Kd.V_drew)); exact HO357.out) (Kd.R_base ho49) hb); have n5_ := Aside0.mk (Kd.V_elder' (by (with_reducible repeat (first | apply Kd.V_alloc | apply Kd.V_drewN | apply Kd.V_drew)); exact HO361.out) (Kd.R_base ho49) hb); have n6_ := Aside0.mk (Kd.V_elder' (by (with_reducible repeat (first | apply Kd.V_alloc | apply Kd.V_drewN | apply Kd.V_drew)); exact HO365.out) (Kd.R_base ho49) hb); have n7_ := Aside0.mk (Kd.R_lower ho49 (below_size (by repeat (first | (with_reducible first | exact HB.out | apply below_alloc | apply pw_below_drewN | apply below_drew1) | exact HB.out)))); have n8_ := Aside0.mk (below_step (by repeat (first | (with_reducible first | exact HB.out | apply below_alloc | apply pw_below_drewN | apply below_drew1) | exact HB.out)) hb); clear HO341; clear HO345; clear HO349; clear HO353; clear HO357; clear HO361; clear HO365; clear HB; have HO341 := n0_; have HO345 := n1_; have HO349 := n2_; have HO353 := n3_; have HO357 := n4_; have HO361 := n5_; have HO365 := n6_; have HO369 := n7_; have HB := n8_; clear n0_ n1_ n2_ n3_ n4_ n5_ n6_ n7_ n8_; clear hb ho49; obtain ⟨Ao50, co50, eo50⟩ := Kd.R_slice HO369.out; subst eo50) | ((with_reducible refine gate_callee (f := 40) rfl ?_); refine goesL_ (some 104) rfl rfl Try.func40 (by kernel_rfl) rfl #[.int .u64 a0, .slice A1 l1.length c1, .slice Ao50 y367.length co50] rfl (by (try simp only [List.map_toArray, List.map_cons, List.map_nil]); first | done | rfl | (simp only [List.length_drop, List.length_take]; rfl)) ?_; (with_reducible refine (poly_Gcd.calls kj5 a0 _ _ l1 _ _ y367 t370 t373 _ ?side1 ?side2 ?side3 ?side4 A23.out).mono ?_); (case side1 => repeat (first | exact (Kd.C_below HR1.out HB.out) | (with_reducible refine Kd.C_alloc ?_ _) | (with_reducible refine Kd.C_drewN ?_ _) | (with_reducible refine Kd.C_drew ?_))); (case side2 => exact HC1.out); (case side3 => repeat (first | exact (Kd.R_reads' HO369.out).2.2 | (with_reducible refine Kd.C_alloc ?_ _) | (with_reducible refine Kd.C_drewN ?_ _) | (with_reducible refine Kd.C_drew ?_))); (case side4 => exact (Kd.R_reads' HO369.out).2.1); rintro e w51 ⟨v371, rfl, ho0, hb⟩; refine ⟨_, rfl, ?_⟩; have n0_ := Aside0.mk (Kd.V_below (by (with_reducible repeat (first | apply Kd.V_alloc | apply Kd.V_drewN | apply Kd.V_drew)); exact HO341.out) hb); have n1_ := Aside0.mk (Kd.V_below (by (with_reducible repeat (first | apply Kd.V_alloc | apply Kd.V_drewN | apply Kd.V_drew)); exact HO345.out) hb); have n2_ := Aside0.mk (Kd.V_below (by (with_reducible repeat (first | apply Kd.V_alloc | apply Kd.V_drewN | apply Kd.V_drew)); exact HO349.out) hb); have n3_ := Aside0.mk (Kd.V_below (by (with_reducible repeat (first | apply Kd.V_alloc | apply Kd.V_drewN | apply Kd.V_drew)); exact HO353.out) hb); have n4_ := Aside0.mk (Kd.V_below (by (with_reducible repeat (first | apply Kd.V_alloc | apply Kd.V_drewN | apply Kd.V_drew)); exact HO357.out) hb); have n5_ := Aside0.mk (Kd.V_below (by (with_reducible repeat (first | apply Kd.V_alloc | apply Kd.V_drewN | apply Kd.V_drew)); exact HO361.out) hb); have n6_ := Aside0.mk (Kd.V_below (by (with_reducible repeat (first | apply Kd.V_alloc | apply Kd.V_drewN | apply Kd.V_drew)); exact HO365.out) hb); have n7_ := Aside0.mk (Kd.R_below (by (with_reducible repeat (first | apply Kd.R_alloc | apply Kd.R_drewN | apply Kd.R_drew)); exact HO369.out) hb); have n8_ := Aside0.mk (Kd.V_lower (Kd.V_mono (ok' := fun k_ => some k_ ≠ (.slice Ao50 y367.length co50 : Value).ownBlock) ho0 (fun k_ hk_ => (Kd.fresh' (Kd.R_lt (by (with_reducible repeat (first | apply Kd.R_alloc | apply Kd.R_drewN | apply Kd.R_drew)); exact HO369.out)) k_ hk_))) (below_size (by repeat (first | (with_reducible first | exact HB.out | apply below_alloc | apply pw_below_drewN | apply below_drew1) | exact HB.out)))); have n9_ := Aside0.mk (below_step (by repeat (first | (with_reducible first | exact HB.out | apply below_alloc | apply pw_below_drewN | apply below_drew1) | exact HB.out)) hb); clear HO341; clear HO345; clear HO349; clear HO353; clear HO357; clear HO361; clear HO365; clear HO369; clear HB; have HO341 := n0_; have HO345 := n1_; have HO349 := n2_; have HO353 := n3_; have HO357 := n4_; have HO361 := n5_; have HO365 := n6_; have HO369 := n7_; have HO372 := n8_; have HB := n9_; clear n0_ n1_ n2_ n3_ n4_ n5_ n6_ n7_ n8_ n9_; (try clear hb); (try clear hb2); (try clear hk); (try clear hi); (try clear ho0)) | ((with_reducible refine gate_dst (N := 110) rfl ?_); (try (refine gate_guard (by rfl) ?_; dsimp only)); refine Kd.R_lit (Kd.int .u64) _ 22 ?hg (N := 110) ?hd (xs := ([1] : List Int)) (inner := [.int .u64 1]) (ok := fun _ => True) (okp := fun _ => True) ?hr ?hp (fun _ hk => hk) trivial (Below.refl _ _) (Nat.le_refl _) (by simp) ?_; (case hd => rfl); (case hg => rfl); (case hr => first | (go_simp; done) | (go_simp; rfl)); (case hp => exact (Reps.one (show Kd.M (Kd.int .u64) _ _ _ 1 [.int .u64 1] from rfl) (Reps.none _ _))); intro v375 w52 ho53 hb hg_ hnew_; clear hg_ hnew_; (first | rw [← Ny374.out] at ho53 | (simp only [Int.reduceToNat] at ho53; rw [← Ny374.out] at ho53)); have n0_ := Aside0.mk (Kd.V_elder' (by (with_reducible repeat (first | apply Kd.V_alloc | apply Kd.V_drewN | apply Kd.V_drew)); exact HO341.out) (Kd.R_base ho53) hb); have n1_ := Aside0.mk (Kd.V_elder' (by (with_reducible repeat (first | apply Kd.V_alloc | apply Kd.V_drewN | apply Kd.V_drew)); exact HO345.out) (Kd.R_base ho53) hb); have n2_ := Aside0.mk (Kd.V_elder' (by (with_reducible repeat (first | apply Kd.V_alloc | apply Kd.V_drewN | apply Kd.V_drew)); exact HO349.out) (Kd.R_base ho53) hb); have n3_ := Aside0.mk (Kd.V_elder' (by (with_reducible repeat (first | apply Kd.V_alloc | apply Kd.V_drewN | apply Kd.V_drew)); exact HO353.out) (Kd.R_base ho53) hb); have n4_ := Aside0.mk (Kd.V_elder' (by (with_reducible repeat (first | apply Kd.V_alloc | apply Kd.V_drewN | apply Kd.V_drew)); exact HO357.out) (Kd.R_base ho53) hb); have n5_ := Aside0.mk (Kd.V_elder' (by (with_reducible repeat (first | apply Kd.V_alloc | apply Kd.V_drewN | apply Kd.V_drew)); exact HO361.out) (Kd.R_base ho53) hb); have n6_ := Aside0.mk (Kd.V_elder' (by (with_reducible repeat (first | apply Kd.V_alloc | apply Kd.V_drewN | apply Kd.V_drew)); exact HO365.out) (Kd.R_base ho53) hb); have n7_ := Aside0.mk (Kd.R_elder' (by (with_reducible repeat (first | apply Kd.R_alloc | apply Kd.R_drewN | apply Kd.R_drew)); exact HO369.out) (Kd.R_base ho53) hb); have n8_ := Aside0.mk (Kd.V_elder' (by (with_reducible repeat (first | apply Kd.V_alloc | apply Kd.V_drewN | apply Kd.V_drew)); exact HO372.out) (Kd.R_base ho53) hb); have n9_ := Aside0.mk (Kd.R_lower (Kd.R_new' ho53 (Kd.R_lt (by (with_reducible repeat (first | apply Kd.R_alloc | apply Kd.R_drewN | apply Kd.R_drew)); exact HO369.out))) (below_size (by repeat (first | (with_reducible first | exact HB.out | apply below_alloc | apply pw_below_drewN | apply below_drew1) | exact HB.out)))); have n10_ := Aside0.mk (below_step (by repeat (first | (with_reducible first | exact HB.out | apply below_alloc | apply pw_below_drewN | apply below_drew1) | exact HB.out)) hb); clear HO341; clear HO345; clear HO349; clear HO353; clear HO357; clear HO361; clear HO365; clear HO369; clear HO372; clear HB; have HO341 := n0_; have HO345 := n1_; have HO349 := n2_; have HO353 := n3_; have HO357 := n4_; have HO361 := n5_; have HO365 := n6_; have HO369 := n7_; have HO372 := n8_; have HO376 := n9_; have HB := n10_; clear n0_ n1_ n2_ n3_ n4_ n5_ n6_ n7_ n8_ n9_ n10_; clear hb ho53; obtain ⟨Ao54, co54, eo54⟩ := Kd.R_slice HO376.out; subst eo54) | ((with_reducible refine gate_callee (f := 41) rfl ?_); refine goesL_ (some 111) rfl rfl Try.func41 (by kernel_rfl) rfl #[.int .u64 a0, .slice A1 l1.length c1, .slice Ao54 y374.length co54] rfl (by (try simp only [List.map_toArray, List.map_cons, List.map_nil]); first | done | rfl | (simp only [List.length_drop, List.length_take]; rfl)) ?_; (with_reducible refine (poly_Lcm.calls kj5 a0 _ _ l1 _ _ y374 t377 t380 _ ?side1 ?side2 ?side3 ?side4 A24.out).mono ?_); (case side1 => repeat (first | exact (Kd.C_below HR1.out HB.out) | (with_reducible refine Kd.C_alloc ?_ _) | (with_reducible refine Kd.C_drewN ?_ _) | (with_reducible refine Kd.C_drew ?_))); (case side2 => exact HC1.out); (case side3 => repeat (first | exact (Kd.R_reads' HO376.out).2.2 | (with_reducible refine Kd.C_alloc ?_ _) | (with_reducible refine Kd.C_drewN ?_ _) | (with_reducible refine Kd.C_drew ?_))); (case side4 => exact (Kd.R_reads' HO376.out).2.1); rintro e w55 ⟨v378, rfl, ho0, hb⟩; refine ⟨_, rfl, ?_⟩; have n0_ := Aside0.mk (Kd.V_below (by (with_reducible repeat (first | apply Kd.V_alloc | apply Kd.V_drewN | apply Kd.V_drew)); exact HO341.out) hb); have n1_ := Aside0.mk (Kd.V_below (by (with_reducible repeat (first | apply Kd.V_alloc | apply Kd.V_drewN | apply Kd.V_drew)); exact HO345.out) hb); have n2_ := Aside0.mk (Kd.V_below (by (with_reducible repeat (first | apply Kd.V_alloc | apply Kd.V_drewN | apply Kd.V_drew)); exact HO349.out) hb); have n3_ := Aside0.mk (Kd.V_below (by (with_reducible repeat (first | apply Kd.V_alloc | apply Kd.V_drewN | apply Kd.V_drew)); exact HO353.out) hb); have n4_ := Aside0.mk (Kd.V_below (by (with_reducible repeat (first | apply Kd.V_alloc | apply Kd.V_drewN | apply Kd.V_drew)); exact HO357.out) hb); have n5_ := Aside0.mk (Kd.V_below (by (with_reducible repeat (first | apply Kd.V_alloc | apply Kd.V_drewN | apply Kd.V_drew)); exact HO361.out) hb); have n6_ := Aside0.mk (Kd.V_below (by (with_reducible repeat (first | apply Kd.V_alloc | apply Kd.V_drewN | apply Kd.V_drew)); exact HO365.out) hb); have n7_ := Aside0.mk (Kd.R_below (by (with_reducible repeat (first | apply Kd.R_alloc | apply Kd.R_drewN | apply Kd.R_drew)); exact HO369.out) hb); have n8_ := Aside0.mk (Kd.V_below (by (with_reducible repeat (first | apply Kd.V_alloc | apply Kd.V_drewN | apply Kd.V_drew)); exact HO372.out) hb); have n9_ := Aside0.mk (Kd.R_below (by (with_reducible repeat (first | apply Kd.R_alloc | apply Kd.R_drewN | apply Kd.R_drew)); exact HO376.out) hb); have n10_ := Aside0.mk (Kd.V_lower (Kd.V_mono (ok' := fun k_ => some k_ ≠ (.slice Ao50 y367.length co50 : Value).ownBlock ∧ some k_ ≠ (.slice Ao54 y374.length co54 : Value).ownBlock) ho0 (fun k_ hk_ => ⟨(Kd.fresh' (Kd.R_lt (by (with_reducible repeat (first | apply Kd.R_alloc | apply Kd.R_drewN | apply Kd.R_drew)); exact HO369.out)) k_ hk_), (Kd.fresh' (Kd.R_lt (by (with_reducible repeat (first | apply Kd.R_alloc | apply Kd.R_drewN | apply Kd.R_drew)); exact HO376.out)) k_ hk_)⟩)) (below_size (by repeat (first | (with_reducible first | exact HB.out | apply below_alloc | apply pw_below_drewN | apply below_drew1) | exact HB.out)))); have n11_ := Aside0.mk (below_step (by repeat (first | (with_reducible first | exact HB.out | apply below_alloc | apply pw_below_drewN | apply below_drew1) | exact HB.out)) hb); clear HO341; clear HO345; clear HO349; clear HO353; clear HO357; clear HO361; clear HO365; clear HO369; clear HO372; clear HO376; clear HB; have HO341 := n0_; have HO345 := n1_; have HO349 := n2_; have HO353 := n3_; have HO357 := n4_; have HO361 := n5_; have HO365 := n6_; have HO369 := n7_; have HO372 := n8_; have HO376 := n9_; have HO379 := n10_; have HB := n11_; clear n0_ n1_ n2_ n3_ n4_ n5_ n6_ n7_ n8_ n9_ n10_ n11_; (try clear hb); (try clear hb2); (try clear hk); (try clear hi); (try clear ho0); obtain ⟨Ao56, co56, eo56⟩ := Kd.V_slice HO341.out; subst eo56; obtain ⟨Ao57, co57, eo57⟩ := Kd.V_slice HO345.out; subst eo57) | (go_at_call 21; (with_reducible refine (affidavitref01_Same.calls kj5 _ _ t339 _ _ t343 true _ ?side1 ?side2 ?side3 ?side4 A30.out).mono ?_); (case side1 => repeat (first | exact (Kd.V_reads' HO341.out).2.2 | (with_reducible refine Kd.C_alloc ?_ _) | (with_reducible refine Kd.C_drewN ?_ _) | (with_reducible refine Kd.C_drew ?_))); (case side2 => exact (Kd.V_reads' HO341.out).2.1); (case side3 => repeat (first | exact (Kd.V_reads' HO345.out).2.2 | (with_reducible refine Kd.C_alloc ?_ _) | (with_reducible refine Kd.C_drewN ?_ _) | (with_reducible refine Kd.C_drew ?_))); (case side4 => exact (Kd.V_reads' HO345.out).2.1); rintro e w' ⟨rfl, ⟨nd, rfl⟩⟩; obtain ⟨Ao58, co58, eo58⟩ := Kd.V_slice HO349.out; subst eo58; obtain ⟨Ao59, co59, eo59⟩ := Kd.V_slice HO353.out; subst eo59) | (go_at_call 21; (with_reducible refine (affidavitref01_Same.calls kj5 _ _ t347 _ _ t351 true _ ?side1 ?side2 ?side3 ?side4 A32.out).mono ?_); (case side1 => repeat (first | exact (Kd.V_reads' HO349.out).2.2 | (with_reducible refine Kd.C_alloc ?_ _) | (with_reducible refine Kd.C_drewN ?_ _) | (with_reducible refine Kd.C_drew ?_))); (case side2 => exact (Kd.V_reads' HO349.out).2.1); (case side3 => repeat (first | exact (Kd.V_reads' HO353.out).2.2 | (with_reducible refine Kd.C_alloc ?_ _) | (with_reducible refine Kd.C_drewN ?_ _) | (with_reducible refine Kd.C_drew ?_))); (case side4 => exact (Kd.V_reads' HO353.out).2.1); rintro e w' ⟨rfl, ⟨nd, rfl⟩⟩; obtain ⟨Ao60, co60, eo60⟩ := Kd.V_slice HO361.out; subst eo60; obtain ⟨Ao61, co61, eo61⟩ := Kd.V_slice HO357.out; subst eo61) | (go_at_call 21; (with_reducible refine (affidavitref01_Same.calls kj5 _ _ t359 _ _ t355 true _ ?side1 ?side2 ?side3 ?side4 A34.out).mono ?_); (case side1 => repeat (first | exact (Kd.V_reads' HO361.out).2.2 | (with_reducible refine Kd.C_alloc ?_ _) | (with_reducible refine Kd.C_drewN ?_ _) | (with_reducible refine Kd.C_drew ?_))); (case side2 => exact (Kd.V_reads' HO361.out).2.1); (case side3 => repeat (first | exact (Kd.V_reads' HO357.out).2.2 | (with_reducible refine Kd.C_alloc ?_ _) | (with_reducible refine Kd.C_drewN ?_ _) | (with_reducible refine Kd.C_drew ?_))); (case side4 => exact (Kd.V_reads' HO357.out).2.1); rintro e w' ⟨rfl, ⟨nd, rfl⟩⟩; obtain ⟨Ao62, co62, eo62⟩ := Kd.V_slice HO365.out; subst eo62) | (go_at_call 21; (with_reducible refine (affidavitref01_Same.calls kj5 _ _ t363 _ _ t355 true _ ?side1 ?side2 ?side3 ?side4 A36.out).mono ?_); (case side1 => repeat (first | exact (Kd.V_reads' HO365.out).2.2 | (with_reducible refine Kd.C_alloc ?_ _) | (with_reducible refine Kd.C_drewN ?_ _) | (with_reducible refine Kd.C_drew ?_))); (case side2 => exact (Kd.V_reads' HO365.out).2.1); (case side3 => repeat (first | exact (Kd.V_reads' HO357.out).2.2 | (with_reducible refine Kd.C_alloc ?_ _) | (with_reducible refine Kd.C_drewN ?_ _) | (with_reducible refine Kd.C_drew ?_))); (case side4 => exact (Kd.V_reads' HO357.out).2.1); rintro e w' ⟨rfl, ⟨nd, rfl⟩⟩) | ((with_reducible refine gate_dst (N := 154) rfl ?_); (try (refine gate_guard (by rfl) ?_; dsimp only)); refine Kd.R_lit (Kd.int .u64) _ 22 ?hg (N := 154) ?hd (xs := ([1] : List Int)) (inner := [.int .u64 1]) (ok := fun _ => True) (okp := fun _ => True) ?hr ?hp (fun _ hk => hk) trivial (Below.refl _ _) (Nat.le_refl _) (by simp) ?_; (case hd => rfl); (case hg => rfl); (case hr => first | (go_simp; done) | (go_simp; rfl)); (case hp => exact (Reps.one (show Kd.M (Kd.int .u64) _ _ _ 1 [.int .u64 1] from rfl) (Reps.none _ _))); intro v386 w63 ho64 hb hg_ hnew_; clear hg_ hnew_; (first | rw [← Ny385.out] at ho64 | (simp only [Int.reduceToNat] at ho64; rw [← Ny385.out] at ho64)); have n0_ := Aside0.mk (Kd.V_elder' (by (with_reducible repeat (first | apply Kd.V_alloc | apply Kd.V_drewN | apply Kd.V_drew)); exact HO341.out) (Kd.R_base ho64) hb); have n1_ := Aside0.mk (Kd.V_elder' (by (with_reducible repeat (first | apply Kd.V_alloc | apply Kd.V_drewN | apply Kd.V_drew)); exact HO345.out) (Kd.R_base ho64) hb); have n2_ := Aside0.mk (Kd.V_elder' (by (with_reducible repeat (first | apply Kd.V_alloc | apply Kd.V_drewN | apply Kd.V_drew)); exact HO349.out) (Kd.R_base ho64) hb); have n3_ := Aside0.mk (Kd.V_elder' (by (with_reducible repeat (first | apply Kd.V_alloc | apply Kd.V_drewN | apply Kd.V_drew)); exact HO353.out) (Kd.R_base ho64) hb); have n4_ := Aside0.mk (Kd.V_elder' (by (with_reducible repeat (first | apply Kd.V_alloc | apply Kd.V_drewN | apply Kd.V_drew)); exact HO357.out) (Kd.R_base ho64) hb); have n5_ := Aside0.mk (Kd.V_elder' (by (with_reducible repeat (first | apply Kd.V_alloc | apply Kd.V_drewN | apply Kd.V_drew)); exact HO361.out) (Kd.R_base ho64) hb); have n6_ := Aside0.mk (Kd.V_elder' (by (with_reducible repeat (first | apply Kd.V_alloc | apply Kd.V_drewN | apply Kd.V_drew)); exact HO365.out) (Kd.R_base ho64) hb); have n7_ := Aside0.mk (Kd.R_elder' (by (with_reducible repeat (first | apply Kd.R_alloc | apply Kd.R_drewN | apply Kd.R_drew)); exact HO369.out) (Kd.R_base ho64) hb); have n8_ := Aside0.mk (Kd.V_elder' (by (with_reducible repeat (first | apply Kd.V_alloc | apply Kd.V_drewN | apply Kd.V_drew)); exact HO372.out) (Kd.R_base ho64) hb); have n9_ := Aside0.mk (Kd.R_elder' (by (with_reducible repeat (first | apply Kd.R_alloc | apply Kd.R_drewN | apply Kd.R_drew)); exact HO376.out) (Kd.R_base ho64) hb); have n10_ := Aside0.mk (Kd.V_elder' (by (with_reducible repeat (first | apply Kd.V_alloc | apply Kd.V_drewN | apply Kd.V_drew)); exact HO379.out) (Kd.R_base ho64) hb); have n11_ := Aside0.mk (Kd.R_lower (Kd.R_new' (Kd.R_new' ho64 (Kd.R_lt (by (with_reducible repeat (first | apply Kd.R_alloc | apply Kd.R_drewN | apply Kd.R_drew)); exact HO369.out))) (Kd.R_lt (by (with_reducible repeat (first | apply Kd.R_alloc | apply Kd.R_drewN | apply Kd.R_drew)); exact HO376.out))) (below_size (by repeat (first | (with_reducible first | exact HB.out | apply below_alloc | apply pw_below_drewN | apply below_drew1) | exact HB.out)))); have n12_ := Aside0.mk (below_step (by repeat (first | (with_reducible first | exact HB.out | apply below_alloc | apply pw_below_drewN | apply below_drew1) | exact HB.out)) hb); clear HO341; clear HO345; clear HO349; clear HO353; clear HO357; clear HO361; clear HO365; clear HO369; clear HO372; clear HO376; clear HO379; clear HB; have HO341 := n0_; have HO345 := n1_; have HO349 := n2_; have HO353 := n3_; have HO357 := n4_; have HO361 := n5_; have HO365 := n6_; have HO369 := n7_; have HO372 := n8_; have HO376 := n9_; have HO379 := n10_; have HO387 := n11_; have HB := n12_; clear n0_ n1_ n2_ n3_ n4_ n5_ n6_ n7_ n8_ n9_ n10_ n11_ n12_; clear hb ho64; obtain ⟨Ao65, co65, eo65⟩ := Kd.V_slice HO372.out; subst eo65; obtain ⟨Ao66, co66, eo66⟩ := Kd.R_slice HO387.out; subst eo66) | (go_at_call 21; (with_reducible refine (affidavitref01_Same.calls kj5 _ _ t370 _ _ y385 true _ ?side1 ?side2 ?side3 ?side4 A38.out).mono ?_); (case side1 => repeat (first | exact (Kd.V_reads' HO372.out).2.2 | (with_reducible refine Kd.C_alloc ?_ _) | (with_reducible refine Kd.C_drewN ?_ _) | (with_reducible refine Kd.C_drew ?_))); (case side2 => exact (Kd.V_reads' HO372.out).2.1); (case side3 => repeat (first | exact (Kd.R_reads' HO387.out).2.2 | (with_reducible refine Kd.C_alloc ?_ _) | (with_reducible refine Kd.C_drewN ?_ _) | (with_reducible refine Kd.C_drew ?_))); (case side4 => exact (Kd.R_reads' HO387.out).2.1); rintro e w' ⟨rfl, ⟨nd, rfl⟩⟩; obtain ⟨Ao67, co67, eo67⟩ := Kd.V_slice HO379.out; subst eo67) | (go_at_call 21; (with_reducible refine (affidavitref01_Same.calls kj5 _ _ t377 _ _ t355 t389 _ ?side1 ?side2 ?side3 ?side4 A40.out).mono ?_); (case side1 => repeat (first | exact (Kd.V_reads' HO379.out).2.2 | (with_reducible refine Kd.C_alloc ?_ _) | (with_reducible refine Kd.C_drewN ?_ _) | (with_reducible refine Kd.C_drew ?_))); (case side2 => exact (Kd.V_reads' HO379.out).2.1); (case side3 => repeat (first | exact (Kd.V_reads' HO357.out).2.2 | (with_reducible refine Kd.C_alloc ?_ _) | (with_reducible refine Kd.C_drewN ?_ _) | (with_reducible refine Kd.C_drew ?_))); (case side4 => exact (Kd.V_reads' HO357.out).2.1); rintro e w' ⟨rfl, ⟨nd, rfl⟩⟩))
                              go_ret
                              exact ⟨by first | rfl | (simp [errW_none, errW_some] <;> rfl) | (simp [*, errW_none, errW_some] <;> rfl), by repeat (first | (with_reducible first | exact HB.out | apply below_alloc | apply pw_below_drewN | apply below_drew1) | exact HB.out)⟩
                            · replace c39 := Bool.eq_false_iff.mpr c39
                              subst c39
                              have H1 : (none) = some r := by rw [if_neg (show ¬ (false = true) by decide)] at H; exact H
                              clear H
                              have H := H1
                              clear H1
                              exact absurd H (by simp)
                          · replace c37 := Bool.eq_false_iff.mpr c37
                            subst c37
                            have H1 : (none) = some r := by rw [if_neg (show ¬ (false = true) by decide)] at H; exact H
                            clear H
                            have H := H1
                            clear H1
                            exact absurd H (by simp)
                        · replace c35 := Bool.eq_false_iff.mpr c35
                          subst c35
                          have H1 : (none) = some r := by rw [if_neg (show ¬ (false = true) by decide)] at H; exact H
                          clear H
                          have H := H1
                          clear H1
                          exact absurd H (by simp)
                      · replace c33 := Bool.eq_false_iff.mpr c33
                        subst c33
                        have H1 : (none) = some r := by rw [if_neg (show ¬ (false = true) by decide)] at H; exact H
                        clear H
                        have H := H1
                        clear H1
                        exact absurd H (by simp)
                    · replace c31 := Bool.eq_false_iff.mpr c31
                      subst c31
                      have H1 : (none) = some r := by rw [if_neg (show ¬ (false = true) by decide)] at H; exact H
                      clear H
                      have H := H1
                      clear H1
                      exact absurd H (by simp)
                  · rw [if_neg c29] at H
                    exact absurd H (by simp)
                · rw [if_neg c28] at H
                  exact absurd H (by simp)
              · rw [if_neg c27] at H
                exact absurd H (by simp)
            · rw [if_neg c26] at H
              exact absurd H (by simp)
          · rw [if_neg c25] at H
            exact absurd H (by simp)
  · replace c5 := Bool.eq_false_iff.mpr c5
    subst c5
    have H1 : (none) = some r := by rw [if_neg (show ¬ (false = true) by decide)] at H; exact H
    clear H
    have H := H1
    clear H1
    exact absurd H (by simp)

/-- THE ONE PURE STATEMENT of affidavitlaw03_PolySame: yours. -/
def affidavitlaw03_PolySame.Pure : Prop := ∀ (a0 : Int) (l1 : List Int) (l2 : List Int), (Lit.int .u64 a0).wf = true → l1.length ≤ maxLen → l1.length * 8 ≤ 140737488351232 → (∀ x ∈ l1, (Lit.int .u64 x).wf = true) → l2.length ≤ maxLen → l2.length * 8 ≤ 140737488351232 → (∀ x ∈ l2, (Lit.int .u64 x).wf = true) → ∃ k, affidavitlaw03_PolySame.f k a0 l1 l2 = some true
theorem affidavitlaw03_PolySame.walk (P : affidavitlaw03_PolySame.Pure) (a0 : Int) (a1 : Option Addr) (len1 cap1 : Nat) (z1 : List Int) (a2 : Option Addr) (len2 cap2 : Nat) (z2 : List Int) (w : World) (w0 : (Lit.int .u64 a0).wf = true) (w1 : (a1 = none ∧ len1 = 0 ∧ cap1 = 0 ∧ z1 = []) ∨ ∃ x, a1 = some x ∧ len1 ≤ cap1 ∧ cap1 ≤ maxLen ∧ z1.length = cap1 ∧ (∀ i, i < z1.length → w.cell? (x.add i) = some (.int .u64 (z1.getD i 0))) ∧ ∀ n ∈ z1, (Lit.int .u64 n).wf = true) (y1 : len1 * 8 ≤ 140737488351232) (w2 : (a2 = none ∧ len2 = 0 ∧ cap2 = 0 ∧ z2 = []) ∨ ∃ x, a2 = some x ∧ len2 ≤ cap2 ∧ cap2 ≤ maxLen ∧ z2.length = cap2 ∧ (∀ i, i < z2.length → w.cell? (x.add i) = some (.int .u64 (z2.getD i 0))) ∧ ∀ n ∈ z2, (Lit.int .u64 n).wf = true) (y2 : len2 * 8 ≤ 140737488351232) :
    Calls Try.prog 9 #[.int .u64 a0, .slice a1 len1 cap1, .slice a2 len2 cap2] w fun e w' => e = .returned (.bool true) ∧ Below w.heap.size w w' := by
  obtain ⟨l1, rfl, hr1, hm1, hw1, hc1⟩ := ReadsInt.ofRowC w1
  obtain ⟨l2, rfl, hr2, hm2, hw2, hc2⟩ := ReadsInt.ofRowC w2
  obtain ⟨k, h⟩ := P a0 l1 l2 w0 hm1 y1 hw1 hm2 y2 hw2
  refine (affidavitlaw03_PolySame.calls k a0 _ _ l1 _ _ l2 true w (Kd.C_of_reads (d := (0 : Int)) (h1 := fun _ => rfl) hr1) hc1 (Kd.C_of_reads (d := (0 : Int)) (h1 := fun _ => rfl) hr2) hc2 h).mono ?_
  rintro e w' ⟨rfl, hd⟩
  exact ⟨rfl, hd⟩

end Go.Proofs.Ytffcjgelcdilcaa.PAll

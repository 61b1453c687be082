/- Contracts of functions of the given program: printed out of the translation by a program of this session, with texts by hand for what the print does not take. -/
import Derived.Test.YtffcjgelcdilcaaPAllx0
import Derived.Test.YtffcjgelcdilcaaPAllx1
import Derived.Test.YtffcjgelcdilcaaPAllx3
import Derived.Test.YtffcjgelcdilcaaPAllx6
import Derived.Test.YtffcjgelcdilcaaPAllx8
import Derived.Test.YtffcjgelcdilcaaPAllx9
import Derived.Test.YtffcjgelcdilcaaPAllx12
namespace Go.Proofs.Ytffcjgelcdilcaa.PAll
open Go.RowKit Go.Proofs.YtffcjgelcdilcaaW.PrintWords Go.Proofs.YtffcjgelcdilcaaW.PrintLast Go.Proofs.YtffcjgelcdilcaaW.PrintMore
attribute [local go_sem] max2_int min2_int max_two min_two max_three min_three max_four min_four   -- for this text's walks alone
set_option linter.unusedVariables false
set_option linter.unusedSimpArgs false

/-! ### affidavitlaw03_PolyGreatest: function 11 -/
mutual
def affidavitlaw03_PolyGreatest.j0 : Nat → Int → List Int → List Int → List Int → Bool → Option (Bool)
  | 0, _, _, _, _, _ => none
  | k + 1, x0, x1, x2, x3, x82 => if x82 = true then (some true) else ((poly_Mul.f k x0 x1 x3).bind fun bt438 => ((poly_Mul.f k x0 x2 x3).bind fun bt442 => ((poly_Bezout.f k x0 bt438.1 bt442.1).bind fun bt446 => (if bt446.2.2.2 = 0 then (if (bt438.1.length : Int) = 0 then (affidavitlaw03_PolyGreatest.j1 k x0 x3 bt438.1 bt442.1 bt446.1 bt446.2.1 bt446.2.2.1 ((bt442.1.length : Int) == 0)) else (affidavitlaw03_PolyGreatest.j1 k x0 x3 bt438.1 bt442.1 bt446.1 bt446.2.1 bt446.2.2.1 false)) else (none)))))
def affidavitlaw03_PolyGreatest.j1 : Nat → Int → List Int → List Int → List Int → List Int → List Int → List Int → Bool → Option (Bool)
  | 0, _, _, _, _, _, _, _, _ => none
  | k + 1, x0, x3, x9, x11, x13, x14, x15, x115 => if x115 = true then (some ((x13.length : Int) == 0)) else ((poly_Div.f k x0 x9 x13).bind fun bt456 => ((poly_Div.f k x0 x11 x13).bind fun bt463 => ((poly_Div.f k x0 x13 x3).bind fun bt470 => (if bt456.2.2 = 0 then (if bt463.2.2 = 0 then (if bt470.2.2 = 0 then (if (wrap64 ((wrap64 ((bt456.2.1.length : Int) + (bt463.2.1.length : Int))) + (bt470.2.1.length : Int))) = 0 then (if 0 ≤ (wrap64 ((x13.length : Int) - 1)) then (if (wrap64 ((x13.length : Int) - 1)) < (x13.length : Int) then (affidavitlaw03_PolyGreatest.j2 k x0 x9 x11 x13 x14 x15 ((rd x13 (wrap64 ((x13.length : Int) - 1))) != 1)) else (none)) else (none)) else (none)) else (none)) else (none)) else (none)))))
def affidavitlaw03_PolyGreatest.j2 : Nat → Int → List Int → List Int → List Int → List Int → List Int → Bool → Option (Bool)
  | 0, _, _, _, _, _, _, _ => none
  | k + 1, x0, x9, x11, x13, x14, x15, x172 => if x172 = true then (none) else ((poly_Mul.f k x0 x14 x9).bind fun bt478 => ((poly_Mul.f k x0 x15 x11).bind fun bt482 => ((poly_Add.f k x0 bt478.1 bt482.1).bind fun bt486 => ((poly_Lcm.f k x0 x9 x11).bind fun bt490 => ((poly_Mul.f k x0 bt490.1 x13).bind fun bt494 => ((poly_Mul.f k x0 x9 x11).bind fun bt498 => ((poly_Monic.f k x0 bt498.1).bind fun bt502 => ((affidavitref01_Same.f k bt486.1 x13).bind fun t506 => (if t506 = true then (if bt490.2 = 0 then (if bt498.2 = 0 then (if bt502.2 = 0 then ((affidavitref01_Same.f k bt494.1 bt502.1).bind fun t507 => (some t507)) else (none)) else (none)) else (none)) else (none))))))))))
end
def affidavitlaw03_PolyGreatest.f (k : Nat) (a0 : Int) (l1 : List Int) (l2 : List Int) (l3 : List Int) : Option (Bool) := (affidavitlaw03_awake.f k).bind fun t433 => (if t433 = true then (if (l1.length : Int) > 40 then (affidavitlaw03_PolyGreatest.j0 k a0 l1 l2 l3 true) else (if (l2.length : Int) > 40 then (affidavitlaw03_PolyGreatest.j0 k a0 l1 l2 l3 true) else (if (l3.length : Int) > 40 then (affidavitlaw03_PolyGreatest.j0 k a0 l1 l2 l3 true) else ((affidavitlaw03_prime.f k a0).bind fun t434 => (if t434 = true then ((poly_Right.f k a0 l1).bind fun t435 => (if t435 = true then ((poly_Right.f k a0 l2).bind fun t436 => (if t436 = true then ((poly_Right.f k a0 l3).bind fun t437 => (if t437 = true then (affidavitlaw03_PolyGreatest.j0 k a0 l1 l2 l3 ((l3.length : Int) == 0)) else (affidavitlaw03_PolyGreatest.j0 k a0 l1 l2 l3 true))) else (affidavitlaw03_PolyGreatest.j0 k a0 l1 l2 l3 true))) else (affidavitlaw03_PolyGreatest.j0 k a0 l1 l2 l3 true))) else (affidavitlaw03_PolyGreatest.j0 k a0 l1 l2 l3 true)))))) else (none))
theorem affidavitlaw03_PolyGreatest.mono_l : ∀ k, (∀ y0 y1 y2 y3 y4, LeO (affidavitlaw03_PolyGreatest.j0 k y0 y1 y2 y3 y4) (affidavitlaw03_PolyGreatest.j0 (k + 1) y0 y1 y2 y3 y4)) ∧ (∀ y0 y1 y2 y3 y4 y5 y6 y7, LeO (affidavitlaw03_PolyGreatest.j1 k y0 y1 y2 y3 y4 y5 y6 y7) (affidavitlaw03_PolyGreatest.j1 (k + 1) y0 y1 y2 y3 y4 y5 y6 y7)) ∧ (∀ y0 y1 y2 y3 y4 y5 y6, LeO (affidavitlaw03_PolyGreatest.j2 k y0 y1 y2 y3 y4 y5 y6) (affidavitlaw03_PolyGreatest.j2 (k + 1) y0 y1 y2 y3 y4 y5 y6))
  | 0 => ⟨fun _ _ _ _ _ r h => by simp [affidavitlaw03_PolyGreatest.j0] at h, fun _ _ _ _ _ _ _ _ r h => by simp [affidavitlaw03_PolyGreatest.j1] at h, fun _ _ _ _ _ _ _ r h => by simp [affidavitlaw03_PolyGreatest.j2] at h⟩
  | k + 1 => by
    obtain ⟨ih0, ih1, ih2⟩ := affidavitlaw03_PolyGreatest.mono_l k
    refine ⟨?_, ?_, ?_⟩
    · intro y0 y1 y2 y3 y4
      unfold affidavitlaw03_PolyGreatest.j0
      repeat' first
      | (with_reducible exact ih0 _ _ _ _ _)
      | (with_reducible exact ih1 _ _ _ _ _ _ _ _)
      | (with_reducible exact ih2 _ _ _ _ _ _ _)
      | (with_reducible exact affidavitlaw03_awake.mono _)
      | (with_reducible exact affidavitlaw03_prime.mono _ _)
      | (with_reducible exact affidavitref01_Same.mono _ _ _)
      | (with_reducible exact poly_Add.mono _ _ _ _)
      | (with_reducible exact poly_Bezout.mono _ _ _ _)
      | (with_reducible exact poly_Div.mono _ _ _ _)
      | (with_reducible exact poly_Lcm.mono _ _ _ _)
      | (with_reducible exact poly_Monic.mono _ _ _)
      | (with_reducible exact poly_Mul.mono _ _ _ _)
      | (with_reducible exact poly_Right.mono _ _ _)
      | (with_reducible exact LeO.refl _)
      | (with_reducible exact LeO.none _)
      | (with_reducible refine LeO.ite ?_ ?_)
      | (with_reducible refine LeO.bind ?_ (fun _ => ?_))
      | exact ih0 _ _ _ _ _
      | exact ih1 _ _ _ _ _ _ _ _
      | exact ih2 _ _ _ _ _ _ _
      | exact affidavitlaw03_awake.mono _
      | exact affidavitlaw03_prime.mono _ _
      | exact affidavitref01_Same.mono _ _ _
      | exact poly_Add.mono _ _ _ _
      | exact poly_Bezout.mono _ _ _ _
      | exact poly_Div.mono _ _ _ _
      | exact poly_Lcm.mono _ _ _ _
      | exact poly_Monic.mono _ _ _
      | exact poly_Mul.mono _ _ _ _
      | exact poly_Right.mono _ _ _
      | exact LeO.none _
      | refine LeO.ite ?_ ?_
      | refine LeO.bind ?_ (fun _ => ?_)
    · intro y0 y1 y2 y3 y4 y5 y6 y7
      unfold affidavitlaw03_PolyGreatest.j1
      repeat' first
      | (with_reducible exact ih0 _ _ _ _ _)
      | (with_reducible exact ih1 _ _ _ _ _ _ _ _)
      | (with_reducible exact ih2 _ _ _ _ _ _ _)
      | (with_reducible exact affidavitlaw03_awake.mono _)
      | (with_reducible exact affidavitlaw03_prime.mono _ _)
      | (with_reducible exact affidavitref01_Same.mono _ _ _)
      | (with_reducible exact poly_Add.mono _ _ _ _)
      | (with_reducible exact poly_Bezout.mono _ _ _ _)
      | (with_reducible exact poly_Div.mono _ _ _ _)
      | (with_reducible exact poly_Lcm.mono _ _ _ _)
      | (with_reducible exact poly_Monic.mono _ _ _)
      | (with_reducible exact poly_Mul.mono _ _ _ _)
      | (with_reducible exact poly_Right.mono _ _ _)
      | (with_reducible exact LeO.refl _)
      | (with_reducible exact LeO.none _)
      | (with_reducible refine LeO.ite ?_ ?_)
      | (with_reducible refine LeO.bind ?_ (fun _ => ?_))
      | exact ih0 _ _ _ _ _
      | exact ih1 _ _ _ _ _ _ _ _
      | exact ih2 _ _ _ _ _ _ _
      | exact affidavitlaw03_awake.mono _
      | exact affidavitlaw03_prime.mono _ _
      | exact affidavitref01_Same.mono _ _ _
      | exact poly_Add.mono _ _ _ _
      | exact poly_Bezout.mono _ _ _ _
      | exact poly_Div.mono _ _ _ _
      | exact poly_Lcm.mono _ _ _ _
      | exact poly_Monic.mono _ _ _
      | exact poly_Mul.mono _ _ _ _
      | exact poly_Right.mono _ _ _
      | exact LeO.none _
      | refine LeO.ite ?_ ?_
      | refine LeO.bind ?_ (fun _ => ?_)
    · intro y0 y1 y2 y3 y4 y5 y6
      unfold affidavitlaw03_PolyGreatest.j2
      repeat' first
      | (with_reducible exact ih0 _ _ _ _ _)
      | (with_reducible exact ih1 _ _ _ _ _ _ _ _)
      | (with_reducible exact ih2 _ _ _ _ _ _ _)
      | (with_reducible exact affidavitlaw03_awake.mono _)
      | (with_reducible exact affidavitlaw03_prime.mono _ _)
      | (with_reducible exact affidavitref01_Same.mono _ _ _)
      | (with_reducible exact poly_Add.mono _ _ _ _)
      | (with_reducible exact poly_Bezout.mono _ _ _ _)
      | (with_reducible exact poly_Div.mono _ _ _ _)
      | (with_reducible exact poly_Lcm.mono _ _ _ _)
      | (with_reducible exact poly_Monic.mono _ _ _)
      | (with_reducible exact poly_Mul.mono _ _ _ _)
      | (with_reducible exact poly_Right.mono _ _ _)
      | (with_reducible exact LeO.refl _)
      | (with_reducible exact LeO.none _)
      | (with_reducible refine LeO.ite ?_ ?_)
      | (with_reducible refine LeO.bind ?_ (fun _ => ?_))
      | exact ih0 _ _ _ _ _
      | exact ih1 _ _ _ _ _ _ _ _
      | exact ih2 _ _ _ _ _ _ _
      | exact affidavitlaw03_awake.mono _
      | exact affidavitlaw03_prime.mono _ _
      | exact affidavitref01_Same.mono _ _ _
      | exact poly_Add.mono _ _ _ _
      | exact poly_Bezout.mono _ _ _ _
      | exact poly_Div.mono _ _ _ _
      | exact poly_Lcm.mono _ _ _ _
      | exact poly_Monic.mono _ _ _
      | exact poly_Mul.mono _ _ _ _
      | exact poly_Right.mono _ _ _
      | exact LeO.none _
      | refine LeO.ite ?_ ?_
      | refine LeO.bind ?_ (fun _ => ?_)
theorem affidavitlaw03_PolyGreatest.mono : ∀ a0 a1 a2 a3 k, LeO (affidavitlaw03_PolyGreatest.f k a0 a1 a2 a3) (affidavitlaw03_PolyGreatest.f (k + 1) a0 a1 a2 a3) := by
  intro a0 a1 a2 a3 k
  obtain ⟨ih0, ih1, ih2⟩ := affidavitlaw03_PolyGreatest.mono_l k
  unfold affidavitlaw03_PolyGreatest.f
  repeat' first
      | (with_reducible exact ih0 _ _ _ _ _)
      | (with_reducible exact ih1 _ _ _ _ _ _ _ _)
      | (with_reducible exact ih2 _ _ _ _ _ _ _)
      | (with_reducible exact affidavitlaw03_awake.mono _)
      | (with_reducible exact affidavitlaw03_prime.mono _ _)
      | (with_reducible exact affidavitref01_Same.mono _ _ _)
      | (with_reducible exact poly_Add.mono _ _ _ _)
      | (with_reducible exact poly_Bezout.mono _ _ _ _)
      | (with_reducible exact poly_Div.mono _ _ _ _)
      | (with_reducible exact poly_Lcm.mono _ _ _ _)
      | (with_reducible exact poly_Monic.mono _ _ _)
      | (with_reducible exact poly_Mul.mono _ _ _ _)
      | (with_reducible exact poly_Right.mono _ _ _)
      | (with_reducible exact LeO.refl _)
      | (with_reducible exact LeO.none _)
      | (with_reducible refine LeO.ite ?_ ?_)
      | (with_reducible refine LeO.bind ?_ (fun _ => ?_))
      | exact ih0 _ _ _ _ _
      | exact ih1 _ _ _ _ _ _ _ _
      | exact ih2 _ _ _ _ _ _ _
      | exact affidavitlaw03_awake.mono _
      | exact affidavitlaw03_prime.mono _ _
      | exact affidavitref01_Same.mono _ _ _
      | exact poly_Add.mono _ _ _ _
      | exact poly_Bezout.mono _ _ _ _
      | exact poly_Div.mono _ _ _ _
      | exact poly_Lcm.mono _ _ _ _
      | exact poly_Monic.mono _ _ _
      | exact poly_Mul.mono _ _ _ _
      | exact poly_Right.mono _ _ _
      | exact LeO.none _
      | refine LeO.ite ?_ ?_
      | refine LeO.bind ?_ (fun _ => ?_)
set_option maxHeartbeats 8000000 in
set_option maxRecDepth 100000 in
theorem affidavitlaw03_PolyGreatest.calls (k : Nat) (a0 : Int) (A1 : Option Addr) (c1 : Nat) (l1 : List Int) (A2 : Option Addr) (c2 : Nat) (l2 : List Int) (A3 : Option Addr) (c3 : Nat) (l3 : List Int) (r : Bool) (w : World) (hr1 : Kd.C (Kd.int .u64) w A1 l1.length l1) (hc1 : l1.length ≤ c1) (hr2 : Kd.C (Kd.int .u64) w A2 l2.length l2) (hc2 : l2.length ≤ c2) (hr3 : Kd.C (Kd.int .u64) w A3 l3.length l3) (hc3 : l3.length ≤ c3) (h : affidavitlaw03_PolyGreatest.f k a0 l1 l2 l3 = some r) :
    Calls Try.prog 11 #[.int .u64 a0, .slice A1 l1.length c1, .slice A2 l2.length c2, .slice A3 l3.length c3] w fun e w' => e = .returned (.bool r) ∧ Below w.heap.size w w' := by
  have HR1 := Aside0.mk hr1
  have HC1 := Aside0.mk hc1
  clear hr1 hc1
  have HR2 := Aside0.mk hr2
  have HC2 := Aside0.mk hc2
  clear hr2 hc2
  have HR3 := Aside0.mk hr3
  have HC3 := Aside0.mk hc3
  clear hr3 hc3
  have HB := Aside0.mk (Below.refl w.heap.size w)
  have H : ((affidavitlaw03_awake.f k).bind fun t433 => (if t433 = true then (if (l1.length : Int) > 40 then (affidavitlaw03_PolyGreatest.j0 k a0 l1 l2 l3 true) else (if (l2.length : Int) > 40 then (affidavitlaw03_PolyGreatest.j0 k a0 l1 l2 l3 true) else (if (l3.length : Int) > 40 then (affidavitlaw03_PolyGreatest.j0 k a0 l1 l2 l3 true) else ((affidavitlaw03_prime.f k a0).bind fun t434 => (if t434 = true then ((poly_Right.f k a0 l1).bind fun t435 => (if t435 = true then ((poly_Right.f k a0 l2).bind fun t436 => (if t436 = true then ((poly_Right.f k a0 l3).bind fun t437 => (if t437 = true then (affidavitlaw03_PolyGreatest.j0 k a0 l1 l2 l3 ((l3.length : Int) == 0)) else (affidavitlaw03_PolyGreatest.j0 k a0 l1 l2 l3 true))) else (affidavitlaw03_PolyGreatest.j0 k a0 l1 l2 l3 true))) else (affidavitlaw03_PolyGreatest.j0 k a0 l1 l2 l3 true))) else (affidavitlaw03_PolyGreatest.j0 k a0 l1 l2 l3 true)))))) else (none))) = some r := h
  clear h
  replace H := Option.bind_eq_some_iff.mp H
  obtain ⟨t433, A50, H⟩ := H
  replace H : (if t433 = true then (if (l1.length : Int) > 40 then (affidavitlaw03_PolyGreatest.j0 k a0 l1 l2 l3 true) else (if (l2.length : Int) > 40 then (affidavitlaw03_PolyGreatest.j0 k a0 l1 l2 l3 true) else (if (l3.length : Int) > 40 then (affidavitlaw03_PolyGreatest.j0 k a0 l1 l2 l3 true) else ((affidavitlaw03_prime.f k a0).bind fun t434 => (if t434 = true then ((poly_Right.f k a0 l1).bind fun t435 => (if t435 = true then ((poly_Right.f k a0 l2).bind fun t436 => (if t436 = true then ((poly_Right.f k a0 l3).bind fun t437 => (if t437 = true then (affidavitlaw03_PolyGreatest.j0 k a0 l1 l2 l3 ((l3.length : Int) == 0)) else (affidavitlaw03_PolyGreatest.j0 k a0 l1 l2 l3 true))) else (affidavitlaw03_PolyGreatest.j0 k a0 l1 l2 l3 true))) else (affidavitlaw03_PolyGreatest.j0 k a0 l1 l2 l3 true))) else (affidavitlaw03_PolyGreatest.j0 k a0 l1 l2 l3 true)))))) else (none)) = some r := H
  have A5 := Aside0.mk A50
  clear A50
  by_cases c6 : t433 = true
  · subst c6
    have H1 : (if (l1.length : Int) > 40 then (affidavitlaw03_PolyGreatest.j0 k a0 l1 l2 l3 true) else (if (l2.length : Int) > 40 then (affidavitlaw03_PolyGreatest.j0 k a0 l1 l2 l3 true) else (if (l3.length : Int) > 40 then (affidavitlaw03_PolyGreatest.j0 k a0 l1 l2 l3 true) else ((affidavitlaw03_prime.f k a0).bind fun t434 => (if t434 = true then ((poly_Right.f k a0 l1).bind fun t435 => (if t435 = true then ((poly_Right.f k a0 l2).bind fun t436 => (if t436 = true then ((poly_Right.f k a0 l3).bind fun t437 => (if t437 = true then (affidavitlaw03_PolyGreatest.j0 k a0 l1 l2 l3 ((l3.length : Int) == 0)) else (affidavitlaw03_PolyGreatest.j0 k a0 l1 l2 l3 true))) else (affidavitlaw03_PolyGreatest.j0 k a0 l1 l2 l3 true))) else (affidavitlaw03_PolyGreatest.j0 k a0 l1 l2 l3 true))) else (affidavitlaw03_PolyGreatest.j0 k a0 l1 l2 l3 true)))))) = some r := by rw [if_pos rfl] at H; exact H
    clear H
    have H := H1
    clear H1
    have HC7 := Aside0.mk H
    clear H
    go_enter Try.func11, Try.ntmps11
    go_upto_region 3 with (first | ((with_reducible refine gate_callee (f := 33) rfl ?_); refine goesL_ (some 40) rfl rfl Try.func33 (by kernel_rfl) rfl #[] rfl (by (try simp only [List.map_toArray, List.map_cons, List.map_nil]); first | done | rfl | (simp only [List.length_drop, List.length_take]; rfl)) ?_; (with_reducible refine (affidavitlaw03_awake.calls k  true _ A5.out).mono ?_); rintro e w8 ⟨rfl, hb⟩; refine ⟨_, rfl, ?_⟩; have n0_ := Aside0.mk (below_step (by repeat (first | (with_reducible first | exact HB.out | apply below_alloc | apply pw_below_drewN | apply below_drew1) | exact HB.out)) hb); clear HB; have HB := n0_; clear n0_; (try clear hb); (try clear hb2); (try clear hk); (try clear hi)))
    (try simp only [Act.put, List.setIfInBounds_toArray, List.set_cons_zero, List.set_cons_succ])
    go_cut [82] (fun v82 wc => ∃ (kq : Nat) (x82_6 : Bool), v82 = .bool x82_6 ∧ Aside0 (affidavitlaw03_PolyGreatest.j0 kq a0 l1 l2 l3 x82_6 = some r) ∧ Aside0 (kq ≤ k) ∧ Aside0 (Below w.heap.size w wc))
    case first =>
      have H := HC7.out
      clear HC7
      by_cases c9 : (l1.length : Int) > 40
      · rw [if_pos c9] at H
        have c9b0 : decide (40 < (l1.length : Int)) = true := decide_eq_true c9
        have c9b1 : decide (40 < l1.length) = true := decide_eq_true (by omega)
        clear c9
        (first | rw [c9b0] | (simp only [i64_w, i32_w]; rw [c9b0]) | skip)
        have H' := Aside0.mk H
        clear H
        go_wp2
        go_meet
        case rel => exact ⟨_, (true), (by first | rfl | (simp; done) | (simp [*]; done)), H', ⟨by first | omega | exact Nat.le_refl _⟩, ⟨by repeat (first | (with_reducible first | exact HB.out | apply below_alloc | apply pw_below_drewN | apply below_drew1) | exact HB.out)⟩⟩
      · rw [if_neg c9] at H
        have c9b0 : decide (40 < (l1.length : Int)) = false := decide_eq_false c9
        have c9b1 : decide (40 < l1.length) = false := decide_eq_false (by omega)
        clear c9
        (first | rw [c9b0] | (simp only [i64_w, i32_w]; rw [c9b0]) | skip)
        by_cases c10 : (l2.length : Int) > 40
        · rw [if_pos c10] at H
          have c10b0 : decide (40 < (l2.length : Int)) = true := decide_eq_true c10
          have c10b1 : decide (40 < l2.length) = true := decide_eq_true (by omega)
          clear c10
          have H' := Aside0.mk H
          clear H
          go_wp2
          go_meet
          case rel => exact ⟨_, (true), (by first | rfl | (simp; done) | (simp [*]; done)), H', ⟨by first | omega | exact Nat.le_refl _⟩, ⟨by repeat (first | (with_reducible first | exact HB.out | apply below_alloc | apply pw_below_drewN | apply below_drew1) | exact HB.out)⟩⟩
        · rw [if_neg c10] at H
          have c10b0 : decide (40 < (l2.length : Int)) = false := decide_eq_false c10
          have c10b1 : decide (40 < l2.length) = false := decide_eq_false (by omega)
          clear c10
          by_cases c11 : (l3.length : Int) > 40
          · rw [if_pos c11] at H
            have c11b0 : decide (40 < (l3.length : Int)) = true := decide_eq_true c11
            have c11b1 : decide (40 < l3.length) = true := decide_eq_true (by omega)
            clear c11
            have H' := Aside0.mk H
            clear H
            go_wp2
            go_meet
            case rel => exact ⟨_, (true), (by first | rfl | (simp; done) | (simp [*]; done)), H', ⟨by first | omega | exact Nat.le_refl _⟩, ⟨by repeat (first | (with_reducible first | exact HB.out | apply below_alloc | apply pw_below_drewN | apply below_drew1) | exact HB.out)⟩⟩
          · rw [if_neg c11] at H
            have c11b0 : decide (40 < (l3.length : Int)) = false := decide_eq_false c11
            have c11b1 : decide (40 < l3.length) = false := decide_eq_false (by omega)
            clear c11
            replace H := Option.bind_eq_some_iff.mp H
            obtain ⟨t434, A120, H⟩ := H
            replace H : (if t434 = true then ((poly_Right.f k a0 l1).bind fun t435 => (if t435 = true then ((poly_Right.f k a0 l2).bind fun t436 => (if t436 = true then ((poly_Right.f k a0 l3).bind fun t437 => (if t437 = true then (affidavitlaw03_PolyGreatest.j0 k a0 l1 l2 l3 ((l3.length : Int) == 0)) else (affidavitlaw03_PolyGreatest.j0 k a0 l1 l2 l3 true))) else (affidavitlaw03_PolyGreatest.j0 k a0 l1 l2 l3 true))) else (affidavitlaw03_PolyGreatest.j0 k a0 l1 l2 l3 true))) else (affidavitlaw03_PolyGreatest.j0 k a0 l1 l2 l3 true)) = some r := H
            have A12 := Aside0.mk A120
            clear A120
            by_cases c13 : t434 = true
            · subst c13
              have H1 : ((poly_Right.f k a0 l1).bind fun t435 => (if t435 = true then ((poly_Right.f k a0 l2).bind fun t436 => (if t436 = true then ((poly_Right.f k a0 l3).bind fun t437 => (if t437 = true then (affidavitlaw03_PolyGreatest.j0 k a0 l1 l2 l3 ((l3.length : Int) == 0)) else (affidavitlaw03_PolyGreatest.j0 k a0 l1 l2 l3 true))) else (affidavitlaw03_PolyGreatest.j0 k a0 l1 l2 l3 true))) else (affidavitlaw03_PolyGreatest.j0 k a0 l1 l2 l3 true))) = some r := by rw [if_pos rfl] at H; exact H
              clear H
              have H := H1
              clear H1
              replace H := Option.bind_eq_some_iff.mp H
              obtain ⟨t435, A140, H⟩ := H
              replace H : (if t435 = true then ((poly_Right.f k a0 l2).bind fun t436 => (if t436 = true then ((poly_Right.f k a0 l3).bind fun t437 => (if t437 = true then (affidavitlaw03_PolyGreatest.j0 k a0 l1 l2 l3 ((l3.length : Int) == 0)) else (affidavitlaw03_PolyGreatest.j0 k a0 l1 l2 l3 true))) else (affidavitlaw03_PolyGreatest.j0 k a0 l1 l2 l3 true))) else (affidavitlaw03_PolyGreatest.j0 k a0 l1 l2 l3 true)) = some r := H
              have A14 := Aside0.mk A140
              clear A140
              by_cases c15 : t435 = true
              · subst c15
                have H1 : ((poly_Right.f k a0 l2).bind fun t436 => (if t436 = true then ((poly_Right.f k a0 l3).bind fun t437 => (if t437 = true then (affidavitlaw03_PolyGreatest.j0 k a0 l1 l2 l3 ((l3.length : Int) == 0)) else (affidavitlaw03_PolyGreatest.j0 k a0 l1 l2 l3 true))) else (affidavitlaw03_PolyGreatest.j0 k a0 l1 l2 l3 true))) = some r := by rw [if_pos rfl] at H; exact H
                clear H
                have H := H1
                clear H1
                replace H := Option.bind_eq_some_iff.mp H
                obtain ⟨t436, A160, H⟩ := H
                replace H : (if t436 = true then ((poly_Right.f k a0 l3).bind fun t437 => (if t437 = true then (affidavitlaw03_PolyGreatest.j0 k a0 l1 l2 l3 ((l3.length : Int) == 0)) else (affidavitlaw03_PolyGreatest.j0 k a0 l1 l2 l3 true))) else (affidavitlaw03_PolyGreatest.j0 k a0 l1 l2 l3 true)) = some r := H
                have A16 := Aside0.mk A160
                clear A160
                by_cases c17 : t436 = true
                · subst c17
                  have H1 : ((poly_Right.f k a0 l3).bind fun t437 => (if t437 = true then (affidavitlaw03_PolyGreatest.j0 k a0 l1 l2 l3 ((l3.length : Int) == 0)) else (affidavitlaw03_PolyGreatest.j0 k a0 l1 l2 l3 true))) = some r := by rw [if_pos rfl] at H; exact H
                  clear H
                  have H := H1
                  clear H1
                  replace H := Option.bind_eq_some_iff.mp H
                  obtain ⟨t437, A180, H⟩ := H
                  replace H : (if t437 = true then (affidavitlaw03_PolyGreatest.j0 k a0 l1 l2 l3 ((l3.length : Int) == 0)) else (affidavitlaw03_PolyGreatest.j0 k a0 l1 l2 l3 true)) = some r := H
                  have A18 := Aside0.mk A180
                  clear A180
                  by_cases c19 : t437 = true
                  · subst c19
                    have H1 : (affidavitlaw03_PolyGreatest.j0 k a0 l1 l2 l3 ((l3.length : Int) == 0)) = some r := by rw [if_pos rfl] at H; exact H
                    clear H
                    have H := H1
                    clear H1
                    have H' := Aside0.mk H
                    clear H
                    go_wp2_with (first | (go_at_call 34; (with_reducible refine (affidavitlaw03_prime.calls k a0 true _ A12.out).mono ?_); rintro e w' ⟨rfl, ⟨nd, rfl⟩⟩) | (go_at_call 39; (with_reducible refine (poly_Right.calls k a0 _ _ l1 true _ ?side1 ?side2 A14.out).mono ?_); (case side1 => repeat (first | exact (Kd.C_below HR1.out (by repeat (first | (with_reducible first | exact HB.out | apply below_alloc | apply pw_below_drewN | apply below_drew1) | exact HB.out))) | (with_reducible refine Kd.C_alloc ?_ _) | (with_reducible refine Kd.C_drewN ?_ _) | (with_reducible refine Kd.C_drew ?_))); (case side2 => exact HC1.out); rintro e w' ⟨rfl, ⟨nd, rfl⟩⟩) | (go_at_call 39; (with_reducible refine (poly_Right.calls k a0 _ _ l2 true _ ?side1 ?side2 A16.out).mono ?_); (case side1 => repeat (first | exact (Kd.C_below HR2.out (by repeat (first | (with_reducible first | exact HB.out | apply below_alloc | apply pw_below_drewN | apply below_drew1) | exact HB.out))) | (with_reducible refine Kd.C_alloc ?_ _) | (with_reducible refine Kd.C_drewN ?_ _) | (with_reducible refine Kd.C_drew ?_))); (case side2 => exact HC2.out); rintro e w' ⟨rfl, ⟨nd, rfl⟩⟩) | (go_at_call 39; (with_reducible refine (poly_Right.calls k a0 _ _ l3 true _ ?side1 ?side2 A18.out).mono ?_); (case side1 => repeat (first | exact (Kd.C_below HR3.out (by repeat (first | (with_reducible first | exact HB.out | apply below_alloc | apply pw_below_drewN | apply below_drew1) | exact HB.out))) | (with_reducible refine Kd.C_alloc ?_ _) | (with_reducible refine Kd.C_drewN ?_ _) | (with_reducible refine Kd.C_drew ?_))); (case side2 => exact HC3.out); rintro e w' ⟨rfl, ⟨nd, rfl⟩⟩))
                    go_meet
                    case rel => exact ⟨_, (((l3.length : Int) == 0)), (by first | rfl | (simp; done) | (simp [*]; done)), H', ⟨by first | omega | exact Nat.le_refl _⟩, ⟨by repeat (first | (with_reducible first | exact HB.out | apply below_alloc | apply pw_below_drewN | apply below_drew1) | exact HB.out)⟩⟩
                  · replace c19 := Bool.eq_false_iff.mpr c19
                    subst c19
                    have H1 : (affidavitlaw03_PolyGreatest.j0 k a0 l1 l2 l3 true) = some r := by rw [if_neg (show ¬ (false = true) by decide)] at H; exact H
                    clear H
                    have H := H1
                    clear H1
                    have H' := Aside0.mk H
                    clear H
                    go_wp2_with (first | (go_at_call 34; (with_reducible refine (affidavitlaw03_prime.calls k a0 true _ A12.out).mono ?_); rintro e w' ⟨rfl, ⟨nd, rfl⟩⟩) | (go_at_call 39; (with_reducible refine (poly_Right.calls k a0 _ _ l1 true _ ?side1 ?side2 A14.out).mono ?_); (case side1 => repeat (first | exact (Kd.C_below HR1.out (by repeat (first | (with_reducible first | exact HB.out | apply below_alloc | apply pw_below_drewN | apply below_drew1) | exact HB.out))) | (with_reducible refine Kd.C_alloc ?_ _) | (with_reducible refine Kd.C_drewN ?_ _) | (with_reducible refine Kd.C_drew ?_))); (case side2 => exact HC1.out); rintro e w' ⟨rfl, ⟨nd, rfl⟩⟩) | (go_at_call 39; (with_reducible refine (poly_Right.calls k a0 _ _ l2 true _ ?side1 ?side2 A16.out).mono ?_); (case side1 => repeat (first | exact (Kd.C_below HR2.out (by repeat (first | (with_reducible first | exact HB.out | apply below_alloc | apply pw_below_drewN | apply below_drew1) | exact HB.out))) | (with_reducible refine Kd.C_alloc ?_ _) | (with_reducible refine Kd.C_drewN ?_ _) | (with_reducible refine Kd.C_drew ?_))); (case side2 => exact HC2.out); rintro e w' ⟨rfl, ⟨nd, rfl⟩⟩) | (go_at_call 39; (with_reducible refine (poly_Right.calls k a0 _ _ l3 false _ ?side1 ?side2 A18.out).mono ?_); (case side1 => repeat (first | exact (Kd.C_below HR3.out (by repeat (first | (with_reducible first | exact HB.out | apply below_alloc | apply pw_below_drewN | apply below_drew1) | exact HB.out))) | (with_reducible refine Kd.C_alloc ?_ _) | (with_reducible refine Kd.C_drewN ?_ _) | (with_reducible refine Kd.C_drew ?_))); (case side2 => exact HC3.out); rintro e w' ⟨rfl, ⟨nd, rfl⟩⟩))
                    go_meet
                    case rel => exact ⟨_, (true), (by first | rfl | (simp; done) | (simp [*]; done)), H', ⟨by first | omega | exact Nat.le_refl _⟩, ⟨by repeat (first | (with_reducible first | exact HB.out | apply below_alloc | apply pw_below_drewN | apply below_drew1) | exact HB.out)⟩⟩
                · replace c17 := Bool.eq_false_iff.mpr c17
                  subst c17
                  have H1 : (affidavitlaw03_PolyGreatest.j0 k a0 l1 l2 l3 true) = some r := by rw [if_neg (show ¬ (false = true) by decide)] at H; exact H
                  clear H
                  have H := H1
                  clear H1
                  have H' := Aside0.mk H
                  clear H
                  go_wp2_with (first | (go_at_call 34; (with_reducible refine (affidavitlaw03_prime.calls k a0 true _ A12.out).mono ?_); rintro e w' ⟨rfl, ⟨nd, rfl⟩⟩) | (go_at_call 39; (with_reducible refine (poly_Right.calls k a0 _ _ l1 true _ ?side1 ?side2 A14.out).mono ?_); (case side1 => repeat (first | exact (Kd.C_below HR1.out (by repeat (first | (with_reducible first | exact HB.out | apply below_alloc | apply pw_below_drewN | apply below_drew1) | exact HB.out))) | (with_reducible refine Kd.C_alloc ?_ _) | (with_reducible refine Kd.C_drewN ?_ _) | (with_reducible refine Kd.C_drew ?_))); (case side2 => exact HC1.out); rintro e w' ⟨rfl, ⟨nd, rfl⟩⟩) | (go_at_call 39; (with_reducible refine (poly_Right.calls k a0 _ _ l2 false _ ?side1 ?side2 A16.out).mono ?_); (case side1 => repeat (first | exact (Kd.C_below HR2.out (by repeat (first | (with_reducible first | exact HB.out | apply below_alloc | apply pw_below_drewN | apply below_drew1) | exact HB.out))) | (with_reducible refine Kd.C_alloc ?_ _) | (with_reducible refine Kd.C_drewN ?_ _) | (with_reducible refine Kd.C_drew ?_))); (case side2 => exact HC2.out); rintro e w' ⟨rfl, ⟨nd, rfl⟩⟩))
                  go_meet
                  case rel => exact ⟨_, (true), (by first | rfl | (simp; done) | (simp [*]; done)), H', ⟨by first | omega | exact Nat.le_refl _⟩, ⟨by repeat (first | (with_reducible first | exact HB.out | apply below_alloc | apply pw_below_drewN | apply below_drew1) | exact HB.out)⟩⟩
              · replace c15 := Bool.eq_false_iff.mpr c15
                subst c15
                have H1 : (affidavitlaw03_PolyGreatest.j0 k a0 l1 l2 l3 true) = some r := by rw [if_neg (show ¬ (false = true) by decide)] at H; exact H
                clear H
                have H := H1
                clear H1
                have H' := Aside0.mk H
                clear H
                go_wp2_with (first | (go_at_call 34; (with_reducible refine (affidavitlaw03_prime.calls k a0 true _ A12.out).mono ?_); rintro e w' ⟨rfl, ⟨nd, rfl⟩⟩) | (go_at_call 39; (with_reducible refine (poly_Right.calls k a0 _ _ l1 false _ ?side1 ?side2 A14.out).mono ?_); (case side1 => repeat (first | exact (Kd.C_below HR1.out (by repeat (first | (with_reducible first | exact HB.out | apply below_alloc | apply pw_below_drewN | apply below_drew1) | exact HB.out))) | (with_reducible refine Kd.C_alloc ?_ _) | (with_reducible refine Kd.C_drewN ?_ _) | (with_reducible refine Kd.C_drew ?_))); (case side2 => exact HC1.out); rintro e w' ⟨rfl, ⟨nd, rfl⟩⟩))
                go_meet
                case rel => exact ⟨_, (true), (by first | rfl | (simp; done) | (simp [*]; done)), H', ⟨by first | omega | exact Nat.le_refl _⟩, ⟨by repeat (first | (with_reducible first | exact HB.out | apply below_alloc | apply pw_below_drewN | apply below_drew1) | exact HB.out)⟩⟩
            · replace c13 := Bool.eq_false_iff.mpr c13
              subst c13
              have H1 : (affidavitlaw03_PolyGreatest.j0 k a0 l1 l2 l3 true) = some r := by rw [if_neg (show ¬ (false = true) by decide)] at H; exact H
              clear H
              have H := H1
              clear H1
              have H' := Aside0.mk H
              clear H
              go_wp2_with (first | (go_at_call 34; (with_reducible refine (affidavitlaw03_prime.calls k a0 false _ A12.out).mono ?_); rintro e w' ⟨rfl, ⟨nd, rfl⟩⟩))
              go_meet
              case rel => exact ⟨_, (true), (by first | rfl | (simp; done) | (simp [*]; done)), H', ⟨by first | omega | exact Nat.le_refl _⟩, ⟨by repeat (first | (with_reducible first | exact HB.out | apply below_alloc | apply pw_below_drewN | apply below_drew1) | exact HB.out)⟩⟩
    case rest =>
      clear HC7
      try clear c1
      try clear c2
      try clear p2
      try clear c3
      try clear c6
      try clear c9
      try clear c9b0
      try clear c9b1
      try clear c10
      try clear c10b0
      try clear c10b1
      try clear c11
      try clear c11b0
      try clear c11b1
      try clear c13
      try clear c15
      try clear c17
      try clear c19
      obtain ⟨kq, x82_6, rfl, HA, HJ6, HB⟩ := hcut
      cases kq with
      | zero => exact absurd HA.out (by simp [affidavitlaw03_PolyGreatest.j0])
      | succ kj6 =>
        have H := HA.out
        clear HA
        simp only [affidavitlaw03_PolyGreatest.j0] at H
        by_cases c20 : x82_6 = true
        · subst c20
          have H1 : (some true) = some r := by rw [if_pos rfl] at H; exact H
          clear H
          have H := H1
          clear H1
          obtain rfl := Option.some.inj H
          go_wp2
          go_ret
          exact ⟨by first | rfl | (simp [errW_none, errW_some] <;> rfl) | (simp [*, errW_none, errW_some] <;> rfl), by repeat (first | (with_reducible first | exact HB.out | apply below_alloc | apply pw_below_drewN | apply below_drew1) | exact HB.out)⟩
        · replace c20 := Bool.eq_false_iff.mpr c20
          subst c20
          have H1 : ((poly_Mul.f kj6 a0 l1 l3).bind fun bt438 => ((poly_Mul.f kj6 a0 l2 l3).bind fun bt442 => ((poly_Bezout.f kj6 a0 bt438.1 bt442.1).bind fun bt446 => (if bt446.2.2.2 = 0 then (if (bt438.1.length : Int) = 0 then (affidavitlaw03_PolyGreatest.j1 kj6 a0 l3 bt438.1 bt442.1 bt446.1 bt446.2.1 bt446.2.2.1 ((bt442.1.length : Int) == 0)) else (affidavitlaw03_PolyGreatest.j1 kj6 a0 l3 bt438.1 bt442.1 bt446.1 bt446.2.1 bt446.2.2.1 false)) else (none))))) = some r := by rw [if_neg (show ¬ (false = true) by decide)] at H; exact H
          clear H
          have H := H1
          clear H1
          replace H := Option.bind_eq_some_iff.mp H
          obtain ⟨⟨t438, t441⟩, A210, H⟩ := H
          replace H : ((poly_Mul.f kj6 a0 l2 l3).bind fun bt442 => ((poly_Bezout.f kj6 a0 t438 bt442.1).bind fun bt446 => (if bt446.2.2.2 = 0 then (if (t438.length : Int) = 0 then (affidavitlaw03_PolyGreatest.j1 kj6 a0 l3 t438 bt442.1 bt446.1 bt446.2.1 bt446.2.2.1 ((bt442.1.length : Int) == 0)) else (affidavitlaw03_PolyGreatest.j1 kj6 a0 l3 t438 bt442.1 bt446.1 bt446.2.1 bt446.2.2.1 false)) else (none)))) = some r := H
          have A21 := Aside0.mk A210
          clear A210
          replace H := Option.bind_eq_some_iff.mp H
          obtain ⟨⟨t442, t445⟩, A220, H⟩ := H
          replace H : ((poly_Bezout.f kj6 a0 t438 t442).bind fun bt446 => (if bt446.2.2.2 = 0 then (if (t438.length : Int) = 0 then (affidavitlaw03_PolyGreatest.j1 kj6 a0 l3 t438 t442 bt446.1 bt446.2.1 bt446.2.2.1 ((t442.length : Int) == 0)) else (affidavitlaw03_PolyGreatest.j1 kj6 a0 l3 t438 t442 bt446.1 bt446.2.1 bt446.2.2.1 false)) else (none))) = some r := H
          have A22 := Aside0.mk A220
          clear A220
          replace H := Option.bind_eq_some_iff.mp H
          obtain ⟨⟨t446, t449, t452, t455⟩, A230, H⟩ := H
          replace H : (if t455 = 0 then (if (t438.length : Int) = 0 then (affidavitlaw03_PolyGreatest.j1 kj6 a0 l3 t438 t442 t446 t449 t452 ((t442.length : Int) == 0)) else (affidavitlaw03_PolyGreatest.j1 kj6 a0 l3 t438 t442 t446 t449 t452 false)) else (none)) = some r := H
          have A23 := Aside0.mk A230
          clear A230
          by_cases c24 : t455 = 0
          · rw [if_pos c24] at H
            have c24b0 : (t455 == 0) = true := beq_iff_eq.mpr c24
            have c24b1 : (t455 != 0) = false := bne_eq_false_iff_eq.mpr c24
            clear c24
            have HC25 := Aside0.mk H
            clear H
            go_upto_region 10 with (first | ((with_reducible refine gate_callee (f := 36) rfl ?_); refine goesL_ (some 87) rfl rfl Try.func36 (by kernel_rfl) rfl #[.int .u64 a0, .slice A1 l1.length c1, .slice A3 l3.length c3] rfl (by (try simp only [List.map_toArray, List.map_cons, List.map_nil]); first | done | rfl | (simp only [List.length_drop, List.length_take]; rfl)) ?_; (with_reducible refine (poly_Mul.calls kj6 a0 _ _ l1 _ _ l3 t438 t441 _ ?side1 ?side2 ?side3 ?side4 A21.out).mono ?_); (case side1 => repeat (first | exact (Kd.C_below HR1.out HB.out) | (with_reducible refine Kd.C_alloc ?_ _) | (with_reducible refine Kd.C_drewN ?_ _) | (with_reducible refine Kd.C_drew ?_))); (case side2 => exact HC1.out); (case side3 => repeat (first | exact (Kd.C_below HR3.out HB.out) | (with_reducible refine Kd.C_alloc ?_ _) | (with_reducible refine Kd.C_drewN ?_ _) | (with_reducible refine Kd.C_drew ?_))); (case side4 => exact HC3.out); rintro e w26 ⟨v439, rfl, ho0, hb⟩; refine ⟨_, rfl, ?_⟩; have n0_ := Aside0.mk (Kd.V_lower (Kd.V_mono (ok' := fun k_ => True) ho0 (fun k_ hk_ => trivial)) (below_size (by repeat (first | (with_reducible first | exact HB.out | apply below_alloc | apply pw_below_drewN | apply below_drew1) | exact HB.out)))); have n1_ := Aside0.mk (below_step (by repeat (first | (with_reducible first | exact HB.out | apply below_alloc | apply pw_below_drewN | apply below_drew1) | exact HB.out)) hb); clear HB; have HO440 := n0_; have HB := n1_; clear n0_ n1_; (try clear hb); (try clear hb2); (try clear hk); (try clear hi); (try clear ho0)) | ((with_reducible refine gate_callee (f := 36) rfl ?_); refine goesL_ (some 94) rfl rfl Try.func36 (by kernel_rfl) rfl #[.int .u64 a0, .slice A2 l2.length c2, .slice A3 l3.length c3] rfl (by (try simp only [List.map_toArray, List.map_cons, List.map_nil]); first | done | rfl | (simp only [List.length_drop, List.length_take]; rfl)) ?_; (with_reducible refine (poly_Mul.calls kj6 a0 _ _ l2 _ _ l3 t442 t445 _ ?side1 ?side2 ?side3 ?side4 A22.out).mono ?_); (case side1 => repeat (first | exact (Kd.C_below HR2.out HB.out) | (with_reducible refine Kd.C_alloc ?_ _) | (with_reducible refine Kd.C_drewN ?_ _) | (with_reducible refine Kd.C_drew ?_))); (case side2 => exact HC2.out); (case side3 => repeat (first | exact (Kd.C_below HR3.out HB.out) | (with_reducible refine Kd.C_alloc ?_ _) | (with_reducible refine Kd.C_drewN ?_ _) | (with_reducible refine Kd.C_drew ?_))); (case side4 => exact HC3.out); rintro e w27 ⟨v443, rfl, ho0, hb⟩; refine ⟨_, rfl, ?_⟩; have n0_ := Aside0.mk (Kd.V_below (by (with_reducible repeat (first | apply Kd.V_alloc | apply Kd.V_drewN | apply Kd.V_drew)); exact HO440.out) hb); have n1_ := Aside0.mk (Kd.V_lower (Kd.V_mono (ok' := fun k_ => True) ho0 (fun k_ hk_ => trivial)) (below_size (by repeat (first | (with_reducible first | exact HB.out | apply below_alloc | apply pw_below_drewN | apply below_drew1) | exact HB.out)))); have n2_ := Aside0.mk (below_step (by repeat (first | (with_reducible first | exact HB.out | apply below_alloc | apply pw_below_drewN | apply below_drew1) | exact HB.out)) hb); clear HO440; clear HB; have HO440 := n0_; have HO444 := n1_; have HB := n2_; clear n0_ n1_ n2_; (try clear hb); (try clear hb2); (try clear hk); (try clear hi); (try clear ho0); obtain ⟨Ao28, co28, eo28⟩ := Kd.V_slice HO440.out; subst eo28; obtain ⟨Ao29, co29, eo29⟩ := Kd.V_slice HO444.out; subst eo29) | ((with_reducible refine gate_callee (f := 43) rfl ?_); refine goesL_ (some 101) rfl rfl Try.func43 (by kernel_rfl) rfl #[.int .u64 a0, .slice Ao28 t438.length co28, .slice Ao29 t442.length co29] rfl (by (try simp only [List.map_toArray, List.map_cons, List.map_nil]); first | done | rfl | (simp only [List.length_drop, List.length_take]; rfl)) ?_; (with_reducible refine (poly_Bezout.calls kj6 a0 _ _ t438 _ _ t442 t446 t449 t452 t455 _ ?side1 ?side2 ?side3 ?side4 A23.out).mono ?_); (case side1 => repeat (first | exact (Kd.V_reads' HO440.out).2.2 | (with_reducible refine Kd.C_alloc ?_ _) | (with_reducible refine Kd.C_drewN ?_ _) | (with_reducible refine Kd.C_drew ?_))); (case side2 => exact (Kd.V_reads' HO440.out).2.1); (case side3 => repeat (first | exact (Kd.V_reads' HO444.out).2.2 | (with_reducible refine Kd.C_alloc ?_ _) | (with_reducible refine Kd.C_drewN ?_ _) | (with_reducible refine Kd.C_drew ?_))); (case side4 => exact (Kd.V_reads' HO444.out).2.1); rintro e w30 ⟨v447, v450, v453, rfl, ho0, ho1, ho2, hb⟩; refine ⟨_, rfl, ?_⟩; have n0_ := Aside0.mk (Kd.V_below (by (with_reducible repeat (first | apply Kd.V_alloc | apply Kd.V_drewN | apply Kd.V_drew)); exact HO440.out) hb); have n1_ := Aside0.mk (Kd.V_below (by (with_reducible repeat (first | apply Kd.V_alloc | apply Kd.V_drewN | apply Kd.V_drew)); exact HO444.out) hb); have n2_ := Aside0.mk (Kd.V_lower (Kd.V_mono (ok' := fun k_ => True) ho0 (fun k_ hk_ => trivial)) (below_size (by repeat (first | (with_reducible first | exact HB.out | apply below_alloc | apply pw_below_drewN | apply below_drew1) | exact HB.out)))); have n3_ := Aside0.mk (Kd.V_lower (Kd.V_mono (ok' := fun k_ => True) ho1 (fun k_ hk_ => trivial)) (below_size (by repeat (first | (with_reducible first | exact HB.out | apply below_alloc | apply pw_below_drewN | apply below_drew1) | exact HB.out)))); have n4_ := Aside0.mk (Kd.V_lower (Kd.V_mono (ok' := fun k_ => True) ho2 (fun k_ hk_ => trivial)) (below_size (by repeat (first | (with_reducible first | exact HB.out | apply below_alloc | apply pw_below_drewN | apply below_drew1) | exact HB.out)))); have n5_ := Aside0.mk (below_step (by repeat (first | (with_reducible first | exact HB.out | apply below_alloc | apply pw_below_drewN | apply below_drew1) | exact HB.out)) hb); clear HO440; clear HO444; clear HB; have HO440 := n0_; have HO444 := n1_; have HO448 := n2_; have HO451 := n3_; have HO454 := n4_; have HB := n5_; clear n0_ n1_ n2_ n3_ n4_ n5_; (try clear hb); (try clear hb2); (try clear hk); (try clear hi); (try clear ho0); (try clear ho1); (try clear ho2)))
            (try simp only [Act.put, List.setIfInBounds_toArray, List.set_cons_zero, List.set_cons_succ])
            go_cut [115] (fun v115 wc => ∃ (kq : Nat) (x115_24 : Bool), v115 = .bool x115_24 ∧ Aside0 (affidavitlaw03_PolyGreatest.j1 kq a0 l3 t438 t442 t446 t449 t452 x115_24 = some r) ∧ Aside0 (kq ≤ kj6) ∧ Aside0 (Kd.V (Kd.int .u64) 22 wc w.heap.size (fun _ => True) (.slice Ao28 t438.length co28) t438) ∧ Aside0 (Kd.V (Kd.int .u64) 22 wc w.heap.size (fun _ => True) (.slice Ao29 t442.length co29) t442) ∧ Aside0 (Kd.V (Kd.int .u64) 22 wc w.heap.size (fun _ => True) v447 t446) ∧ Aside0 (Kd.V (Kd.int .u64) 22 wc w.heap.size (fun _ => True) v450 t449) ∧ Aside0 (Kd.V (Kd.int .u64) 22 wc w.heap.size (fun _ => True) v453 t452) ∧ Aside0 (Below w.heap.size w wc))
            case first =>
              have H := HC25.out
              clear HC25
              by_cases c31 : (t438.length : Int) = 0
              · rw [if_pos c31] at H
                have c31b0 : ((t438.length : Int) == 0) = true := beq_iff_eq.mpr c31
                have c31b1 : ((t438.length : Int) != 0) = false := bne_eq_false_iff_eq.mpr c31
                clear c31
                (first | rw [c31b0] | (simp only [i64_w, i32_w]; rw [c31b0]) | skip)
                have H' := Aside0.mk H
                clear H
                go_wp2
                go_meet
                case rel => exact ⟨_, (((t442.length : Int) == 0)), (by first | rfl | (simp; done) | (simp [*]; done)), H', ⟨by have := HJ6.out; first | omega | exact Nat.le_refl _⟩, ⟨by (with_reducible repeat (first | apply Kd.V_alloc | apply Kd.V_drewN | apply Kd.V_drew)); exact HO440.out⟩, ⟨by (with_reducible repeat (first | apply Kd.V_alloc | apply Kd.V_drewN | apply Kd.V_drew)); exact HO444.out⟩, ⟨by (with_reducible repeat (first | apply Kd.V_alloc | apply Kd.V_drewN | apply Kd.V_drew)); exact HO448.out⟩, ⟨by (with_reducible repeat (first | apply Kd.V_alloc | apply Kd.V_drewN | apply Kd.V_drew)); exact HO451.out⟩, ⟨by (with_reducible repeat (first | apply Kd.V_alloc | apply Kd.V_drewN | apply Kd.V_drew)); exact HO454.out⟩, ⟨by repeat (first | (with_reducible first | exact HB.out | apply below_alloc | apply pw_below_drewN | apply below_drew1) | exact HB.out)⟩⟩
              · rw [if_neg c31] at H
                have c31b0 : ((t438.length : Int) == 0) = false := beq_eq_false_iff_ne.mpr c31
                have c31b1 : ((t438.length : Int) != 0) = true := bne_iff_ne.mpr c31
                have c31b2 : ¬ (t438 = []) := fun h_ => c31 (by rw [h_]; rfl)
                (first | rw [c31b0] | (simp only [i64_w, i32_w]; rw [c31b0]) | skip)
                have H' := Aside0.mk H
                clear H
                go_wp2
                go_meet
                case rel => exact ⟨_, (false), (by first | rfl | (simp; done) | (simp [*]; done)), H', ⟨by have := HJ6.out; first | omega | exact Nat.le_refl _⟩, ⟨by (with_reducible repeat (first | apply Kd.V_alloc | apply Kd.V_drewN | apply Kd.V_drew)); exact HO440.out⟩, ⟨by (with_reducible repeat (first | apply Kd.V_alloc | apply Kd.V_drewN | apply Kd.V_drew)); exact HO444.out⟩, ⟨by (with_reducible repeat (first | apply Kd.V_alloc | apply Kd.V_drewN | apply Kd.V_drew)); exact HO448.out⟩, ⟨by (with_reducible repeat (first | apply Kd.V_alloc | apply Kd.V_drewN | apply Kd.V_drew)); exact HO451.out⟩, ⟨by (with_reducible repeat (first | apply Kd.V_alloc | apply Kd.V_drewN | apply Kd.V_drew)); exact HO454.out⟩, ⟨by repeat (first | (with_reducible first | exact HB.out | apply below_alloc | apply pw_below_drewN | apply below_drew1) | exact HB.out)⟩⟩
            case rest =>
              clear HC25
              try clear c1
              try clear c2
              try clear p2
              try clear c3
              try clear c4
              try clear c6
              try clear c9
              try clear c9b0
              try clear c9b1
              try clear c10
              try clear c10b0
              try clear c10b1
              try clear c11
              try clear c11b0
              try clear c11b1
              try clear c13
              try clear c15
              try clear c17
              try clear c19
              try clear c20
              try clear c24
              try clear c24b0
              try clear c24b1
              try clear c31
              try clear c31b0
              try clear c31b1
              try clear c31b2
              try clear p2
              obtain ⟨kq, x115_24, rfl, HA, HJ24, HO_9, HO_11, HO_13, HO_14, HO_15, HB⟩ := hcut
              cases kq with
              | zero => exact absurd HA.out (by simp [affidavitlaw03_PolyGreatest.j1])
              | succ kj24 =>
                have H := HA.out
                clear HA
                simp only [affidavitlaw03_PolyGreatest.j1] at H
                by_cases c32 : x115_24 = true
                · subst c32
                  have H1 : (some ((t446.length : Int) == 0)) = some r := by rw [if_pos rfl] at H; exact H
                  clear H
                  have H := H1
                  clear H1
                  obtain rfl := Option.some.inj H
                  obtain ⟨Ao33, co33, eo33⟩ := Kd.V_slice HO_13.out
                  subst eo33
                  go_wp2
                  go_ret
                  exact ⟨by first | rfl | (simp [errW_none, errW_some] <;> rfl) | (simp [*, errW_none, errW_some] <;> rfl), by repeat (first | (with_reducible first | exact HB.out | apply below_alloc | apply pw_below_drewN | apply below_drew1) | exact HB.out)⟩
                · replace c32 := Bool.eq_false_iff.mpr c32
                  subst c32
                  have H1 : ((poly_Div.f kj24 a0 t438 t446).bind fun bt456 => ((poly_Div.f kj24 a0 t442 t446).bind fun bt463 => ((poly_Div.f kj24 a0 t446 l3).bind fun bt470 => (if bt456.2.2 = 0 then (if bt463.2.2 = 0 then (if bt470.2.2 = 0 then (if (wrap64 ((wrap64 ((bt456.2.1.length : Int) + (bt463.2.1.length : Int))) + (bt470.2.1.length : Int))) = 0 then (if 0 ≤ (wrap64 ((t446.length : Int) - 1)) then (if (wrap64 ((t446.length : Int) - 1)) < (t446.length : Int) then (affidavitlaw03_PolyGreatest.j2 kj24 a0 t438 t442 t446 t449 t452 ((rd t446 (wrap64 ((t446.length : Int) - 1))) != 1)) else (none)) else (none)) else (none)) else (none)) else (none)) else (none))))) = some r := by rw [if_neg (show ¬ (false = true) by decide)] at H; exact H
                  clear H
                  have H := H1
                  clear H1
                  replace H := Option.bind_eq_some_iff.mp H
                  obtain ⟨⟨t456, t459, t462⟩, A340, H⟩ := H
                  replace H : ((poly_Div.f kj24 a0 t442 t446).bind fun bt463 => ((poly_Div.f kj24 a0 t446 l3).bind fun bt470 => (if t462 = 0 then (if bt463.2.2 = 0 then (if bt470.2.2 = 0 then (if (wrap64 ((wrap64 ((t459.length : Int) + (bt463.2.1.length : Int))) + (bt470.2.1.length : Int))) = 0 then (if 0 ≤ (wrap64 ((t446.length : Int) - 1)) then (if (wrap64 ((t446.length : Int) - 1)) < (t446.length : Int) then (affidavitlaw03_PolyGreatest.j2 kj24 a0 t438 t442 t446 t449 t452 ((rd t446 (wrap64 ((t446.length : Int) - 1))) != 1)) else (none)) else (none)) else (none)) else (none)) else (none)) else (none)))) = some r := H
                  have A34 := Aside0.mk A340
                  clear A340
                  replace H := Option.bind_eq_some_iff.mp H
                  obtain ⟨⟨t463, t466, t469⟩, A350, H⟩ := H
                  replace H : ((poly_Div.f kj24 a0 t446 l3).bind fun bt470 => (if t462 = 0 then (if t469 = 0 then (if bt470.2.2 = 0 then (if (wrap64 ((wrap64 ((t459.length : Int) + (t466.length : Int))) + (bt470.2.1.length : Int))) = 0 then (if 0 ≤ (wrap64 ((t446.length : Int) - 1)) then (if (wrap64 ((t446.length : Int) - 1)) < (t446.length : Int) then (affidavitlaw03_PolyGreatest.j2 kj24 a0 t438 t442 t446 t449 t452 ((rd t446 (wrap64 ((t446.length : Int) - 1))) != 1)) else (none)) else (none)) else (none)) else (none)) else (none)) else (none))) = some r := H
                  have A35 := Aside0.mk A350
                  clear A350
                  replace H := Option.bind_eq_some_iff.mp H
                  obtain ⟨⟨t470, t473, t476⟩, A360, H⟩ := H
                  replace H : (if t462 = 0 then (if t469 = 0 then (if t476 = 0 then (if (wrap64 ((wrap64 ((t459.length : Int) + (t466.length : Int))) + (t473.length : Int))) = 0 then (if 0 ≤ (wrap64 ((t446.length : Int) - 1)) then (if (wrap64 ((t446.length : Int) - 1)) < (t446.length : Int) then (affidavitlaw03_PolyGreatest.j2 kj24 a0 t438 t442 t446 t449 t452 ((rd t446 (wrap64 ((t446.length : Int) - 1))) != 1)) else (none)) else (none)) else (none)) else (none)) else (none)) else (none)) = some r := H
                  have A36 := Aside0.mk A360
                  clear A360
                  have HC37 := Aside0.mk H
                  clear H
                  obtain ⟨Ao38, co38, eo38⟩ := Kd.V_slice HO_13.out
                  subst eo38
                  go_upto_region 15 with (first | ((with_reducible refine gate_callee (f := 32) rfl ?_); refine goesL_ (some 123) rfl rfl Try.func32 (by kernel_rfl) rfl #[.int .u64 a0, .slice Ao28 t438.length co28, .slice Ao38 t446.length co38] rfl (by (try simp only [List.map_toArray, List.map_cons, List.map_nil]); first | done | rfl | (simp only [List.length_drop, List.length_take]; rfl)) ?_; (with_reducible refine (poly_Div.calls kj24 a0 _ _ t438 _ _ t446 t456 t459 t462 _ ?side1 ?side2 ?side3 ?side4 A34.out).mono ?_); (case side1 => repeat (first | exact (Kd.V_reads' HO_9.out).2.2 | (with_reducible refine Kd.C_alloc ?_ _) | (with_reducible refine Kd.C_drewN ?_ _) | (with_reducible refine Kd.C_drew ?_))); (case side2 => exact (Kd.V_reads' HO_9.out).2.1); (case side3 => repeat (first | exact (Kd.V_reads' HO_13.out).2.2 | (with_reducible refine Kd.C_alloc ?_ _) | (with_reducible refine Kd.C_drewN ?_ _) | (with_reducible refine Kd.C_drew ?_))); (case side4 => exact (Kd.V_reads' HO_13.out).2.1); rintro e w39 ⟨v457, v460, rfl, ho0, ho1, hb⟩; refine ⟨_, rfl, ?_⟩; have n0_ := Aside0.mk (Kd.V_below (by (with_reducible repeat (first | apply Kd.V_alloc | apply Kd.V_drewN | apply Kd.V_drew)); exact HO_9.out) hb); have n1_ := Aside0.mk (Kd.V_below (by (with_reducible repeat (first | apply Kd.V_alloc | apply Kd.V_drewN | apply Kd.V_drew)); exact HO_11.out) hb); have n2_ := Aside0.mk (Kd.V_below (by (with_reducible repeat (first | apply Kd.V_alloc | apply Kd.V_drewN | apply Kd.V_drew)); exact HO_13.out) hb); have n3_ := Aside0.mk (Kd.V_below (by (with_reducible repeat (first | apply Kd.V_alloc | apply Kd.V_drewN | apply Kd.V_drew)); exact HO_14.out) hb); have n4_ := Aside0.mk (Kd.V_below (by (with_reducible repeat (first | apply Kd.V_alloc | apply Kd.V_drewN | apply Kd.V_drew)); exact HO_15.out) hb); have n5_ := Aside0.mk (Kd.V_lower (Kd.V_mono (ok' := fun k_ => True) ho0 (fun k_ hk_ => trivial)) (below_size (by repeat (first | (with_reducible first | exact HB.out | apply below_alloc | apply pw_below_drewN | apply below_drew1) | exact HB.out)))); have n6_ := Aside0.mk (Kd.V_lower (Kd.V_mono (ok' := fun k_ => True) ho1 (fun k_ hk_ => trivial)) (below_size (by repeat (first | (with_reducible first | exact HB.out | apply below_alloc | apply pw_below_drewN | apply below_drew1) | exact HB.out)))); have n7_ := Aside0.mk (below_step (by repeat (first | (with_reducible first | exact HB.out | apply below_alloc | apply pw_below_drewN | apply below_drew1) | exact HB.out)) hb); clear HO_9; clear HO_11; clear HO_13; clear HO_14; clear HO_15; clear HB; have HO_9 := n0_; have HO_11 := n1_; have HO_13 := n2_; have HO_14 := n3_; have HO_15 := n4_; have HO458 := n5_; have HO461 := n6_; have HB := n7_; clear n0_ n1_ n2_ n3_ n4_ n5_ n6_ n7_; (try clear hb); (try clear hb2); (try clear hk); (try clear hi); (try clear ho0); (try clear ho1)) | ((with_reducible refine gate_callee (f := 32) rfl ?_); refine goesL_ (some 131) rfl rfl Try.func32 (by kernel_rfl) rfl #[.int .u64 a0, .slice Ao29 t442.length co29, .slice Ao38 t446.length co38] rfl (by (try simp only [List.map_toArray, List.map_cons, List.map_nil]); first | done | rfl | (simp only [List.length_drop, List.length_take]; rfl)) ?_; (with_reducible refine (poly_Div.calls kj24 a0 _ _ t442 _ _ t446 t463 t466 t469 _ ?side1 ?side2 ?side3 ?side4 A35.out).mono ?_); (case side1 => repeat (first | exact (Kd.V_reads' HO_11.out).2.2 | (with_reducible refine Kd.C_alloc ?_ _) | (with_reducible refine Kd.C_drewN ?_ _) | (with_reducible refine Kd.C_drew ?_))); (case side2 => exact (Kd.V_reads' HO_11.out).2.1); (case side3 => repeat (first | exact (Kd.V_reads' HO_13.out).2.2 | (with_reducible refine Kd.C_alloc ?_ _) | (with_reducible refine Kd.C_drewN ?_ _) | (with_reducible refine Kd.C_drew ?_))); (case side4 => exact (Kd.V_reads' HO_13.out).2.1); rintro e w40 ⟨v464, v467, rfl, ho0, ho1, hb⟩; refine ⟨_, rfl, ?_⟩; have n0_ := Aside0.mk (Kd.V_below (by (with_reducible repeat (first | apply Kd.V_alloc | apply Kd.V_drewN | apply Kd.V_drew)); exact HO_9.out) hb); have n1_ := Aside0.mk (Kd.V_below (by (with_reducible repeat (first | apply Kd.V_alloc | apply Kd.V_drewN | apply Kd.V_drew)); exact HO_11.out) hb); have n2_ := Aside0.mk (Kd.V_below (by (with_reducible repeat (first | apply Kd.V_alloc | apply Kd.V_drewN | apply Kd.V_drew)); exact HO_13.out) hb); have n3_ := Aside0.mk (Kd.V_below (by (with_reducible repeat (first | apply Kd.V_alloc | apply Kd.V_drewN | apply Kd.V_drew)); exact HO_14.out) hb); have n4_ := Aside0.mk (Kd.V_below (by (with_reducible repeat (first | apply Kd.V_alloc | apply Kd.V_drewN | apply Kd.V_drew)); exact HO_15.out) hb); have n5_ := Aside0.mk (Kd.V_below (by (with_reducible repeat (first | apply Kd.V_alloc | apply Kd.V_drewN | apply Kd.V_drew)); exact HO458.out) hb); have n6_ := Aside0.mk (Kd.V_below (by (with_reducible repeat (first | apply Kd.V_alloc | apply Kd.V_drewN | apply Kd.V_drew)); exact HO461.out) hb); have n7_ := Aside0.mk (Kd.V_lower (Kd.V_mono (ok' := fun k_ => True) ho0 (fun k_ hk_ => trivial)) (below_size (by repeat (first | (with_reducible first | exact HB.out | apply below_alloc | apply pw_below_drewN | apply below_drew1) | exact HB.out)))); have n8_ := Aside0.mk (Kd.V_lower (Kd.V_mono (ok' := fun k_ => True) ho1 (fun k_ hk_ => trivial)) (below_size (by repeat (first | (with_reducible first | exact HB.out | apply below_alloc | apply pw_below_drewN | apply below_drew1) | exact HB.out)))); have n9_ := Aside0.mk (below_step (by repeat (first | (with_reducible first | exact HB.out | apply below_alloc | apply pw_below_drewN | apply below_drew1) | exact HB.out)) hb); clear HO_9; clear HO_11; clear HO_13; clear HO_14; clear HO_15; clear HO458; clear HO461; clear HB; have HO_9 := n0_; have HO_11 := n1_; have HO_13 := n2_; have HO_14 := n3_; have HO_15 := n4_; have HO458 := n5_; have HO461 := n6_; have HO465 := n7_; have HO468 := n8_; have HB := n9_; clear n0_ n1_ n2_ n3_ n4_ n5_ n6_ n7_ n8_ n9_; (try clear hb); (try clear hb2); (try clear hk); (try clear hi); (try clear ho0); (try clear ho1)) | ((with_reducible refine gate_callee (f := 32) rfl ?_); refine goesL_ (some 139) rfl rfl Try.func32 (by kernel_rfl) rfl #[.int .u64 a0, .slice Ao38 t446.length co38, .slice A3 l3.length c3] rfl (by (try simp only [List.map_toArray, List.map_cons, List.map_nil]); first | done | rfl | (simp only [List.length_drop, List.length_take]; rfl)) ?_; (with_reducible refine (poly_Div.calls kj24 a0 _ _ t446 _ _ l3 t470 t473 t476 _ ?side1 ?side2 ?side3 ?side4 A36.out).mono ?_); (case side1 => repeat (first | exact (Kd.V_reads' HO_13.out).2.2 | (with_reducible refine Kd.C_alloc ?_ _) | (with_reducible refine Kd.C_drewN ?_ _) | (with_reducible refine Kd.C_drew ?_))); (case side2 => exact (Kd.V_reads' HO_13.out).2.1); (case side3 => repeat (first | exact (Kd.C_below HR3.out HB.out) | (with_reducible refine Kd.C_alloc ?_ _) | (with_reducible refine Kd.C_drewN ?_ _) | (with_reducible refine Kd.C_drew ?_))); (case side4 => exact HC3.out); rintro e w41 ⟨v471, v474, rfl, ho0, ho1, hb⟩; refine ⟨_, rfl, ?_⟩; have n0_ := Aside0.mk (Kd.V_below (by (with_reducible repeat (first | apply Kd.V_alloc | apply Kd.V_drewN | apply Kd.V_drew)); exact HO_9.out) hb); have n1_ := Aside0.mk (Kd.V_below (by (with_reducible repeat (first | apply Kd.V_alloc | apply Kd.V_drewN | apply Kd.V_drew)); exact HO_11.out) hb); have n2_ := Aside0.mk (Kd.V_below (by (with_reducible repeat (first | apply Kd.V_alloc | apply Kd.V_drewN | apply Kd.V_drew)); exact HO_13.out) hb); have n3_ := Aside0.mk (Kd.V_below (by (with_reducible repeat (first | apply Kd.V_alloc | apply Kd.V_drewN | apply Kd.V_drew)); exact HO_14.out) hb); have n4_ := Aside0.mk (Kd.V_below (by (with_reducible repeat (first | apply Kd.V_alloc | apply Kd.V_drewN | apply Kd.V_drew)); exact HO_15.out) hb); have n5_ := Aside0.mk (Kd.V_below (by (with_reducible repeat (first | apply Kd.V_alloc | apply Kd.V_drewN | apply Kd.V_drew)); exact HO458.out) hb); have n6_ := Aside0.mk (Kd.V_below (by (with_reducible repeat (first | apply Kd.V_alloc | apply Kd.V_drewN | apply Kd.V_drew)); exact HO461.out) hb); have n7_ := Aside0.mk (Kd.V_below (by (with_reducible repeat (first | apply Kd.V_alloc | apply Kd.V_drewN | apply Kd.V_drew)); exact HO465.out) hb); have n8_ := Aside0.mk (Kd.V_below (by (with_reducible repeat (first | apply Kd.V_alloc | apply Kd.V_drewN | apply Kd.V_drew)); exact HO468.out) hb); have n9_ := Aside0.mk (Kd.V_lower (Kd.V_mono (ok' := fun k_ => True) ho0 (fun k_ hk_ => trivial)) (below_size (by repeat (first | (with_reducible first | exact HB.out | apply below_alloc | apply pw_below_drewN | apply below_drew1) | exact HB.out)))); have n10_ := Aside0.mk (Kd.V_lower (Kd.V_mono (ok' := fun k_ => True) ho1 (fun k_ hk_ => trivial)) (below_size (by repeat (first | (with_reducible first | exact HB.out | apply below_alloc | apply pw_below_drewN | apply below_drew1) | exact HB.out)))); have n11_ := Aside0.mk (below_step (by repeat (first | (with_reducible first | exact HB.out | apply below_alloc | apply pw_below_drewN | apply below_drew1) | exact HB.out)) hb); clear HO_9; clear HO_11; clear HO_13; clear HO_14; clear HO_15; clear HO458; clear HO461; clear HO465; clear HO468; clear HB; have HO_9 := n0_; have HO_11 := n1_; have HO_13 := n2_; have HO_14 := n3_; have HO_15 := n4_; have HO458 := n5_; have HO461 := n6_; have HO465 := n7_; have HO468 := n8_; have HO472 := n9_; have HO475 := n10_; have HB := n11_; clear n0_ n1_ n2_ n3_ n4_ n5_ n6_ n7_ n8_ n9_ n10_ n11_; (try clear hb); (try clear hb2); (try clear hk); (try clear hi); (try clear ho0); (try clear ho1)))
                  (try simp only [Act.put, List.setIfInBounds_toArray, List.set_cons_zero, List.set_cons_succ])
                  go_cut [172] (fun v172 wc => ∃ (kq : Nat) (x172_36 : Bool), v172 = .bool x172_36 ∧ Aside0 (affidavitlaw03_PolyGreatest.j2 kq a0 t438 t442 t446 t449 t452 x172_36 = some r) ∧ Aside0 (kq ≤ kj24) ∧ Aside0 (Kd.V (Kd.int .u64) 22 wc w.heap.size (fun _ => True) (.slice Ao28 t438.length co28) t438) ∧ Aside0 (Kd.V (Kd.int .u64) 22 wc w.heap.size (fun _ => True) (.slice Ao29 t442.length co29) t442) ∧ Aside0 (Kd.V (Kd.int .u64) 22 wc w.heap.size (fun _ => True) (.slice Ao38 t446.length co38) t446) ∧ Aside0 (Kd.V (Kd.int .u64) 22 wc w.heap.size (fun _ => True) v450 t449) ∧ Aside0 (Kd.V (Kd.int .u64) 22 wc w.heap.size (fun _ => True) v453 t452) ∧ Aside0 (Below w.heap.size w wc))
                  case first =>
                    have H := HC37.out
                    clear HC37
                    by_cases c42 : t462 = 0
                    · rw [if_pos c42] at H
                      have c42b0 : (t462 == 0) = true := beq_iff_eq.mpr c42
                      have c42b1 : (t462 != 0) = false := bne_eq_false_iff_eq.mpr c42
                      clear c42
                      (first | rw [c42b0] | (simp only [i64_w, i32_w]; rw [c42b0]) | skip)
                      by_cases c43 : t469 = 0
                      · rw [if_pos c43] at H
                        have c43b0 : (t469 == 0) = true := beq_iff_eq.mpr c43
                        have c43b1 : (t469 != 0) = false := bne_eq_false_iff_eq.mpr c43
                        clear c43
                        by_cases c44 : t476 = 0
                        · rw [if_pos c44] at H
                          have c44b0 : (t476 == 0) = true := beq_iff_eq.mpr c44
                          have c44b1 : (t476 != 0) = false := bne_eq_false_iff_eq.mpr c44
                          clear c44
                          by_cases c45 : (wrap64 ((wrap64 ((t459.length : Int) + (t466.length : Int))) + (t473.length : Int))) = 0
                          · rw [if_pos c45] at H
                            have c45b0 : ((wrap64 ((wrap64 ((t459.length : Int) + (t466.length : Int))) + (t473.length : Int))) == 0) = true := beq_iff_eq.mpr c45
                            have c45b1 : ((wrap64 ((wrap64 ((t459.length : Int) + (t466.length : Int))) + (t473.length : Int))) != 0) = false := bne_eq_false_iff_eq.mpr c45
                            clear c45
                            obtain ⟨ji46, hji46⟩ : ∃ j_ : Int, (wrap64 ((t446.length : Int) - 1)) = j_ := ⟨_, rfl⟩
                            replace H : (if 0 ≤ (ji46) then (if (ji46) < (t446.length : Int) then (affidavitlaw03_PolyGreatest.j2 kj24 a0 t438 t442 t446 t449 t452 ((rd t446 (ji46)) != 1)) else (none)) else (none)) = some r := by first | (rw [hji46] at H; exact H) | (simp only [hji46] at H ⊢; exact H)
                            have hji46w : (IntKind.i64.wrap ((t446.length : Int) - 1)) = ji46 := (i64_w _).trans hji46
                            by_cases c47 : 0 ≤ (ji46)
                            · rw [if_pos c47] at H
                              have c47b0 : decide (0 ≤ (ji46)) = true := decide_eq_true c47
                              clear c47
                              by_cases c48 : (ji46) < (t446.length : Int)
                              · rw [if_pos c48] at H
                                have c48b0 : decide ((ji46) < (t446.length : Int)) = true := decide_eq_true c48
                                clear c48
                                have H' := Aside0.mk H
                                clear H
                                obtain ⟨Ao49, co49, eo49⟩ := Kd.V_slice HO461.out
                                subst eo49
                                obtain ⟨Ao50, co50, eo50⟩ := Kd.V_slice HO468.out
                                subst eo50
                                obtain ⟨Ao51, co51, eo51⟩ := Kd.V_slice HO475.out
                                subst eo51
                                have p477 : 0 ≤ ((ji46) : Int) := of_decide_eq_true (by first | (with_reducible assumption) | assumption)
                                have q477 : (ji46) < (t446.length : Int) := of_decide_eq_true (by first | (with_reducible assumption) | assumption)
                                obtain ⟨ad477, e477, hx477_0⟩ := Kd.at_int (Kd.V_reads' HO_13.out).2.2 (ji46) p477 q477
                                cases e477
                                replace p477 := eq_true p477
                                replace q477 := eq_true q477
                                go_wp2
                                go_meet
                                case rel => exact ⟨_, (((rd t446 (ji46)) != 1)), (by first | rfl | (simp; done) | (simp only [← hji46] <;> (first | rfl | simp)) | (simp [*]; done)), H', ⟨by have := HJ6.out; have := HJ24.out; first | omega | exact Nat.le_refl _⟩, ⟨by (with_reducible repeat (first | apply Kd.V_alloc | apply Kd.V_drewN | apply Kd.V_drew)); exact HO_9.out⟩, ⟨by (with_reducible repeat (first | apply Kd.V_alloc | apply Kd.V_drewN | apply Kd.V_drew)); exact HO_11.out⟩, ⟨by (with_reducible repeat (first | apply Kd.V_alloc | apply Kd.V_drewN | apply Kd.V_drew)); exact HO_13.out⟩, ⟨by (with_reducible repeat (first | apply Kd.V_alloc | apply Kd.V_drewN | apply Kd.V_drew)); exact HO_14.out⟩, ⟨by (with_reducible repeat (first | apply Kd.V_alloc | apply Kd.V_drewN | apply Kd.V_drew)); exact HO_15.out⟩, ⟨by repeat (first | (with_reducible first | exact HB.out | apply below_alloc | apply pw_below_drewN | apply below_drew1) | exact HB.out)⟩⟩
                              · rw [if_neg c48] at H
                                exact absurd H (by simp)
                            · rw [if_neg c47] at H
                              exact absurd H (by simp)
                          · rw [if_neg c45] at H
                            exact absurd H (by simp)
                        · rw [if_neg c44] at H
                          exact absurd H (by simp)
                      · rw [if_neg c43] at H
                        exact absurd H (by simp)
                    · rw [if_neg c42] at H
                      exact absurd H (by simp)
                  case rest =>
                    clear HC37
                    try clear c1
                    try clear c2
                    try clear p2
                    try clear c3
                    try clear c4
                    try clear p4
                    try clear q4
                    try clear hx4
                    try clear c6
                    try clear p6
                    try clear c9
                    try clear c9b0
                    try clear c9b1
                    try clear c10
                    try clear c10b0
                    try clear c10b1
                    try clear c11
                    try clear c11b0
                    try clear c11b1
                    try clear c13
                    try clear c15
                    try clear c17
                    try clear c19
                    try clear c20
                    try clear c24
                    try clear c24b0
                    try clear c24b1
                    try clear c31
                    try clear c31b0
                    try clear c31b1
                    try clear c31b2
                    try clear c32
                    try clear c33
                    try clear c36
                    try clear c42
                    try clear c42b0
                    try clear c42b1
                    try clear c43
                    try clear c43b0
                    try clear c43b1
                    try clear c44
                    try clear c44b0
                    try clear c44b1
                    try clear c45
                    try clear c45b0
                    try clear c45b1
                    try clear c47
                    try clear c47b0
                    try clear p47
                    try clear q47
                    try clear hx47
                    try clear c48
                    try clear c48b0
                    try clear hx477_0
                    try clear p2
                    try clear p477
                    try clear q477
                    obtain ⟨kq, x172_36, rfl, HA, HJ36, HO_9, HO_11, HO_13, HO_14, HO_15, HB⟩ := hcut
                    cases kq with
                    | zero => exact absurd HA.out (by simp [affidavitlaw03_PolyGreatest.j2])
                    | succ kj36 =>
                      have H := HA.out
                      clear HA
                      simp only [affidavitlaw03_PolyGreatest.j2] at H
                      by_cases c52 : x172_36 = true
                      · subst c52
                        have H1 : (none) = some r := by rw [if_pos rfl] at H; exact H
                        clear H
                        have H := H1
                        clear H1
                        exact absurd H (by simp)
                      · replace c52 := Bool.eq_false_iff.mpr c52
                        subst c52
                        have H1 : ((poly_Mul.f kj36 a0 t449 t438).bind fun bt478 => ((poly_Mul.f kj36 a0 t452 t442).bind fun bt482 => ((poly_Add.f kj36 a0 bt478.1 bt482.1).bind fun bt486 => ((poly_Lcm.f kj36 a0 t438 t442).bind fun bt490 => ((poly_Mul.f kj36 a0 bt490.1 t446).bind fun bt494 => ((poly_Mul.f kj36 a0 t438 t442).bind fun bt498 => ((poly_Monic.f kj36 a0 bt498.1).bind fun bt502 => ((affidavitref01_Same.f kj36 bt486.1 t446).bind fun t506 => (if t506 = true then (if bt490.2 = 0 then (if bt498.2 = 0 then (if bt502.2 = 0 then ((affidavitref01_Same.f kj36 bt494.1 bt502.1).bind fun t507 => (some t507)) else (none)) else (none)) else (none)) else (none)))))))))) = some r := by rw [if_neg (show ¬ (false = true) by decide)] at H; exact H
                        clear H
                        have H := H1
                        clear H1
                        replace H := Option.bind_eq_some_iff.mp H
                        obtain ⟨⟨t478, t481⟩, A530, H⟩ := H
                        replace H : ((poly_Mul.f kj36 a0 t452 t442).bind fun bt482 => ((poly_Add.f kj36 a0 t478 bt482.1).bind fun bt486 => ((poly_Lcm.f kj36 a0 t438 t442).bind fun bt490 => ((poly_Mul.f kj36 a0 bt490.1 t446).bind fun bt494 => ((poly_Mul.f kj36 a0 t438 t442).bind fun bt498 => ((poly_Monic.f kj36 a0 bt498.1).bind fun bt502 => ((affidavitref01_Same.f kj36 bt486.1 t446).bind fun t506 => (if t506 = true then (if bt490.2 = 0 then (if bt498.2 = 0 then (if bt502.2 = 0 then ((affidavitref01_Same.f kj36 bt494.1 bt502.1).bind fun t507 => (some t507)) else (none)) else (none)) else (none)) else (none))))))))) = some r := H
                        have A53 := Aside0.mk A530
                        clear A530
                        replace H := Option.bind_eq_some_iff.mp H
                        obtain ⟨⟨t482, t485⟩, A540, H⟩ := H
                        replace H : ((poly_Add.f kj36 a0 t478 t482).bind fun bt486 => ((poly_Lcm.f kj36 a0 t438 t442).bind fun bt490 => ((poly_Mul.f kj36 a0 bt490.1 t446).bind fun bt494 => ((poly_Mul.f kj36 a0 t438 t442).bind fun bt498 => ((poly_Monic.f kj36 a0 bt498.1).bind fun bt502 => ((affidavitref01_Same.f kj36 bt486.1 t446).bind fun t506 => (if t506 = true then (if bt490.2 = 0 then (if bt498.2 = 0 then (if bt502.2 = 0 then ((affidavitref01_Same.f kj36 bt494.1 bt502.1).bind fun t507 => (some t507)) else (none)) else (none)) else (none)) else (none)))))))) = some r := H
                        have A54 := Aside0.mk A540
                        clear A540
                        replace H := Option.bind_eq_some_iff.mp H
                        obtain ⟨⟨t486, t489⟩, A550, H⟩ := H
                        replace H : ((poly_Lcm.f kj36 a0 t438 t442).bind fun bt490 => ((poly_Mul.f kj36 a0 bt490.1 t446).bind fun bt494 => ((poly_Mul.f kj36 a0 t438 t442).bind fun bt498 => ((poly_Monic.f kj36 a0 bt498.1).bind fun bt502 => ((affidavitref01_Same.f kj36 t486 t446).bind fun t506 => (if t506 = true then (if bt490.2 = 0 then (if bt498.2 = 0 then (if bt502.2 = 0 then ((affidavitref01_Same.f kj36 bt494.1 bt502.1).bind fun t507 => (some t507)) else (none)) else (none)) else (none)) else (none))))))) = some r := H
                        have A55 := Aside0.mk A550
                        clear A550
                        replace H := Option.bind_eq_some_iff.mp H
                        obtain ⟨⟨t490, t493⟩, A560, H⟩ := H
                        replace H : ((poly_Mul.f kj36 a0 t490 t446).bind fun bt494 => ((poly_Mul.f kj36 a0 t438 t442).bind fun bt498 => ((poly_Monic.f kj36 a0 bt498.1).bind fun bt502 => ((affidavitref01_Same.f kj36 t486 t446).bind fun t506 => (if t506 = true then (if t493 = 0 then (if bt498.2 = 0 then (if bt502.2 = 0 then ((affidavitref01_Same.f kj36 bt494.1 bt502.1).bind fun t507 => (some t507)) else (none)) else (none)) else (none)) else (none)))))) = some r := H
                        have A56 := Aside0.mk A560
                        clear A560
                        replace H := Option.bind_eq_some_iff.mp H
                        obtain ⟨⟨t494, t497⟩, A570, H⟩ := H
                        replace H : ((poly_Mul.f kj36 a0 t438 t442).bind fun bt498 => ((poly_Monic.f kj36 a0 bt498.1).bind fun bt502 => ((affidavitref01_Same.f kj36 t486 t446).bind fun t506 => (if t506 = true then (if t493 = 0 then (if bt498.2 = 0 then (if bt502.2 = 0 then ((affidavitref01_Same.f kj36 t494 bt502.1).bind fun t507 => (some t507)) else (none)) else (none)) else (none)) else (none))))) = some r := H
                        have A57 := Aside0.mk A570
                        clear A570
                        replace H := Option.bind_eq_some_iff.mp H
                        obtain ⟨⟨t498, t501⟩, A580, H⟩ := H
                        replace H : ((poly_Monic.f kj36 a0 t498).bind fun bt502 => ((affidavitref01_Same.f kj36 t486 t446).bind fun t506 => (if t506 = true then (if t493 = 0 then (if t501 = 0 then (if bt502.2 = 0 then ((affidavitref01_Same.f kj36 t494 bt502.1).bind fun t507 => (some t507)) else (none)) else (none)) else (none)) else (none)))) = some r := H
                        have A58 := Aside0.mk A580
                        clear A580
                        replace H := Option.bind_eq_some_iff.mp H
                        obtain ⟨⟨t502, t505⟩, A590, H⟩ := H
                        replace H : ((affidavitref01_Same.f kj36 t486 t446).bind fun t506 => (if t506 = true then (if t493 = 0 then (if t501 = 0 then (if t505 = 0 then ((affidavitref01_Same.f kj36 t494 t502).bind fun t507 => (some t507)) else (none)) else (none)) else (none)) else (none))) = some r := H
                        have A59 := Aside0.mk A590
                        clear A590
                        replace H := Option.bind_eq_some_iff.mp H
                        obtain ⟨t506, A600, H⟩ := H
                        replace H : (if t506 = true then (if t493 = 0 then (if t501 = 0 then (if t505 = 0 then ((affidavitref01_Same.f kj36 t494 t502).bind fun t507 => (some t507)) else (none)) else (none)) else (none)) else (none)) = some r := H
                        have A60 := Aside0.mk A600
                        clear A600
                        by_cases c61 : t506 = true
                        · subst c61
                          have H1 : (if t493 = 0 then (if t501 = 0 then (if t505 = 0 then ((affidavitref01_Same.f kj36 t494 t502).bind fun t507 => (some t507)) else (none)) else (none)) else (none)) = some r := by rw [if_pos rfl] at H; exact H
                          clear H
                          have H := H1
                          clear H1
                          by_cases c62 : t493 = 0
                          · rw [if_pos c62] at H
                            have c62b0 : (t493 == 0) = true := beq_iff_eq.mpr c62
                            have c62b1 : (t493 != 0) = false := bne_eq_false_iff_eq.mpr c62
                            clear c62
                            by_cases c63 : t501 = 0
                            · rw [if_pos c63] at H
                              have c63b0 : (t501 == 0) = true := beq_iff_eq.mpr c63
                              have c63b1 : (t501 != 0) = false := bne_eq_false_iff_eq.mpr c63
                              clear c63
                              by_cases c64 : t505 = 0
                              · rw [if_pos c64] at H
                                have c64b0 : (t505 == 0) = true := beq_iff_eq.mpr c64
                                have c64b1 : (t505 != 0) = false := bne_eq_false_iff_eq.mpr c64
                                clear c64
                                replace H := Option.bind_eq_some_iff.mp H
                                obtain ⟨t507, A650, H⟩ := H
                                replace H : (some t507) = some r := H
                                have A65 := Aside0.mk A650
                                clear A650
                                obtain rfl := Option.some.inj H
                                obtain ⟨Ao66, co66, eo66⟩ := Kd.V_slice HO_14.out
                                subst eo66
                                go_wp2_with (first | ((with_reducible refine gate_callee (f := 36) rfl ?_); refine goesL_ (some 177) rfl rfl Try.func36 (by kernel_rfl) rfl #[.int .u64 a0, .slice Ao66 t449.length co66, .slice Ao28 t438.length co28] rfl (by (try simp only [List.map_toArray, List.map_cons, List.map_nil]); first | done | rfl | (simp only [List.length_drop, List.length_take]; rfl)) ?_; (with_reducible refine (poly_Mul.calls kj36 a0 _ _ t449 _ _ t438 t478 t481 _ ?side1 ?side2 ?side3 ?side4 A53.out).mono ?_); (case side1 => repeat (first | exact (Kd.V_reads' HO_14.out).2.2 | (with_reducible refine Kd.C_alloc ?_ _) | (with_reducible refine Kd.C_drewN ?_ _) | (with_reducible refine Kd.C_drew ?_))); (case side2 => exact (Kd.V_reads' HO_14.out).2.1); (case side3 => repeat (first | exact (Kd.V_reads' HO_9.out).2.2 | (with_reducible refine Kd.C_alloc ?_ _) | (with_reducible refine Kd.C_drewN ?_ _) | (with_reducible refine Kd.C_drew ?_))); (case side4 => exact (Kd.V_reads' HO_9.out).2.1); rintro e w67 ⟨v479, rfl, ho0, hb⟩; refine ⟨_, rfl, ?_⟩; have n0_ := Aside0.mk (Kd.V_below (by (with_reducible repeat (first | apply Kd.V_alloc | apply Kd.V_drewN | apply Kd.V_drew)); exact HO_9.out) hb); have n1_ := Aside0.mk (Kd.V_below (by (with_reducible repeat (first | apply Kd.V_alloc | apply Kd.V_drewN | apply Kd.V_drew)); exact HO_11.out) hb); have n2_ := Aside0.mk (Kd.V_below (by (with_reducible repeat (first | apply Kd.V_alloc | apply Kd.V_drewN | apply Kd.V_drew)); exact HO_13.out) hb); have n3_ := Aside0.mk (Kd.V_below (by (with_reducible repeat (first | apply Kd.V_alloc | apply Kd.V_drewN | apply Kd.V_drew)); exact HO_14.out) hb); have n4_ := Aside0.mk (Kd.V_below (by (with_reducible repeat (first | apply Kd.V_alloc | apply Kd.V_drewN | apply Kd.V_drew)); exact HO_15.out) hb); have n5_ := Aside0.mk (Kd.V_lower (Kd.V_mono (ok' := fun k_ => True) ho0 (fun k_ hk_ => trivial)) (below_size (by repeat (first | (with_reducible first | exact HB.out | apply below_alloc | apply pw_below_drewN | apply below_drew1) | exact HB.out)))); have n6_ := Aside0.mk (below_step (by repeat (first | (with_reducible first | exact HB.out | apply below_alloc | apply pw_below_drewN | apply below_drew1) | exact HB.out)) hb); clear HO_9; clear HO_11; clear HO_13; clear HO_14; clear HO_15; clear HB; have HO_9 := n0_; have HO_11 := n1_; have HO_13 := n2_; have HO_14 := n3_; have HO_15 := n4_; have HO480 := n5_; have HB := n6_; clear n0_ n1_ n2_ n3_ n4_ n5_ n6_; (try clear hb); (try clear hb2); (try clear hk); (try clear hi); (try clear ho0); obtain ⟨Ao68, co68, eo68⟩ := Kd.V_slice HO_15.out; subst eo68) | ((with_reducible refine gate_callee (f := 36) rfl ?_); refine goesL_ (some 184) rfl rfl Try.func36 (by kernel_rfl) rfl #[.int .u64 a0, .slice Ao68 t452.length co68, .slice Ao29 t442.length co29] rfl (by (try simp only [List.map_toArray, List.map_cons, List.map_nil]); first | done | rfl | (simp only [List.length_drop, List.length_take]; rfl)) ?_; (with_reducible refine (poly_Mul.calls kj36 a0 _ _ t452 _ _ t442 t482 t485 _ ?side1 ?side2 ?side3 ?side4 A54.out).mono ?_); (case side1 => repeat (first | exact (Kd.V_reads' HO_15.out).2.2 | (with_reducible refine Kd.C_alloc ?_ _) | (with_reducible refine Kd.C_drewN ?_ _) | (with_reducible refine Kd.C_drew ?_))); (case side2 => exact (Kd.V_reads' HO_15.out).2.1); (case side3 => repeat (first | exact (Kd.V_reads' HO_11.out).2.2 | (with_reducible refine Kd.C_alloc ?_ _) | (with_reducible refine Kd.C_drewN ?_ _) | (with_reducible refine Kd.C_drew ?_))); (case side4 => exact (Kd.V_reads' HO_11.out).2.1); rintro e w69 ⟨v483, rfl, ho0, hb⟩; refine ⟨_, rfl, ?_⟩; have n0_ := Aside0.mk (Kd.V_below (by (with_reducible repeat (first | apply Kd.V_alloc | apply Kd.V_drewN | apply Kd.V_drew)); exact HO_9.out) hb); have n1_ := Aside0.mk (Kd.V_below (by (with_reducible repeat (first | apply Kd.V_alloc | apply Kd.V_drewN | apply Kd.V_drew)); exact HO_11.out) hb); have n2_ := Aside0.mk (Kd.V_below (by (with_reducible repeat (first | apply Kd.V_alloc | apply Kd.V_drewN | apply Kd.V_drew)); exact HO_13.out) hb); have n3_ := Aside0.mk (Kd.V_below (by (with_reducible repeat (first | apply Kd.V_alloc | apply Kd.V_drewN | apply Kd.V_drew)); exact HO_14.out) hb); have n4_ := Aside0.mk (Kd.V_below (by (with_reducible repeat (first | apply Kd.V_alloc | apply Kd.V_drewN | apply Kd.V_drew)); exact HO_15.out) hb); have n5_ := Aside0.mk (Kd.V_below (by (with_reducible repeat (first | apply Kd.V_alloc | apply Kd.V_drewN | apply Kd.V_drew)); exact HO480.out) hb); have n6_ := Aside0.mk (Kd.V_lower (Kd.V_mono (ok' := fun k_ => True) ho0 (fun k_ hk_ => trivial)) (below_size (by repeat (first | (with_reducible first | exact HB.out | apply below_alloc | apply pw_below_drewN | apply below_drew1) | exact HB.out)))); have n7_ := Aside0.mk (below_step (by repeat (first | (with_reducible first | exact HB.out | apply below_alloc | apply pw_below_drewN | apply below_drew1) | exact HB.out)) hb); clear HO_9; clear HO_11; clear HO_13; clear HO_14; clear HO_15; clear HO480; clear HB; have HO_9 := n0_; have HO_11 := n1_; have HO_13 := n2_; have HO_14 := n3_; have HO_15 := n4_; have HO480 := n5_; have HO484 := n6_; have HB := n7_; clear n0_ n1_ n2_ n3_ n4_ n5_ n6_ n7_; (try clear hb); (try clear hb2); (try clear hk); (try clear hi); (try clear ho0); obtain ⟨Ao70, co70, eo70⟩ := Kd.V_slice HO480.out; subst eo70; obtain ⟨Ao71, co71, eo71⟩ := Kd.V_slice HO484.out; subst eo71) | ((with_reducible refine gate_callee (f := 42) rfl ?_); refine goesL_ (some 191) rfl rfl Try.func42 (by kernel_rfl) rfl #[.int .u64 a0, .slice Ao70 t478.length co70, .slice Ao71 t482.length co71] rfl (by (try simp only [List.map_toArray, List.map_cons, List.map_nil]); first | done | rfl | (simp only [List.length_drop, List.length_take]; rfl)) ?_; (with_reducible refine (poly_Add.calls kj36 a0 _ _ t478 _ _ t482 t486 t489 _ ?side1 ?side2 ?side3 ?side4 A55.out).mono ?_); (case side1 => repeat (first | exact (Kd.V_reads' HO480.out).2.2 | (with_reducible refine Kd.C_alloc ?_ _) | (with_reducible refine Kd.C_drewN ?_ _) | (with_reducible refine Kd.C_drew ?_))); (case side2 => exact (Kd.V_reads' HO480.out).2.1); (case side3 => repeat (first | exact (Kd.V_reads' HO484.out).2.2 | (with_reducible refine Kd.C_alloc ?_ _) | (with_reducible refine Kd.C_drewN ?_ _) | (with_reducible refine Kd.C_drew ?_))); (case side4 => exact (Kd.V_reads' HO484.out).2.1); rintro e w72 ⟨v487, rfl, ho0, hb⟩; refine ⟨_, rfl, ?_⟩; have n0_ := Aside0.mk (Kd.V_below (by (with_reducible repeat (first | apply Kd.V_alloc | apply Kd.V_drewN | apply Kd.V_drew)); exact HO_9.out) hb); have n1_ := Aside0.mk (Kd.V_below (by (with_reducible repeat (first | apply Kd.V_alloc | apply Kd.V_drewN | apply Kd.V_drew)); exact HO_11.out) hb); have n2_ := Aside0.mk (Kd.V_below (by (with_reducible repeat (first | apply Kd.V_alloc | apply Kd.V_drewN | apply Kd.V_drew)); exact HO_13.out) hb); have n3_ := Aside0.mk (Kd.V_below (by (with_reducible repeat (first | apply Kd.V_alloc | apply Kd.V_drewN | apply Kd.V_drew)); exact HO_14.out) hb); have n4_ := Aside0.mk (Kd.V_below (by (with_reducible repeat (first | apply Kd.V_alloc | apply Kd.V_drewN | apply Kd.V_drew)); exact HO_15.out) hb); have n5_ := Aside0.mk (Kd.V_below (by (with_reducible repeat (first | apply Kd.V_alloc | apply Kd.V_drewN | apply Kd.V_drew)); exact HO480.out) hb); have n6_ := Aside0.mk (Kd.V_below (by (with_reducible repeat (first | apply Kd.V_alloc | apply Kd.V_drewN | apply Kd.V_drew)); exact HO484.out) hb); have n7_ := Aside0.mk (Kd.V_lower (Kd.V_mono (ok' := fun k_ => True) ho0 (fun k_ hk_ => trivial)) (below_size (by repeat (first | (with_reducible first | exact HB.out | apply below_alloc | apply pw_below_drewN | apply below_drew1) | exact HB.out)))); have n8_ := Aside0.mk (below_step (by repeat (first | (with_reducible first | exact HB.out | apply below_alloc | apply pw_below_drewN | apply below_drew1) | exact HB.out)) hb); clear HO_9; clear HO_11; clear HO_13; clear HO_14; clear HO_15; clear HO480; clear HO484; clear HB; have HO_9 := n0_; have HO_11 := n1_; have HO_13 := n2_; have HO_14 := n3_; have HO_15 := n4_; have HO480 := n5_; have HO484 := n6_; have HO488 := n7_; have HB := n8_; clear n0_ n1_ n2_ n3_ n4_ n5_ n6_ n7_ n8_; (try clear hb); (try clear hb2); (try clear hk); (try clear hi); (try clear ho0)) | ((with_reducible refine gate_callee (f := 41) rfl ?_); refine goesL_ (some 198) rfl rfl Try.func41 (by kernel_rfl) rfl #[.int .u64 a0, .slice Ao28 t438.length co28, .slice Ao29 t442.length co29] rfl (by (try simp only [List.map_toArray, List.map_cons, List.map_nil]); first | done | rfl | (simp only [List.length_drop, List.length_take]; rfl)) ?_; (with_reducible refine (poly_Lcm.calls kj36 a0 _ _ t438 _ _ t442 t490 t493 _ ?side1 ?side2 ?side3 ?side4 A56.out).mono ?_); (case side1 => repeat (first | exact (Kd.V_reads' HO_9.out).2.2 | (with_reducible refine Kd.C_alloc ?_ _) | (with_reducible refine Kd.C_drewN ?_ _) | (with_reducible refine Kd.C_drew ?_))); (case side2 => exact (Kd.V_reads' HO_9.out).2.1); (case side3 => repeat (first | exact (Kd.V_reads' HO_11.out).2.2 | (with_reducible refine Kd.C_alloc ?_ _) | (with_reducible refine Kd.C_drewN ?_ _) | (with_reducible refine Kd.C_drew ?_))); (case side4 => exact (Kd.V_reads' HO_11.out).2.1); rintro e w73 ⟨v491, rfl, ho0, hb⟩; refine ⟨_, rfl, ?_⟩; have n0_ := Aside0.mk (Kd.V_below (by (with_reducible repeat (first | apply Kd.V_alloc | apply Kd.V_drewN | apply Kd.V_drew)); exact HO_9.out) hb); have n1_ := Aside0.mk (Kd.V_below (by (with_reducible repeat (first | apply Kd.V_alloc | apply Kd.V_drewN | apply Kd.V_drew)); exact HO_11.out) hb); have n2_ := Aside0.mk (Kd.V_below (by (with_reducible repeat (first | apply Kd.V_alloc | apply Kd.V_drewN | apply Kd.V_drew)); exact HO_13.out) hb); have n3_ := Aside0.mk (Kd.V_below (by (with_reducible repeat (first | apply Kd.V_alloc | apply Kd.V_drewN | apply Kd.V_drew)); exact HO_14.out) hb); have n4_ := Aside0.mk (Kd.V_below (by (with_reducible repeat (first | apply Kd.V_alloc | apply Kd.V_drewN | apply Kd.V_drew)); exact HO_15.out) hb); have n5_ := Aside0.mk (Kd.V_below (by (with_reducible repeat (first | apply Kd.V_alloc | apply Kd.V_drewN | apply Kd.V_drew)); exact HO480.out) hb); have n6_ := Aside0.mk (Kd.V_below (by (with_reducible repeat (first | apply Kd.V_alloc | apply Kd.V_drewN | apply Kd.V_drew)); exact HO484.out) hb); have n7_ := Aside0.mk (Kd.V_below (by (with_reducible repeat (first | apply Kd.V_alloc | apply Kd.V_drewN | apply Kd.V_drew)); exact HO488.out) hb); have n8_ := Aside0.mk (Kd.V_lower (Kd.V_mono (ok' := fun k_ => True) ho0 (fun k_ hk_ => trivial)) (below_size (by repeat (first | (with_reducible first | exact HB.out | apply below_alloc | apply pw_below_drewN | apply below_drew1) | exact HB.out)))); have n9_ := Aside0.mk (below_step (by repeat (first | (with_reducible first | exact HB.out | apply below_alloc | apply pw_below_drewN | apply below_drew1) | exact HB.out)) hb); clear HO_9; clear HO_11; clear HO_13; clear HO_14; clear HO_15; clear HO480; clear HO484; clear HO488; clear HB; have HO_9 := n0_; have HO_11 := n1_; have HO_13 := n2_; have HO_14 := n3_; have HO_15 := n4_; have HO480 := n5_; have HO484 := n6_; have HO488 := n7_; have HO492 := n8_; have HB := n9_; clear n0_ n1_ n2_ n3_ n4_ n5_ n6_ n7_ n8_ n9_; (try clear hb); (try clear hb2); (try clear hk); (try clear hi); (try clear ho0); obtain ⟨Ao74, co74, eo74⟩ := Kd.V_slice HO492.out; subst eo74) | ((with_reducible refine gate_callee (f := 36) rfl ?_); refine goesL_ (some 205) rfl rfl Try.func36 (by kernel_rfl) rfl #[.int .u64 a0, .slice Ao74 t490.length co74, .slice Ao38 t446.length co38] rfl (by (try simp only [List.map_toArray, List.map_cons, List.map_nil]); first | done | rfl | (simp only [List.length_drop, List.length_take]; rfl)) ?_; (with_reducible refine (poly_Mul.calls kj36 a0 _ _ t490 _ _ t446 t494 t497 _ ?side1 ?side2 ?side3 ?side4 A57.out).mono ?_); (case side1 => repeat (first | exact (Kd.V_reads' HO492.out).2.2 | (with_reducible refine Kd.C_alloc ?_ _) | (with_reducible refine Kd.C_drewN ?_ _) | (with_reducible refine Kd.C_drew ?_))); (case side2 => exact (Kd.V_reads' HO492.out).2.1); (case side3 => repeat (first | exact (Kd.V_reads' HO_13.out).2.2 | (with_reducible refine Kd.C_alloc ?_ _) | (with_reducible refine Kd.C_drewN ?_ _) | (with_reducible refine Kd.C_drew ?_))); (case side4 => exact (Kd.V_reads' HO_13.out).2.1); rintro e w75 ⟨v495, rfl, ho0, hb⟩; refine ⟨_, rfl, ?_⟩; have n0_ := Aside0.mk (Kd.V_below (by (with_reducible repeat (first | apply Kd.V_alloc | apply Kd.V_drewN | apply Kd.V_drew)); exact HO_9.out) hb); have n1_ := Aside0.mk (Kd.V_below (by (with_reducible repeat (first | apply Kd.V_alloc | apply Kd.V_drewN | apply Kd.V_drew)); exact HO_11.out) hb); have n2_ := Aside0.mk (Kd.V_below (by (with_reducible repeat (first | apply Kd.V_alloc | apply Kd.V_drewN | apply Kd.V_drew)); exact HO_13.out) hb); have n3_ := Aside0.mk (Kd.V_below (by (with_reducible repeat (first | apply Kd.V_alloc | apply Kd.V_drewN | apply Kd.V_drew)); exact HO_14.out) hb); have n4_ := Aside0.mk (Kd.V_below (by (with_reducible repeat (first | apply Kd.V_alloc | apply Kd.V_drewN | apply Kd.V_drew)); exact HO_15.out) hb); have n5_ := Aside0.mk (Kd.V_below (by (with_reducible repeat (first | apply Kd.V_alloc | apply Kd.V_drewN | apply Kd.V_drew)); exact HO480.out) hb); have n6_ := Aside0.mk (Kd.V_below (by (with_reducible repeat (first | apply Kd.V_alloc | apply Kd.V_drewN | apply Kd.V_drew)); exact HO484.out) hb); have n7_ := Aside0.mk (Kd.V_below (by (with_reducible repeat (first | apply Kd.V_alloc | apply Kd.V_drewN | apply Kd.V_drew)); exact HO488.out) hb); have n8_ := Aside0.mk (Kd.V_below (by (with_reducible repeat (first | apply Kd.V_alloc | apply Kd.V_drewN | apply Kd.V_drew)); exact HO492.out) hb); have n9_ := Aside0.mk (Kd.V_lower (Kd.V_mono (ok' := fun k_ => True) ho0 (fun k_ hk_ => trivial)) (below_size (by repeat (first | (with_reducible first | exact HB.out | apply below_alloc | apply pw_below_drewN | apply below_drew1) | exact HB.out)))); have n10_ := Aside0.mk (below_step (by repeat (first | (with_reducible first | exact HB.out | apply below_alloc | apply pw_below_drewN | apply below_drew1) | exact HB.out)) hb); clear HO_9; clear HO_11; clear HO_13; clear HO_14; clear HO_15; clear HO480; clear HO484; clear HO488; clear HO492; clear HB; have HO_9 := n0_; have HO_11 := n1_; have HO_13 := n2_; have HO_14 := n3_; have HO_15 := n4_; have HO480 := n5_; have HO484 := n6_; have HO488 := n7_; have HO492 := n8_; have HO496 := n9_; have HB := n10_; clear n0_ n1_ n2_ n3_ n4_ n5_ n6_ n7_ n8_ n9_ n10_; (try clear hb); (try clear hb2); (try clear hk); (try clear hi); (try clear ho0)) | ((with_reducible refine gate_callee (f := 36) rfl ?_); refine goesL_ (some 212) rfl rfl Try.func36 (by kernel_rfl) rfl #[.int .u64 a0, .slice Ao28 t438.length co28, .slice Ao29 t442.length co29] rfl (by (try simp only [List.map_toArray, List.map_cons, List.map_nil]); first | done | rfl | (simp only [List.length_drop, List.length_take]; rfl)) ?_; (with_reducible refine (poly_Mul.calls kj36 a0 _ _ t438 _ _ t442 t498 t501 _ ?side1 ?side2 ?side3 ?side4 A58.out).mono ?_); (case side1 => repeat (first | exact (Kd.V_reads' HO_9.out).2.2 | (with_reducible refine Kd.C_alloc ?_ _) | (with_reducible refine Kd.C_drewN ?_ _) | (with_reducible refine Kd.C_drew ?_))); (case side2 => exact (Kd.V_reads' HO_9.out).2.1); (case side3 => repeat (first | exact (Kd.V_reads' HO_11.out).2.2 | (with_reducible refine Kd.C_alloc ?_ _) | (with_reducible refine Kd.C_drewN ?_ _) | (with_reducible refine Kd.C_drew ?_))); (case side4 => exact (Kd.V_reads' HO_11.out).2.1); rintro e w76 ⟨v499, rfl, ho0, hb⟩; refine ⟨_, rfl, ?_⟩; have n0_ := Aside0.mk (Kd.V_below (by (with_reducible repeat (first | apply Kd.V_alloc | apply Kd.V_drewN | apply Kd.V_drew)); exact HO_9.out) hb); have n1_ := Aside0.mk (Kd.V_below (by (with_reducible repeat (first | apply Kd.V_alloc | apply Kd.V_drewN | apply Kd.V_drew)); exact HO_11.out) hb); have n2_ := Aside0.mk (Kd.V_below (by (with_reducible repeat (first | apply Kd.V_alloc | apply Kd.V_drewN | apply Kd.V_drew)); exact HO_13.out) hb); have n3_ := Aside0.mk (Kd.V_below (by (with_reducible repeat (first | apply Kd.V_alloc | apply Kd.V_drewN | apply Kd.V_drew)); exact HO_14.out) hb); have n4_ := Aside0.mk (Kd.V_below (by (with_reducible repeat (first | apply Kd.V_alloc | apply Kd.V_drewN | apply Kd.V_drew)); exact HO_15.out) hb); have n5_ := Aside0.mk (Kd.V_below (by (with_reducible repeat (first | apply Kd.V_alloc | apply Kd.V_drewN | apply Kd.V_drew)); exact HO480.out) hb); have n6_ := Aside0.mk (Kd.V_below (by (with_reducible repeat (first | apply Kd.V_alloc | apply Kd.V_drewN | apply Kd.V_drew)); exact HO484.out) hb); have n7_ := Aside0.mk (Kd.V_below (by (with_reducible repeat (first | apply Kd.V_alloc | apply Kd.V_drewN | apply Kd.V_drew)); exact HO488.out) hb); have n8_ := Aside0.mk (Kd.V_below (by (with_reducible repeat (first | apply Kd.V_alloc | apply Kd.V_drewN | apply Kd.V_drew)); exact HO492.out) hb); have n9_ := Aside0.mk (Kd.V_below (by (with_reducible repeat (first | apply Kd.V_alloc | apply Kd.V_drewN | apply Kd.V_drew)); exact HO496.out) hb); have n10_ := Aside0.mk (Kd.V_lower (Kd.V_mono (ok' := fun k_ => True) ho0 (fun k_ hk_ => trivial)) (below_size (by repeat (first | (with_reducible first | exact HB.out | apply below_alloc | apply pw_below_drewN | apply below_drew1) | exact HB.out)))); have n11_ := Aside0.mk (below_step (by repeat (first | (with_reducible first | exact HB.out | apply below_alloc | apply pw_below_drewN | apply below_drew1) | exact HB.out)) hb); clear HO_9; clear HO_11; clear HO_13; clear HO_14; clear HO_15; clear HO480; clear HO484; clear HO488; clear HO492; clear HO496; clear HB; have HO_9 := n0_; have HO_11 := n1_; have HO_13 := n2_; have HO_14 := n3_; have HO_15 := n4_; have HO480 := n5_; have HO484 := n6_; have HO488 := n7_; have HO492 := n8_; have HO496 := n9_; have HO500 := n10_; have HB := n11_; clear n0_ n1_ n2_ n3_ n4_ n5_ n6_ n7_ n8_ n9_ n10_ n11_; (try clear hb); (try clear hb2); (try clear hk); (try clear hi); (try clear ho0); obtain ⟨Ao77, co77, eo77⟩ := Kd.V_slice HO500.out; subst eo77) | ((with_reducible refine gate_callee (f := 38) rfl ?_); refine goesL_ (some 218) rfl rfl Try.func38 (by kernel_rfl) rfl #[.int .u64 a0, .slice Ao77 t498.length co77] rfl (by (try simp only [List.map_toArray, List.map_cons, List.map_nil]); first | done | rfl | (simp only [List.length_drop, List.length_take]; rfl)) ?_; (with_reducible refine (poly_Monic.calls kj36 a0 _ _ t498 t502 t505 _ ?side1 ?side2 A59.out).mono ?_); (case side1 => repeat (first | exact (Kd.V_reads' HO500.out).2.2 | (with_reducible refine Kd.C_alloc ?_ _) | (with_reducible refine Kd.C_drewN ?_ _) | (with_reducible refine Kd.C_drew ?_))); (case side2 => exact (Kd.V_reads' HO500.out).2.1); rintro e w78 ⟨v503, rfl, ho0, hb⟩; refine ⟨_, rfl, ?_⟩; have n0_ := Aside0.mk (Kd.V_below (by (with_reducible repeat (first | apply Kd.V_alloc | apply Kd.V_drewN | apply Kd.V_drew)); exact HO_9.out) hb); have n1_ := Aside0.mk (Kd.V_below (by (with_reducible repeat (first | apply Kd.V_alloc | apply Kd.V_drewN | apply Kd.V_drew)); exact HO_11.out) hb); have n2_ := Aside0.mk (Kd.V_below (by (with_reducible repeat (first | apply Kd.V_alloc | apply Kd.V_drewN | apply Kd.V_drew)); exact HO_13.out) hb); have n3_ := Aside0.mk (Kd.V_below (by (with_reducible repeat (first | apply Kd.V_alloc | apply Kd.V_drewN | apply Kd.V_drew)); exact HO_14.out) hb); have n4_ := Aside0.mk (Kd.V_below (by (with_reducible repeat (first | apply Kd.V_alloc | apply Kd.V_drewN | apply Kd.V_drew)); exact HO_15.out) hb); have n5_ := Aside0.mk (Kd.V_below (by (with_reducible repeat (first | apply Kd.V_alloc | apply Kd.V_drewN | apply Kd.V_drew)); exact HO480.out) hb); have n6_ := Aside0.mk (Kd.V_below (by (with_reducible repeat (first | apply Kd.V_alloc | apply Kd.V_drewN | apply Kd.V_drew)); exact HO484.out) hb); have n7_ := Aside0.mk (Kd.V_below (by (with_reducible repeat (first | apply Kd.V_alloc | apply Kd.V_drewN | apply Kd.V_drew)); exact HO488.out) hb); have n8_ := Aside0.mk (Kd.V_below (by (with_reducible repeat (first | apply Kd.V_alloc | apply Kd.V_drewN | apply Kd.V_drew)); exact HO492.out) hb); have n9_ := Aside0.mk (Kd.V_below (by (with_reducible repeat (first | apply Kd.V_alloc | apply Kd.V_drewN | apply Kd.V_drew)); exact HO496.out) hb); have n10_ := Aside0.mk (Kd.V_below (by (with_reducible repeat (first | apply Kd.V_alloc | apply Kd.V_drewN | apply Kd.V_drew)); exact HO500.out) hb); have n11_ := Aside0.mk (Kd.V_lower (Kd.V_mono (ok' := fun k_ => True) ho0 (fun k_ hk_ => trivial)) (below_size (by repeat (first | (with_reducible first | exact HB.out | apply below_alloc | apply pw_below_drewN | apply below_drew1) | exact HB.out)))); have n12_ := Aside0.mk (below_step (by repeat (first | (with_reducible first | exact HB.out | apply below_alloc | apply pw_below_drewN | apply below_drew1) | exact HB.out)) hb); clear HO_9; clear HO_11; clear HO_13; clear HO_14; clear HO_15; clear HO480; clear HO484; clear HO488; clear HO492; clear HO496; clear HO500; clear HB; have HO_9 := n0_; have HO_11 := n1_; have HO_13 := n2_; have HO_14 := n3_; have HO_15 := n4_; have HO480 := n5_; have HO484 := n6_; have HO488 := n7_; have HO492 := n8_; have HO496 := n9_; have HO500 := n10_; have HO504 := n11_; have HB := n12_; clear n0_ n1_ n2_ n3_ n4_ n5_ n6_ n7_ n8_ n9_ n10_ n11_ n12_; (try clear hb); (try clear hb2); (try clear hk); (try clear hi); (try clear ho0); obtain ⟨Ao79, co79, eo79⟩ := Kd.V_slice HO488.out; subst eo79) | ((with_reducible refine gate_callee (f := 21) rfl ?_); refine goesL_ (some 223) rfl rfl Try.func21 (by kernel_rfl) rfl #[.slice Ao79 t486.length co79, .slice Ao38 t446.length co38] rfl (by (try simp only [List.map_toArray, List.map_cons, List.map_nil]); first | done | rfl | (simp only [List.length_drop, List.length_take]; rfl)) ?_; (with_reducible refine (affidavitref01_Same.calls kj36 _ _ t486 _ _ t446 true _ ?side1 ?side2 ?side3 ?side4 A60.out).mono ?_); (case side1 => repeat (first | exact (Kd.V_reads' HO488.out).2.2 | (with_reducible refine Kd.C_alloc ?_ _) | (with_reducible refine Kd.C_drewN ?_ _) | (with_reducible refine Kd.C_drew ?_))); (case side2 => exact (Kd.V_reads' HO488.out).2.1); (case side3 => repeat (first | exact (Kd.V_reads' HO_13.out).2.2 | (with_reducible refine Kd.C_alloc ?_ _) | (with_reducible refine Kd.C_drewN ?_ _) | (with_reducible refine Kd.C_drew ?_))); (case side4 => exact (Kd.V_reads' HO_13.out).2.1); rintro e w' ⟨rfl, ⟨nd, rfl⟩⟩; refine ⟨_, rfl, ?_⟩; obtain ⟨Ao80, co80, eo80⟩ := Kd.V_slice HO496.out; subst eo80; obtain ⟨Ao81, co81, eo81⟩ := Kd.V_slice HO504.out; subst eo81) | (go_at_call 21; (with_reducible refine (affidavitref01_Same.calls kj36 _ _ t494 _ _ t502 t507 _ ?side1 ?side2 ?side3 ?side4 A65.out).mono ?_); (case side1 => repeat (first | exact (Kd.V_reads' HO496.out).2.2 | (with_reducible refine Kd.C_alloc ?_ _) | (with_reducible refine Kd.C_drewN ?_ _) | (with_reducible refine Kd.C_drew ?_))); (case side2 => exact (Kd.V_reads' HO496.out).2.1); (case side3 => repeat (first | exact (Kd.V_reads' HO504.out).2.2 | (with_reducible refine Kd.C_alloc ?_ _) | (with_reducible refine Kd.C_drewN ?_ _) | (with_reducible refine Kd.C_drew ?_))); (case side4 => exact (Kd.V_reads' HO504.out).2.1); rintro e w' ⟨rfl, ⟨nd, rfl⟩⟩))
                                go_ret
                                exact ⟨by first | rfl | (simp [errW_none, errW_some] <;> rfl) | (simp [*, errW_none, errW_some] <;> rfl), by repeat (first | (with_reducible first | exact HB.out | apply below_alloc | apply pw_below_drewN | apply below_drew1) | exact HB.out)⟩
                              · rw [if_neg c64] at H
                                exact absurd H (by simp)
                            · rw [if_neg c63] at H
                              exact absurd H (by simp)
                          · rw [if_neg c62] at H
                            exact absurd H (by simp)
                        · replace c61 := Bool.eq_false_iff.mpr c61
                          subst c61
                          have H1 : (none) = some r := by rw [if_neg (show ¬ (false = true) by decide)] at H; exact H
                          clear H
                          have H := H1
                          clear H1
                          exact absurd H (by simp)
          · rw [if_neg c24] at H
            exact absurd H (by simp)
  · replace c6 := Bool.eq_false_iff.mpr c6
    subst c6
    have H1 : (none) = some r := by rw [if_neg (show ¬ (false = true) by decide)] at H; exact H
    clear H
    have H := H1
    clear H1
    exact absurd H (by simp)

/-- THE ONE PURE STATEMENT of affidavitlaw03_PolyGreatest: yours. -/
def affidavitlaw03_PolyGreatest.Pure : Prop := ∀ (a0 : Int) (l1 : List Int) (l2 : List Int) (l3 : List Int), (Lit.int .u64 a0).wf = true → l1.length ≤ maxLen → l1.length * 8 ≤ 140737488351232 → (∀ x ∈ l1, (Lit.int .u64 x).wf = true) → l2.length ≤ maxLen → l2.length * 8 ≤ 140737488351232 → (∀ x ∈ l2, (Lit.int .u64 x).wf = true) → l3.length ≤ maxLen → l3.length * 8 ≤ 140737488351232 → (∀ x ∈ l3, (Lit.int .u64 x).wf = true) → ∃ k, affidavitlaw03_PolyGreatest.f k a0 l1 l2 l3 = some true
theorem affidavitlaw03_PolyGreatest.walk (P : affidavitlaw03_PolyGreatest.Pure) (a0 : Int) (a1 : Option Addr) (len1 cap1 : Nat) (z1 : List Int) (a2 : Option Addr) (len2 cap2 : Nat) (z2 : List Int) (a3 : Option Addr) (len3 cap3 : Nat) (z3 : List Int) (w : World) (w0 : (Lit.int .u64 a0).wf = true) (w1 : (a1 = none ∧ len1 = 0 ∧ cap1 = 0 ∧ z1 = []) ∨ ∃ x, a1 = some x ∧ len1 ≤ cap1 ∧ cap1 ≤ maxLen ∧ z1.length = cap1 ∧ (∀ i, i < z1.length → w.cell? (x.add i) = some (.int .u64 (z1.getD i 0))) ∧ ∀ n ∈ z1, (Lit.int .u64 n).wf = true) (y1 : len1 * 8 ≤ 140737488351232) (w2 : (a2 = none ∧ len2 = 0 ∧ cap2 = 0 ∧ z2 = []) ∨ ∃ x, a2 = some x ∧ len2 ≤ cap2 ∧ cap2 ≤ maxLen ∧ z2.length = cap2 ∧ (∀ i, i < z2.length → w.cell? (x.add i) = some (.int .u64 (z2.getD i 0))) ∧ ∀ n ∈ z2, (Lit.int .u64 n).wf = true) (y2 : len2 * 8 ≤ 140737488351232) (w3 : (a3 = none ∧ len3 = 0 ∧ cap3 = 0 ∧ z3 = []) ∨ ∃ x, a3 = some x ∧ len3 ≤ cap3 ∧ cap3 ≤ maxLen ∧ z3.length = cap3 ∧ (∀ i, i < z3.length → w.cell? (x.add i) = some (.int .u64 (z3.getD i 0))) ∧ ∀ n ∈ z3, (Lit.int .u64 n).wf = true) (y3 : len3 * 8 ≤ 140737488351232) :
    Calls Try.prog 11 #[.int .u64 a0, .slice a1 len1 cap1, .slice a2 len2 cap2, .slice a3 len3 cap3] w fun e w' => e = .returned (.bool true) ∧ Below w.heap.size w w' := by
  obtain ⟨l1, rfl, hr1, hm1, hw1, hc1⟩ := ReadsInt.ofRowC w1
  obtain ⟨l2, rfl, hr2, hm2, hw2, hc2⟩ := ReadsInt.ofRowC w2
  obtain ⟨l3, rfl, hr3, hm3, hw3, hc3⟩ := ReadsInt.ofRowC w3
  obtain ⟨k, h⟩ := P a0 l1 l2 l3 w0 hm1 y1 hw1 hm2 y2 hw2 hm3 y3 hw3
  refine (affidavitlaw03_PolyGreatest.calls k a0 _ _ l1 _ _ l2 _ _ l3 true w (Kd.C_of_reads (d := (0 : Int)) (h1 := fun _ => rfl) hr1) hc1 (Kd.C_of_reads (d := (0 : Int)) (h1 := fun _ => rfl) hr2) hc2 (Kd.C_of_reads (d := (0 : Int)) (h1 := fun _ => rfl) hr3) hc3 h).mono ?_
  rintro e w' ⟨rfl, hd⟩
  exact ⟨rfl, hd⟩

end Go.Proofs.Ytffcjgelcdilcaa.PAll

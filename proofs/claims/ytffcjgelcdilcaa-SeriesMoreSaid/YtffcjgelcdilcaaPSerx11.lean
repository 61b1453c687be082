/- Contracts of functions of the given program: printed out of the translation by a program of this session, with texts by hand for what the print does not take. -/
import Derived.Test.YtffcjgelcdilcaaPSerx0
import Derived.Test.YtffcjgelcdilcaaPSerx1
import Derived.Test.YtffcjgelcdilcaaPSerx2
import Derived.Test.YtffcjgelcdilcaaPSerx4
import Derived.Test.YtffcjgelcdilcaaPSerx6
import Derived.Test.YtffcjgelcdilcaaPSerx7
import Derived.Test.YtffcjgelcdilcaaPSerx10
namespace Go.Proofs.Ytffcjgelcdilcaa.PSer
open Go.RowKit Go.Proofs.YtffcjgelcdilcaaW.PrintWords Go.Proofs.YtffcjgelcdilcaaW.PrintLast Go.Proofs.YtffcjgelcdilcaaW.PrintMore
attribute [local go_sem] max2_int min2_int max_two min_two max_three min_three max_four min_four   -- for this text's walks alone
set_option linter.unusedVariables false
set_option linter.unusedSimpArgs false

/-! ### affidavitlaw04_SeriesMore: function 5 -/
mutual
def affidavitlaw04_SeriesMore.j0 : Nat → Int → List Int → Int → Int → Bool → Option (Bool)
  | 0, _, _, _, _, _ => none
  | k + 1, x0, x1, x2, x3, x45 => if x45 = true then (some true) else ((series_Rule.f k x0 x1).bind fun bt332 => (if (wrap64 ((x1.length : Int) + 1)) = 0 then (none) else (if 0 ≤ (Int.tmod (wrap64 (x2)) (wrap64 ((x1.length : Int) + 1))) then (if (Int.tmod (wrap64 (x2)) (wrap64 ((x1.length : Int) + 1))) ≤ (x1.length : Int) then ((series_Rule.f k x0 (x1.take ((Int.tmod (wrap64 (x2)) (wrap64 ((x1.length : Int) + 1))) : Int).toNat)).bind fun bt337 => (if 0 ≤ (x1.length : Int) then (if ((x1.length : Int) : Int).toNat ≤ 35184372088832 then ((series_Rule.f k x0 (List.replicate ((x1.length : Int) : Int).toNat 0)).bind fun bt344 => (affidavitlaw04_SeriesMore.l0 k x0 x1 x3 bt332.1 bt332.2 bt337.1 bt337.2 bt344.1 bt344.2 ([] : List Int) 0)) else (none)) else (none))) else (none)) else (none))))
def affidavitlaw04_SeriesMore.l0 : Nat → Int → List Int → Int → List Int → Int → List Int → Int → List Int → Int → List Int → Int → Option (Bool)
  | 0, _, _, _, _, _, _, _, _, _, _, _ => none
  | k + 1, x0, x1, x3, x9, x10, x11, x12, x13, x14, x15, x16 => if x16 < (x1.length : Int) then (if 0 ≤ x16 then ((field_Mul.f k x0 (rd x1 x16) x3).bind fun bt349 => (if x15.length < 17592186044416 then (affidavitlaw04_SeriesMore.l0 k x0 x1 x3 x9 x10 x11 x12 x13 x14 (x15 ++ [bt349.1]) (wrap64 (x16 + 1))) else (none))) else (none)) else ((series_Rule.f k x0 x15).bind fun bt354 => (if x10 = 0 then (if x12 = 0 then (if x14 = 0 then (if bt354.2 = 0 then (if (x11.length : Int) ≤ (x9.length : Int) then (if (x13.length : Int) = 1 then (if (bt354.1.length : Int) = (x9.length : Int) then ((series_Obeys.f k x0 x15 x9).bind fun t358 => (if t358 = true then ((series_Obeys.f k x0 x1 bt354.1).bind fun t359 => (if t359 = true then (some (decide ((x9.length : Int) ≤ (wrap64 ((x1.length : Int) + 1))))) else (none))) else (none))) else (none)) else (none)) else (none)) else (none)) else (none)) else (none)) else (none)))
end
def affidavitlaw04_SeriesMore.f (k : Nat) (a0 : Int) (l1 : List Int) (a2 : Int) (a3 : Int) : Option (Bool) := (affidavitlaw04_awake.f k).bind fun t329 => (if t329 = true then ((affidavitlaw04_prime.f k a0).bind fun t330 => (if t330 = true then (if (l1.length : Int) > 60 then (affidavitlaw04_SeriesMore.j0 k a0 l1 a2 a3 true) else ((field_Has.f k a0 l1).bind fun t331 => (if t331 = true then (if a3 = 0 then (affidavitlaw04_SeriesMore.j0 k a0 l1 a2 a3 true) else (affidavitlaw04_SeriesMore.j0 k a0 l1 a2 a3 (decide (a3 ≥ a0)))) else (affidavitlaw04_SeriesMore.j0 k a0 l1 a2 a3 true)))) else (affidavitlaw04_SeriesMore.j0 k a0 l1 a2 a3 true))) else (none))
theorem affidavitlaw04_SeriesMore.mono_l : ∀ k, (∀ y0 y1 y2 y3 y4, LeO (affidavitlaw04_SeriesMore.j0 k y0 y1 y2 y3 y4) (affidavitlaw04_SeriesMore.j0 (k + 1) y0 y1 y2 y3 y4)) ∧ (∀ y0 y1 y2 y3 y4 y5 y6 y7 y8 y9 y10, LeO (affidavitlaw04_SeriesMore.l0 k y0 y1 y2 y3 y4 y5 y6 y7 y8 y9 y10) (affidavitlaw04_SeriesMore.l0 (k + 1) y0 y1 y2 y3 y4 y5 y6 y7 y8 y9 y10))
  | 0 => ⟨fun _ _ _ _ _ r h => by simp [affidavitlaw04_SeriesMore.j0] at h, fun _ _ _ _ _ _ _ _ _ _ _ r h => by simp [affidavitlaw04_SeriesMore.l0] at h⟩
  | k + 1 => by
    obtain ⟨ih0, ih1⟩ := affidavitlaw04_SeriesMore.mono_l k
    refine ⟨?_, ?_⟩
    · intro y0 y1 y2 y3 y4
      unfold affidavitlaw04_SeriesMore.j0
      repeat' first
      | (with_reducible exact ih0 _ _ _ _ _)
      | (with_reducible exact ih1 _ _ _ _ _ _ _ _ _ _ _)
      | (with_reducible exact affidavitlaw04_awake.mono _)
      | (with_reducible exact affidavitlaw04_prime.mono _ _)
      | (with_reducible exact field_Has.mono _ _ _)
      | (with_reducible exact field_Mul.mono _ _ _ _)
      | (with_reducible exact series_Obeys.mono _ _ _ _)
      | (with_reducible exact series_Rule.mono _ _ _)
      | (with_reducible exact LeO.refl _)
      | (with_reducible exact LeO.none _)
      | (with_reducible refine LeO.ite ?_ ?_)
      | (with_reducible refine LeO.bind ?_ (fun _ => ?_))
      | exact ih0 _ _ _ _ _
      | exact ih1 _ _ _ _ _ _ _ _ _ _ _
      | exact affidavitlaw04_awake.mono _
      | exact affidavitlaw04_prime.mono _ _
      | exact field_Has.mono _ _ _
      | exact field_Mul.mono _ _ _ _
      | exact series_Obeys.mono _ _ _ _
      | exact series_Rule.mono _ _ _
      | exact LeO.none _
      | refine LeO.ite ?_ ?_
      | refine LeO.bind ?_ (fun _ => ?_)
    · intro y0 y1 y2 y3 y4 y5 y6 y7 y8 y9 y10
      unfold affidavitlaw04_SeriesMore.l0
      repeat' first
      | (with_reducible exact ih0 _ _ _ _ _)
      | (with_reducible exact ih1 _ _ _ _ _ _ _ _ _ _ _)
      | (with_reducible exact affidavitlaw04_awake.mono _)
      | (with_reducible exact affidavitlaw04_prime.mono _ _)
      | (with_reducible exact field_Has.mono _ _ _)
      | (with_reducible exact field_Mul.mono _ _ _ _)
      | (with_reducible exact series_Obeys.mono _ _ _ _)
      | (with_reducible exact series_Rule.mono _ _ _)
      | (with_reducible exact LeO.refl _)
      | (with_reducible exact LeO.none _)
      | (with_reducible refine LeO.ite ?_ ?_)
      | (with_reducible refine LeO.bind ?_ (fun _ => ?_))
      | exact ih0 _ _ _ _ _
      | exact ih1 _ _ _ _ _ _ _ _ _ _ _
      | exact affidavitlaw04_awake.mono _
      | exact affidavitlaw04_prime.mono _ _
      | exact field_Has.mono _ _ _
      | exact field_Mul.mono _ _ _ _
      | exact series_Obeys.mono _ _ _ _
      | exact series_Rule.mono _ _ _
      | exact LeO.none _
      | refine LeO.ite ?_ ?_
      | refine LeO.bind ?_ (fun _ => ?_)
theorem affidavitlaw04_SeriesMore.mono : ∀ a0 a1 a2 a3 k, LeO (affidavitlaw04_SeriesMore.f k a0 a1 a2 a3) (affidavitlaw04_SeriesMore.f (k + 1) a0 a1 a2 a3) := by
  intro a0 a1 a2 a3 k
  obtain ⟨ih0, ih1⟩ := affidavitlaw04_SeriesMore.mono_l k
  unfold affidavitlaw04_SeriesMore.f
  repeat' first
      | (with_reducible exact ih0 _ _ _ _ _)
      | (with_reducible exact ih1 _ _ _ _ _ _ _ _ _ _ _)
      | (with_reducible exact affidavitlaw04_awake.mono _)
      | (with_reducible exact affidavitlaw04_prime.mono _ _)
      | (with_reducible exact field_Has.mono _ _ _)
      | (with_reducible exact field_Mul.mono _ _ _ _)
      | (with_reducible exact series_Obeys.mono _ _ _ _)
      | (with_reducible exact series_Rule.mono _ _ _)
      | (with_reducible exact LeO.refl _)
      | (with_reducible exact LeO.none _)
      | (with_reducible refine LeO.ite ?_ ?_)
      | (with_reducible refine LeO.bind ?_ (fun _ => ?_))
      | exact ih0 _ _ _ _ _
      | exact ih1 _ _ _ _ _ _ _ _ _ _ _
      | exact affidavitlaw04_awake.mono _
      | exact affidavitlaw04_prime.mono _ _
      | exact field_Has.mono _ _ _
      | exact field_Mul.mono _ _ _ _
      | exact series_Obeys.mono _ _ _ _
      | exact series_Rule.mono _ _ _
      | exact LeO.none _
      | refine LeO.ite ?_ ?_
      | refine LeO.bind ?_ (fun _ => ?_)
set_option maxHeartbeats 8000000 in
set_option maxRecDepth 100000 in
theorem affidavitlaw04_SeriesMore.calls (k : Nat) (a0 : Int) (A1 : Option Addr) (c1 : Nat) (l1 : List Int) (a2 : Int) (a3 : Int) (r : Bool) (w : World) (hr1 : Kd.C (Kd.int .u64) w A1 l1.length l1) (hc1 : l1.length ≤ c1) (h : affidavitlaw04_SeriesMore.f k a0 l1 a2 a3 = some r) :
    Calls Try.prog 5 #[.int .u64 a0, .slice A1 l1.length c1, .int .u8 a2, .int .u64 a3] w fun e w' => e = .returned (.bool r) ∧ Below w.heap.size w w' := by
  have HR1 := Aside0.mk hr1
  have HC1 := Aside0.mk hc1
  clear hr1 hc1
  have HB := Aside0.mk (Below.refl w.heap.size w)
  have H : ((affidavitlaw04_awake.f k).bind fun t329 => (if t329 = true then ((affidavitlaw04_prime.f k a0).bind fun t330 => (if t330 = true then (if (l1.length : Int) > 60 then (affidavitlaw04_SeriesMore.j0 k a0 l1 a2 a3 true) else ((field_Has.f k a0 l1).bind fun t331 => (if t331 = true then (if a3 = 0 then (affidavitlaw04_SeriesMore.j0 k a0 l1 a2 a3 true) else (affidavitlaw04_SeriesMore.j0 k a0 l1 a2 a3 (decide (a3 ≥ a0)))) else (affidavitlaw04_SeriesMore.j0 k a0 l1 a2 a3 true)))) else (affidavitlaw04_SeriesMore.j0 k a0 l1 a2 a3 true))) else (none))) = some r := h
  clear h
  replace H := Option.bind_eq_some_iff.mp H
  obtain ⟨t329, A50, H⟩ := H
  replace H : (if t329 = true then ((affidavitlaw04_prime.f k a0).bind fun t330 => (if t330 = true then (if (l1.length : Int) > 60 then (affidavitlaw04_SeriesMore.j0 k a0 l1 a2 a3 true) else ((field_Has.f k a0 l1).bind fun t331 => (if t331 = true then (if a3 = 0 then (affidavitlaw04_SeriesMore.j0 k a0 l1 a2 a3 true) else (affidavitlaw04_SeriesMore.j0 k a0 l1 a2 a3 (decide (a3 ≥ a0)))) else (affidavitlaw04_SeriesMore.j0 k a0 l1 a2 a3 true)))) else (affidavitlaw04_SeriesMore.j0 k a0 l1 a2 a3 true))) else (none)) = some r := H
  have A5 := Aside0.mk A50
  clear A50
  by_cases c6 : t329 = true
  · subst c6
    have H1 : ((affidavitlaw04_prime.f k a0).bind fun t330 => (if t330 = true then (if (l1.length : Int) > 60 then (affidavitlaw04_SeriesMore.j0 k a0 l1 a2 a3 true) else ((field_Has.f k a0 l1).bind fun t331 => (if t331 = true then (if a3 = 0 then (affidavitlaw04_SeriesMore.j0 k a0 l1 a2 a3 true) else (affidavitlaw04_SeriesMore.j0 k a0 l1 a2 a3 (decide (a3 ≥ a0)))) else (affidavitlaw04_SeriesMore.j0 k a0 l1 a2 a3 true)))) else (affidavitlaw04_SeriesMore.j0 k a0 l1 a2 a3 true))) = some r := by rw [if_pos rfl] at H; exact H
    clear H
    have H := H1
    clear H1
    have HC7 := Aside0.mk H
    clear H
    go_enter Try.func5, Try.ntmps5
    go_upto_region 3 with (first | ((with_reducible refine gate_callee (f := 14) rfl ?_); refine goesL_ (some 21) rfl rfl Try.func14 (by kernel_rfl) rfl #[] rfl (by (try simp only [List.map_toArray, List.map_cons, List.map_nil]); first | done | rfl | (simp only [List.length_drop, List.length_take]; rfl)) ?_; (with_reducible refine (affidavitlaw04_awake.calls k  true _ A5.out).mono ?_); rintro e w8 ⟨rfl, hb⟩; refine ⟨_, rfl, ?_⟩; have n0_ := Aside0.mk (below_step (by repeat (first | (with_reducible first | exact HB.out | apply below_alloc | apply pw_below_drewN | apply below_drew1) | exact HB.out)) hb); clear HB; have HB := n0_; clear n0_; (try clear hb); (try clear hb2); (try clear hk); (try clear hi)))
    (try simp only [Act.put, List.setIfInBounds_toArray, List.set_cons_zero, List.set_cons_succ])
    go_cut [45] (fun v45 wc => ∃ (kq : Nat) (x45_6 : Bool), v45 = .bool x45_6 ∧ Aside0 (affidavitlaw04_SeriesMore.j0 kq a0 l1 a2 a3 x45_6 = some r) ∧ Aside0 (kq ≤ k) ∧ Aside0 (Below w.heap.size w wc))
    case first =>
      have H := HC7.out
      clear HC7
      replace H := Option.bind_eq_some_iff.mp H
      obtain ⟨t330, A90, H⟩ := H
      replace H : (if t330 = true then (if (l1.length : Int) > 60 then (affidavitlaw04_SeriesMore.j0 k a0 l1 a2 a3 true) else ((field_Has.f k a0 l1).bind fun t331 => (if t331 = true then (if a3 = 0 then (affidavitlaw04_SeriesMore.j0 k a0 l1 a2 a3 true) else (affidavitlaw04_SeriesMore.j0 k a0 l1 a2 a3 (decide (a3 ≥ a0)))) else (affidavitlaw04_SeriesMore.j0 k a0 l1 a2 a3 true)))) else (affidavitlaw04_SeriesMore.j0 k a0 l1 a2 a3 true)) = some r := H
      have A9 := Aside0.mk A90
      clear A90
      by_cases c10 : t330 = true
      · subst c10
        have H1 : (if (l1.length : Int) > 60 then (affidavitlaw04_SeriesMore.j0 k a0 l1 a2 a3 true) else ((field_Has.f k a0 l1).bind fun t331 => (if t331 = true then (if a3 = 0 then (affidavitlaw04_SeriesMore.j0 k a0 l1 a2 a3 true) else (affidavitlaw04_SeriesMore.j0 k a0 l1 a2 a3 (decide (a3 ≥ a0)))) else (affidavitlaw04_SeriesMore.j0 k a0 l1 a2 a3 true)))) = some r := by rw [if_pos rfl] at H; exact H
        clear H
        have H := H1
        clear H1
        by_cases c11 : (l1.length : Int) > 60
        · rw [if_pos c11] at H
          have c11b0 : decide (60 < (l1.length : Int)) = true := decide_eq_true c11
          have c11b1 : decide (60 < l1.length) = true := decide_eq_true (by omega)
          clear c11
          (first | rw [c11b0] | (simp only [i64_w, i32_w]; rw [c11b0]) | skip)
          have H' := Aside0.mk H
          clear H
          go_wp2_with (first | ((with_reducible refine gate_callee (f := 26) rfl ?_); refine goesL_ (some 24) rfl rfl Try.func26 (by kernel_rfl) rfl #[.int .u64 a0] rfl (by (try simp only [List.map_toArray, List.map_cons, List.map_nil]); first | done | rfl | (simp only [List.length_drop, List.length_take]; rfl)) ?_; (with_reducible refine (affidavitlaw04_prime.calls k a0 true _ A9.out).mono ?_); rintro e w' ⟨rfl, ⟨nd, rfl⟩⟩; refine ⟨_, rfl, ?_⟩))
          go_meet
          case rel => exact ⟨_, (true), (by first | rfl | (simp; done) | (simp [*]; done)), H', ⟨by first | omega | exact Nat.le_refl _⟩, ⟨by repeat (first | (with_reducible first | exact HB.out | apply below_alloc | apply pw_below_drewN | apply below_drew1) | exact HB.out)⟩⟩
        · rw [if_neg c11] at H
          have c11b0 : decide (60 < (l1.length : Int)) = false := decide_eq_false c11
          have c11b1 : decide (60 < l1.length) = false := decide_eq_false (by omega)
          clear c11
          (first | rw [c11b0] | (simp only [i64_w, i32_w]; rw [c11b0]) | skip)
          replace H := Option.bind_eq_some_iff.mp H
          obtain ⟨t331, A120, H⟩ := H
          replace H : (if t331 = true then (if a3 = 0 then (affidavitlaw04_SeriesMore.j0 k a0 l1 a2 a3 true) else (affidavitlaw04_SeriesMore.j0 k a0 l1 a2 a3 (decide (a3 ≥ a0)))) else (affidavitlaw04_SeriesMore.j0 k a0 l1 a2 a3 true)) = some r := H
          have A12 := Aside0.mk A120
          clear A120
          by_cases c13 : t331 = true
          · subst c13
            have H1 : (if a3 = 0 then (affidavitlaw04_SeriesMore.j0 k a0 l1 a2 a3 true) else (affidavitlaw04_SeriesMore.j0 k a0 l1 a2 a3 (decide (a3 ≥ a0)))) = some r := by rw [if_pos rfl] at H; exact H
            clear H
            have H := H1
            clear H1
            by_cases c14 : a3 = 0
            · rw [if_pos c14] at H
              have c14b0 : (a3 == 0) = true := beq_iff_eq.mpr c14
              have c14b1 : (a3 != 0) = false := bne_eq_false_iff_eq.mpr c14
              clear c14
              have H' := Aside0.mk H
              clear H
              go_wp2_with (first | ((with_reducible refine gate_callee (f := 26) rfl ?_); refine goesL_ (some 24) rfl rfl Try.func26 (by kernel_rfl) rfl #[.int .u64 a0] rfl (by (try simp only [List.map_toArray, List.map_cons, List.map_nil]); first | done | rfl | (simp only [List.length_drop, List.length_take]; rfl)) ?_; (with_reducible refine (affidavitlaw04_prime.calls k a0 true _ A9.out).mono ?_); rintro e w' ⟨rfl, ⟨nd, rfl⟩⟩; refine ⟨_, rfl, ?_⟩) | (go_at_call 28; (with_reducible refine (field_Has.calls k a0 _ _ l1 true _ ?side1 ?side2 A12.out).mono ?_); (case side1 => repeat (first | exact (Kd.C_below HR1.out (by repeat (first | (with_reducible first | exact HB.out | apply below_alloc | apply pw_below_drewN | apply below_drew1) | exact HB.out))) | (with_reducible refine Kd.C_alloc ?_ _) | (with_reducible refine Kd.C_drewN ?_ _) | (with_reducible refine Kd.C_drew ?_))); (case side2 => exact HC1.out); rintro e w' ⟨rfl, ⟨nd, rfl⟩⟩))
              go_meet
              case rel => exact ⟨_, (true), (by first | rfl | (simp; done) | (simp [*]; done)), H', ⟨by first | omega | exact Nat.le_refl _⟩, ⟨by repeat (first | (with_reducible first | exact HB.out | apply below_alloc | apply pw_below_drewN | apply below_drew1) | exact HB.out)⟩⟩
            · rw [if_neg c14] at H
              have c14b0 : (a3 == 0) = false := beq_eq_false_iff_ne.mpr c14
              have c14b1 : (a3 != 0) = true := bne_iff_ne.mpr c14
              have H' := Aside0.mk H
              clear H
              go_wp2_with (first | ((with_reducible refine gate_callee (f := 26) rfl ?_); refine goesL_ (some 24) rfl rfl Try.func26 (by kernel_rfl) rfl #[.int .u64 a0] rfl (by (try simp only [List.map_toArray, List.map_cons, List.map_nil]); first | done | rfl | (simp only [List.length_drop, List.length_take]; rfl)) ?_; (with_reducible refine (affidavitlaw04_prime.calls k a0 true _ A9.out).mono ?_); rintro e w' ⟨rfl, ⟨nd, rfl⟩⟩; refine ⟨_, rfl, ?_⟩) | (go_at_call 28; (with_reducible refine (field_Has.calls k a0 _ _ l1 true _ ?side1 ?side2 A12.out).mono ?_); (case side1 => repeat (first | exact (Kd.C_below HR1.out (by repeat (first | (with_reducible first | exact HB.out | apply below_alloc | apply pw_below_drewN | apply below_drew1) | exact HB.out))) | (with_reducible refine Kd.C_alloc ?_ _) | (with_reducible refine Kd.C_drewN ?_ _) | (with_reducible refine Kd.C_drew ?_))); (case side2 => exact HC1.out); rintro e w' ⟨rfl, ⟨nd, rfl⟩⟩))
              go_meet
              case rel => exact ⟨_, (decide (a3 ≥ a0)), (by first | rfl | (simp; done) | (simp [*]; done)), H', ⟨by first | omega | exact Nat.le_refl _⟩, ⟨by repeat (first | (with_reducible first | exact HB.out | apply below_alloc | apply pw_below_drewN | apply below_drew1) | exact HB.out)⟩⟩
          · replace c13 := Bool.eq_false_iff.mpr c13
            subst c13
            have H1 : (affidavitlaw04_SeriesMore.j0 k a0 l1 a2 a3 true) = some r := by rw [if_neg (show ¬ (false = true) by decide)] at H; exact H
            clear H
            have H := H1
            clear H1
            have H' := Aside0.mk H
            clear H
            go_wp2_with (first | ((with_reducible refine gate_callee (f := 26) rfl ?_); refine goesL_ (some 24) rfl rfl Try.func26 (by kernel_rfl) rfl #[.int .u64 a0] rfl (by (try simp only [List.map_toArray, List.map_cons, List.map_nil]); first | done | rfl | (simp only [List.length_drop, List.length_take]; rfl)) ?_; (with_reducible refine (affidavitlaw04_prime.calls k a0 true _ A9.out).mono ?_); rintro e w' ⟨rfl, ⟨nd, rfl⟩⟩; refine ⟨_, rfl, ?_⟩) | (go_at_call 28; (with_reducible refine (field_Has.calls k a0 _ _ l1 false _ ?side1 ?side2 A12.out).mono ?_); (case side1 => repeat (first | exact (Kd.C_below HR1.out (by repeat (first | (with_reducible first | exact HB.out | apply below_alloc | apply pw_below_drewN | apply below_drew1) | exact HB.out))) | (with_reducible refine Kd.C_alloc ?_ _) | (with_reducible refine Kd.C_drewN ?_ _) | (with_reducible refine Kd.C_drew ?_))); (case side2 => exact HC1.out); rintro e w' ⟨rfl, ⟨nd, rfl⟩⟩))
            go_meet
            case rel => exact ⟨_, (true), (by first | rfl | (simp; done) | (simp [*]; done)), H', ⟨by first | omega | exact Nat.le_refl _⟩, ⟨by repeat (first | (with_reducible first | exact HB.out | apply below_alloc | apply pw_below_drewN | apply below_drew1) | exact HB.out)⟩⟩
      · replace c10 := Bool.eq_false_iff.mpr c10
        subst c10
        have H1 : (affidavitlaw04_SeriesMore.j0 k a0 l1 a2 a3 true) = some r := by rw [if_neg (show ¬ (false = true) by decide)] at H; exact H
        clear H
        have H := H1
        clear H1
        have H' := Aside0.mk H
        clear H
        go_wp2_with (first | ((with_reducible refine gate_callee (f := 26) rfl ?_); refine goesL_ (some 24) rfl rfl Try.func26 (by kernel_rfl) rfl #[.int .u64 a0] rfl (by (try simp only [List.map_toArray, List.map_cons, List.map_nil]); first | done | rfl | (simp only [List.length_drop, List.length_take]; rfl)) ?_; (with_reducible refine (affidavitlaw04_prime.calls k a0 false _ A9.out).mono ?_); rintro e w' ⟨rfl, ⟨nd, rfl⟩⟩; refine ⟨_, rfl, ?_⟩))
        go_meet
        case rel => exact ⟨_, (true), (by first | rfl | (simp; done) | (simp [*]; done)), H', ⟨by first | omega | exact Nat.le_refl _⟩, ⟨by repeat (first | (with_reducible first | exact HB.out | apply below_alloc | apply pw_below_drewN | apply below_drew1) | exact HB.out)⟩⟩
    case rest =>
      clear HC7
      try clear c1
      try clear c2
      try clear p2
      try clear c5
      try clear c6
      try clear c10
      try clear c11
      try clear c11b0
      try clear c11b1
      try clear c13
      try clear c14
      try clear c14b0
      try clear c14b1
      obtain ⟨kq, x45_6, rfl, HA, HJ6, HB⟩ := hcut
      cases kq with
      | zero => exact absurd HA.out (by simp [affidavitlaw04_SeriesMore.j0])
      | succ kj6 =>
        have H := HA.out
        clear HA
        simp only [affidavitlaw04_SeriesMore.j0] at H
        by_cases c15 : x45_6 = true
        · subst c15
          have H1 : (some true) = some r := by rw [if_pos rfl] at H; exact H
          clear H
          have H := H1
          clear H1
          obtain rfl := Option.some.inj H
          go_wp2
          go_ret
          exact ⟨by first | rfl | (simp [errW_none, errW_some] <;> rfl) | (simp [*, errW_none, errW_some] <;> rfl), by repeat (first | (with_reducible first | exact HB.out | apply below_alloc | apply pw_below_drewN | apply below_drew1) | exact HB.out)⟩
        · replace c15 := Bool.eq_false_iff.mpr c15
          subst c15
          have H1 : ((series_Rule.f kj6 a0 l1).bind fun bt332 => (if (wrap64 ((l1.length : Int) + 1)) = 0 then (none) else (if 0 ≤ (Int.tmod (wrap64 (a2)) (wrap64 ((l1.length : Int) + 1))) then (if (Int.tmod (wrap64 (a2)) (wrap64 ((l1.length : Int) + 1))) ≤ (l1.length : Int) then ((series_Rule.f kj6 a0 (l1.take ((Int.tmod (wrap64 (a2)) (wrap64 ((l1.length : Int) + 1))) : Int).toNat)).bind fun bt337 => (if 0 ≤ (l1.length : Int) then (if ((l1.length : Int) : Int).toNat ≤ 35184372088832 then ((series_Rule.f kj6 a0 (List.replicate ((l1.length : Int) : Int).toNat 0)).bind fun bt344 => (affidavitlaw04_SeriesMore.l0 kj6 a0 l1 a3 bt332.1 bt332.2 bt337.1 bt337.2 bt344.1 bt344.2 ([] : List Int) 0)) else (none)) else (none))) else (none)) else (none)))) = some r := by rw [if_neg (show ¬ (false = true) by decide)] at H; exact H
          clear H
          have H := H1
          clear H1
          replace H := Option.bind_eq_some_iff.mp H
          obtain ⟨⟨t332, t335⟩, A160, H⟩ := H
          replace H : (if (wrap64 ((l1.length : Int) + 1)) = 0 then (none) else (if 0 ≤ (Int.tmod (wrap64 (a2)) (wrap64 ((l1.length : Int) + 1))) then (if (Int.tmod (wrap64 (a2)) (wrap64 ((l1.length : Int) + 1))) ≤ (l1.length : Int) then ((series_Rule.f kj6 a0 (l1.take ((Int.tmod (wrap64 (a2)) (wrap64 ((l1.length : Int) + 1))) : Int).toNat)).bind fun bt337 => (if 0 ≤ (l1.length : Int) then (if ((l1.length : Int) : Int).toNat ≤ 35184372088832 then ((series_Rule.f kj6 a0 (List.replicate ((l1.length : Int) : Int).toNat 0)).bind fun bt344 => (affidavitlaw04_SeriesMore.l0 kj6 a0 l1 a3 t332 t335 bt337.1 bt337.2 bt344.1 bt344.2 ([] : List Int) 0)) else (none)) else (none))) else (none)) else (none))) = some r := H
          have A16 := Aside0.mk A160
          clear A160
          by_cases c17 : (wrap64 ((l1.length : Int) + 1)) = 0
          · rw [if_pos c17] at H
            exact absurd H (by simp)
          · rw [if_neg c17] at H
            have c17b0 : ((wrap64 ((l1.length : Int) + 1)) == 0) = false := beq_eq_false_iff_ne.mpr c17
            have c17b1 : ((wrap64 ((l1.length : Int) + 1)) != 0) = true := bne_iff_ne.mpr c17
            obtain ⟨ji18, hji18⟩ : ∃ j_ : Int, (Int.tmod (wrap64 (a2)) (wrap64 ((l1.length : Int) + 1))) = j_ := ⟨_, rfl⟩
            replace H : (if 0 ≤ (ji18) then (if (ji18) ≤ (l1.length : Int) then ((series_Rule.f kj6 a0 (l1.take ((ji18) : Int).toNat)).bind fun bt337 => (if 0 ≤ (l1.length : Int) then (if ((l1.length : Int) : Int).toNat ≤ 35184372088832 then ((series_Rule.f kj6 a0 (List.replicate ((l1.length : Int) : Int).toNat 0)).bind fun bt344 => (affidavitlaw04_SeriesMore.l0 kj6 a0 l1 a3 t332 t335 bt337.1 bt337.2 bt344.1 bt344.2 ([] : List Int) 0)) else (none)) else (none))) else (none)) else (none)) = some r := by first | (rw [hji18] at H; exact H) | (simp only [hji18] at H ⊢; exact H)
            (try rw [hji18] at A16)
            by_cases c19 : 0 ≤ (ji18)
            · rw [if_pos c19] at H
              have c19b0 := eq_true c19
              have c19b1 : decide (0 ≤ (ji18)) = true := decide_eq_true c19
              clear c19
              by_cases c20 : (ji18) ≤ (l1.length : Int)
              · rw [if_pos c20] at H
                have c20b0 := eq_true c20
                have c20b1 : decide ((ji18) ≤ (l1.length : Int)) = true := decide_eq_true c20
                clear c20
                replace H := Option.bind_eq_some_iff.mp H
                obtain ⟨⟨t337, t340⟩, A210, H⟩ := H
                replace H : (if 0 ≤ (l1.length : Int) then (if ((l1.length : Int) : Int).toNat ≤ 35184372088832 then ((series_Rule.f kj6 a0 (List.replicate ((l1.length : Int) : Int).toNat 0)).bind fun bt344 => (affidavitlaw04_SeriesMore.l0 kj6 a0 l1 a3 t332 t335 t337 t340 bt344.1 bt344.2 ([] : List Int) 0)) else (none)) else (none)) = some r := H
                have A21 := Aside0.mk A210
                clear A210
                by_cases c22 : 0 ≤ (l1.length : Int)
                · rw [if_pos c22] at H
                  have c22b0 := eq_true c22
                  have c22b1 : decide (0 ≤ (l1.length : Int)) = true := decide_eq_true c22
                  clear c22
                  by_cases c23 : ((l1.length : Int) : Int).toNat ≤ 35184372088832
                  · rw [if_pos c23] at H
                    have c23b0 := eq_true c23
                    have c23b1 : decide (((l1.length : Int) : Int).toNat ≤ 35184372088832) = true := decide_eq_true c23
                    clear c23
                    obtain ⟨y341, hy341⟩ : ∃ y_ : List Int, y_ = (List.replicate ((l1.length : Int) : Int).toNat 0) := ⟨_, rfl⟩
                    replace H : ((series_Rule.f kj6 a0 y341).bind fun bt344 => (affidavitlaw04_SeriesMore.l0 kj6 a0 l1 a3 t332 t335 t337 t340 bt344.1 bt344.2 ([] : List Int) 0)) = some r := by first | (rw [hy341]; with_reducible exact H) | (have H2_ := (Option.bind_some _ _).symm.trans H; rw [hy341]; with_reducible exact H2_) | (have H2_ := (Option.bind_some _ _).symm.trans H; with_reducible exact H2_) | with_reducible exact H | (rw [hy341]; exact H) | exact H
                    have Ny341 := Aside0.mk hy341
                    clear hy341
                    replace H := Option.bind_eq_some_iff.mp H
                    obtain ⟨⟨t344, t347⟩, A240, H⟩ := H
                    replace H : (affidavitlaw04_SeriesMore.l0 kj6 a0 l1 a3 t332 t335 t337 t340 t344 t347 ([] : List Int) 0) = some r := H
                    have A24 := Aside0.mk A240
                    clear A240
                    have H' := Aside0.mk H
                    clear H
                    go_wp2_with (first | ((with_reducible refine gate_callee (f := 25) rfl ?_); refine goesL_ (some 49) rfl rfl Try.func25 (by kernel_rfl) rfl #[.int .u64 a0, .slice A1 l1.length c1] rfl (by (try simp only [List.map_toArray, List.map_cons, List.map_nil]); first | done | rfl | (simp only [List.length_drop, List.length_take]; rfl)) ?_; (with_reducible refine (series_Rule.calls kj6 a0 _ _ l1 t332 t335 _ ?side1 ?side2 A16.out).mono ?_); (case side1 => repeat (first | exact (Kd.C_below HR1.out HB.out) | (with_reducible refine Kd.C_alloc ?_ _) | (with_reducible refine Kd.C_drewN ?_ _) | (with_reducible refine Kd.C_drew ?_))); (case side2 => exact HC1.out); rintro e w25 ⟨v333, rfl, ho0, hb⟩; refine ⟨_, rfl, ?_⟩; have n0_ := Aside0.mk (Kd.V_lower (Kd.V_mono (ok' := fun k_ => True) ho0 (fun k_ hk_ => trivial)) (below_size (by repeat (first | (with_reducible first | exact HB.out | apply below_alloc | apply pw_below_drewN | apply below_drew1) | exact HB.out)))); have n1_ := Aside0.mk (below_step (by repeat (first | (with_reducible first | exact HB.out | apply below_alloc | apply pw_below_drewN | apply below_drew1) | exact HB.out)) hb); clear HB; have HO334 := n0_; have HB := n1_; clear n0_ n1_; (try clear hb); (try clear hb2); (try clear hk); (try clear hi); (try clear ho0); obtain ⟨i026, hi026, _, hsz26, _⟩ := info_parts info22; obtain ⟨hcut26, hA26, hC26⟩ := print_take_of (P := Try.prog) (Value.int .u64) 0 23 22 .i64 Try.underlying23 hi026 hsz26 A1 c1 l1 (ji18) (of_decide_eq_true (by first | (with_reducible assumption) | assumption)) (of_decide_eq_true (by first | (with_reducible assumption) | assumption)) HC1.out; have HR336 := Aside0.mk (Kd.C_of_reads (h1 := fun _ => rfl) (hA26 _ (Kd.reads_of_C HR1.out))); have HC336 := Aside0.mk hC26; clear hA26 hC26 hi026 hsz26) | ((with_reducible refine gate_callee (f := 25) rfl ?_); refine goesL_ (some 62) rfl rfl Try.func25 (by kernel_rfl) rfl #[.int .u64 a0, .slice A1 (l1.take ((ji18) : Int).toNat).length c1] rfl (by (try simp only [List.map_toArray, List.map_cons, List.map_nil]); first | done | (rw [show (l1.take ((ji18) : Int).toNat).length = (ji18).toNat from (by rw [List.length_take]; have h_ : ((ji18) : Int) ≤ (l1.length : Int) := of_decide_eq_true (by first | (with_reducible assumption) | assumption); omega)] <;> rfl) | (simp only [hji18]; rfl) | rfl | (simp only [List.length_drop, List.length_take]; rfl)) ?_; (with_reducible refine (series_Rule.calls kj6 a0 _ _ (l1.take ((ji18) : Int).toNat) t337 t340 _ ?side1 ?side2 A21.out).mono ?_); (case side1 => repeat (first | exact (Kd.C_below HR336.out HB.out) | (with_reducible refine Kd.C_alloc ?_ _) | (with_reducible refine Kd.C_drewN ?_ _) | (with_reducible refine Kd.C_drew ?_))); (case side2 => exact HC336.out); rintro e w27 ⟨v338, rfl, ho0, hb⟩; refine ⟨_, rfl, ?_⟩; have n0_ := Aside0.mk (Kd.V_below (by (with_reducible repeat (first | apply Kd.V_alloc | apply Kd.V_drewN | apply Kd.V_drew)); exact HO334.out) hb); have n1_ := Aside0.mk (Kd.V_lower (Kd.V_mono (ok' := fun k_ => True) ho0 (fun k_ hk_ => trivial)) (below_size (by repeat (first | (with_reducible first | exact HB.out | apply below_alloc | apply pw_below_drewN | apply below_drew1) | exact HB.out)))); have n2_ := Aside0.mk (below_step (by repeat (first | (with_reducible first | exact HB.out | apply below_alloc | apply pw_below_drewN | apply below_drew1) | exact HB.out)) hb); clear HO334; clear HB; have HO334 := n0_; have HO339 := n1_; have HB := n2_; clear n0_ n1_ n2_; (try clear hb); (try clear hb2); (try clear hk); (try clear hi); (try clear ho0)) | ((with_reducible refine gate_dst (N := 69) rfl ?_); (try (refine gate_guard (by rfl) ?_; dsimp only)); refine Kd.R_make (Kd.int .u64) _ 22 rfl (N := 69) rfl 23 _ _ rfl (l1.length : Int) rfl rfl Try.underlying23 (.int .u64 0) 8 info22 rfl (by decide) (by omega) 0 (ok := fun _ => True) (okp := fun _ => True) rfl (fun _ hk => hk) trivial (of_decide_eq_true (by first | (with_reducible assumption) | assumption)) (Nat.le_trans (Nat.mul_le_mul_right _ (of_decide_eq_true (by first | (with_reducible assumption) | assumption) : (l1.length : Int).toNat ≤ 35184372088832)) (by omega)) (Below.refl _ _) (Nat.le_refl _) ?_; intro v342 w28 ho29 hb hg_ hnew_; clear hg_ hnew_; (first | rw [← Ny341.out] at ho29 | (simp only [Int.reduceToNat] at ho29; rw [← Ny341.out] at ho29)); have n0_ := Aside0.mk (Kd.V_elder' (by (with_reducible repeat (first | apply Kd.V_alloc | apply Kd.V_drewN | apply Kd.V_drew)); exact HO334.out) (Kd.R_base ho29) hb); have n1_ := Aside0.mk (Kd.V_elder' (by (with_reducible repeat (first | apply Kd.V_alloc | apply Kd.V_drewN | apply Kd.V_drew)); exact HO339.out) (Kd.R_base ho29) hb); have n2_ := Aside0.mk (Kd.R_lower ho29 (below_size (by repeat (first | (with_reducible first | exact HB.out | apply below_alloc | apply pw_below_drewN | apply below_drew1) | exact HB.out)))); have n3_ := Aside0.mk (below_step (by repeat (first | (with_reducible first | exact HB.out | apply below_alloc | apply pw_below_drewN | apply below_drew1) | exact HB.out)) hb); clear HO334; clear HO339; clear HB; have HO334 := n0_; have HO339 := n1_; have HO343 := n2_; have HB := n3_; clear n0_ n1_ n2_ n3_; clear hb ho29; obtain ⟨Ao30, co30, eo30⟩ := Kd.R_slice HO343.out; subst eo30) | ((with_reducible refine gate_callee (f := 25) rfl ?_); refine goesL_ (some 70) rfl rfl Try.func25 (by kernel_rfl) rfl #[.int .u64 a0, .slice Ao30 y341.length co30] rfl (by (try simp only [List.map_toArray, List.map_cons, List.map_nil]); first | done | rfl | (simp only [List.length_drop, List.length_take]; rfl)) ?_; (with_reducible refine (series_Rule.calls kj6 a0 _ _ y341 t344 t347 _ ?side1 ?side2 A24.out).mono ?_); (case side1 => repeat (first | exact (Kd.R_reads' HO343.out).2.2 | (with_reducible refine Kd.C_alloc ?_ _) | (with_reducible refine Kd.C_drewN ?_ _) | (with_reducible refine Kd.C_drew ?_))); (case side2 => exact (Kd.R_reads' HO343.out).2.1); rintro e w31 ⟨v345, rfl, ho0, hb⟩; refine ⟨_, rfl, ?_⟩; have n0_ := Aside0.mk (Kd.V_below (by (with_reducible repeat (first | apply Kd.V_alloc | apply Kd.V_drewN | apply Kd.V_drew)); exact HO334.out) hb); have n1_ := Aside0.mk (Kd.V_below (by (with_reducible repeat (first | apply Kd.V_alloc | apply Kd.V_drewN | apply Kd.V_drew)); exact HO339.out) hb); have n2_ := Aside0.mk (Kd.R_below (by (with_reducible repeat (first | apply Kd.R_alloc | apply Kd.R_drewN | apply Kd.R_drew)); exact HO343.out) hb); have n3_ := Aside0.mk (Kd.V_lower (Kd.V_mono (ok' := fun k_ => some k_ ≠ (.slice Ao30 y341.length co30 : Value).ownBlock) ho0 (fun k_ hk_ => (Kd.fresh' (Kd.R_lt (by (with_reducible repeat (first | apply Kd.R_alloc | apply Kd.R_drewN | apply Kd.R_drew)); exact HO343.out)) k_ hk_))) (below_size (by repeat (first | (with_reducible first | exact HB.out | apply below_alloc | apply pw_below_drewN | apply below_drew1) | exact HB.out)))); have n4_ := Aside0.mk (below_step (by repeat (first | (with_reducible first | exact HB.out | apply below_alloc | apply pw_below_drewN | apply below_drew1) | exact HB.out)) hb); clear HO334; clear HO339; clear HO343; clear HB; have HO334 := n0_; have HO339 := n1_; have HO343 := n2_; have HO346 := n3_; have HB := n4_; clear n0_ n1_ n2_ n3_ n4_; (try clear hb); (try clear hb2); (try clear hk); (try clear hi); (try clear ho0)))
                    go_loopg [15, 16] kj6 (fun kq v15 v16 w' => ∃ (x15_2 : List Int) (x16_2 : Int), v16 = .int .i64 x16_2 ∧ Aside0 (affidavitlaw04_SeriesMore.l0 kq a0 l1 a3 t332 t335 t337 t340 t344 t347 x15_2 x16_2 = some r) ∧ Aside0 (kq ≤ kj6) ∧ Aside0 (Kd.V (Kd.int .u64) 22 w' w.heap.size (fun k_ => some k_ ≠ (v15 : Value).ownBlock) v333 t332) ∧ Aside0 (Kd.V (Kd.int .u64) 22 w' w.heap.size (fun k_ => some k_ ≠ (v15 : Value).ownBlock) v338 t337) ∧ Aside0 (Kd.V (Kd.int .u64) 22 w' w.heap.size (fun k_ => some k_ ≠ (v15 : Value).ownBlock) v345 t344) ∧ Aside0 (Kd.R (Kd.int .u64) 22 w' w.heap.size (fun _ => True) v15 x15_2) ∧ Aside0 (Below w.heap.size w w'))
                    case atStart => exact ⟨(([] : List Int)), (0), (by first | rfl | (simp; done) | (simp [*]; done)), H', ⟨Nat.le_refl _⟩, ⟨by (with_reducible repeat (first | apply Kd.V_alloc | apply Kd.V_drewN | apply Kd.V_drew)); exact Kd.V_mono HO334.out (fun _ hk => (by simp [Value.ownBlock]))⟩, ⟨by (with_reducible repeat (first | apply Kd.V_alloc | apply Kd.V_drewN | apply Kd.V_drew)); exact Kd.V_mono HO339.out (fun _ hk => (by simp [Value.ownBlock]))⟩, ⟨by (with_reducible repeat (first | apply Kd.V_alloc | apply Kd.V_drewN | apply Kd.V_drew)); exact Kd.V_mono HO346.out (fun _ hk => (by simp [Value.ownBlock]))⟩, ⟨by first | exact Kd.R_nil _ _ _ _ _ | exact Kd.N_nil _ _ _ _ _ | exact Kd.V_nil _ _ _ _ _ | exact Kd.Q_nil _ _ _ _ _ | exact Kd.S_nil _ _ _ _ _⟩, ⟨by repeat (first | (with_reducible first | exact HB.out | apply below_alloc | apply pw_below_drewN | apply below_drew1) | exact HB.out)⟩⟩
                    case round =>
                      clear H'
                      try clear c1
                      try clear c2
                      try clear p2
                      try clear c5
                      try clear c6
                      try clear p6
                      try clear c10
                      try clear c11
                      try clear c11b0
                      try clear c11b1
                      try clear c13
                      try clear c14
                      try clear c14b0
                      try clear c14b1
                      try clear c15
                      try clear c17
                      try clear c17b0
                      try clear c17b1
                      try clear c19
                      try clear c19b0
                      try clear c19b1
                      try clear c20
                      try clear c20b0
                      try clear c20b1
                      try clear c22
                      try clear c22b0
                      try clear c22b1
                      try clear c23
                      try clear c23b0
                      try clear c23b1
                      try clear c25
                      try clear c26
                      try clear p2
                      obtain ⟨x15_2, x16_2, rfl, HA, HK2, HO_9, HO_11, HO_13, HO_15, HB⟩ := hrel
                      cases gk with
                      | zero => exact absurd HA.out (by simp [affidavitlaw04_SeriesMore.l0])
                      | succ k2 =>
                        have H := HA.out
                        clear HA
                        simp only [affidavitlaw04_SeriesMore.l0] at H
                        by_cases c32 : x16_2 < (l1.length : Int)
                        · rw [if_pos c32] at H
                          have c32b0 : decide (x16_2 < (l1.length : Int)) = true := decide_eq_true c32
                          clear c32
                          by_cases c33 : 0 ≤ x16_2
                          · rw [if_pos c33] at H
                            have c33b0 : decide (0 ≤ x16_2) = true := decide_eq_true c33
                            clear c33
                            replace H := Option.bind_eq_some_iff.mp H
                            obtain ⟨⟨t349, t350⟩, A340, H⟩ := H
                            replace H : (if x15_2.length < 17592186044416 then (affidavitlaw04_SeriesMore.l0 k2 a0 l1 a3 t332 t335 t337 t340 t344 t347 (x15_2 ++ [t349]) (wrap64 (x16_2 + 1))) else (none)) = some r := H
                            have A34 := Aside0.mk A340
                            clear A340
                            by_cases c35 : x15_2.length < 17592186044416
                            · rw [if_pos c35] at H
                              have LMc35 := Aside0.mk c35
                              clear c35
                              obtain ⟨y351, hy351⟩ : ∃ y_ : List Int, y_ = (x15_2 ++ [t349]) := ⟨_, rfl⟩
                              replace H : (affidavitlaw04_SeriesMore.l0 k2 a0 l1 a3 t332 t335 t337 t340 t344 t347 y351 (wrap64 (x16_2 + 1))) = some r := by first | (rw [hy351]; with_reducible exact H) | (have H2_ := (Option.bind_some _ _).symm.trans H; rw [hy351]; with_reducible exact H2_) | (have H2_ := (Option.bind_some _ _).symm.trans H; with_reducible exact H2_) | with_reducible exact H | (rw [hy351]; exact H) | exact H
                              have Ny351 := Aside0.mk hy351
                              clear hy351
                              have H' := Aside0.mk H
                              clear H
                              have p348 : 0 ≤ (x16_2 : Int) := of_decide_eq_true (by first | (with_reducible assumption) | assumption)
                              have q348 : x16_2 < (l1.length : Int) := of_decide_eq_true (by first | (with_reducible assumption) | assumption)
                              obtain ⟨ad348, e348, hx348_0⟩ := Kd.at_int HR1.out x16_2 p348 q348
                              cases e348
                              replace hx348_0 := (HB.out.cell (World.block_lt_of_cell? w _ hx348_0)).trans hx348_0
                              replace p348 := eq_true p348
                              replace q348 := eq_true q348
                              go_wp2_with (first | ((with_reducible refine gate_callee (f := 29) rfl ?_); refine goesL_ (some 86) rfl rfl Try.func29 (by kernel_rfl) rfl #[.int .u64 a0, .int .u64 (rd l1 x16_2), .int .u64 a3] rfl (by (try simp only [List.map_toArray, List.map_cons, List.map_nil]); first | done | rfl | (simp only [List.length_drop, List.length_take]; rfl)) ?_; (with_reducible refine (field_Mul.calls k2 a0 (rd l1 x16_2) a3 t349 t350 _ A34.out).mono ?_); rintro e w36 ⟨rfl, hb⟩; refine ⟨_, rfl, ?_⟩; have n0_ := Aside0.mk (Kd.V_below (by (with_reducible repeat (first | apply Kd.V_alloc | apply Kd.V_drewN | apply Kd.V_drew)); exact HO_9.out) hb); have n1_ := Aside0.mk (Kd.V_below (by (with_reducible repeat (first | apply Kd.V_alloc | apply Kd.V_drewN | apply Kd.V_drew)); exact HO_11.out) hb); have n2_ := Aside0.mk (Kd.V_below (by (with_reducible repeat (first | apply Kd.V_alloc | apply Kd.V_drewN | apply Kd.V_drew)); exact HO_13.out) hb); have n3_ := Aside0.mk (Kd.R_below (by (with_reducible repeat (first | apply Kd.R_alloc | apply Kd.R_drewN | apply Kd.R_drew)); exact HO_15.out) hb); have n4_ := Aside0.mk (below_step (by repeat (first | (with_reducible first | exact HB.out | apply below_alloc | apply pw_below_drewN | apply below_drew1) | exact HB.out)) hb); clear HO_9; clear HO_11; clear HO_13; clear HO_15; clear HB; have HO_9 := n0_; have HO_11 := n1_; have HO_13 := n2_; have HO_15 := n3_; have HB := n4_; clear n0_ n1_ n2_ n3_ n4_; (try clear hb); (try clear hb2); (try clear hk); (try clear hi)) | ((with_reducible refine gate_builtin (b := .append) (xs := #[.tmp 89, .tmp 91]) rfl ?_); (try (refine gate_guard (by rfl) ?_; dsimp only)); at_builtin; refine Kd.R_append (Kd.int .u64) (w0 := w) w.heap.size rfl (.tmp 89) (.tmp 91) 23 22 (.int .u64 0) 8 rfl Try.underlying23 info22 rfl (by decide) (by omega) u15 x15_2 t349 [.int .u64 t349] (fun _ => True) (fun _ => False) rfl rfl ?aP (fun _ hk => hk.elim) ?aF ?aO ?aB ?aS ?aL ?_; (case aP => exact rfl); (case aB => exact (by repeat (first | (with_reducible first | exact HB.out | apply below_alloc | apply pw_below_drewN | apply below_drew1) | exact HB.out))); (case aF => exact (fun _ _ => trivial)); (case aO => exact (by (with_reducible repeat (first | apply Kd.R_alloc | apply Kd.R_drewN | apply Kd.R_drew)); exact HO_15.out)); (case aS => exact (below_size (by repeat (first | (with_reducible first | exact HB.out | apply below_alloc | apply pw_below_drewN | apply below_drew1) | exact HB.out)))); (case aL => have := LMc35.out; omega); intro v352 w37 ho hb hg hat; rw [← Ny351.out] at ho; have n0_ := Aside0.mk (Kd.V_afterv (ok := (fun _ => True)) (by (with_reducible repeat (first | apply Kd.V_alloc | apply Kd.V_drewN | apply Kd.V_drew)); exact Kd.V_mono HO_9.out (fun _ hk => ⟨trivial, hk⟩)) hg hat); have n1_ := Aside0.mk (Kd.V_afterv (ok := (fun _ => True)) (by (with_reducible repeat (first | apply Kd.V_alloc | apply Kd.V_drewN | apply Kd.V_drew)); exact Kd.V_mono HO_11.out (fun _ hk => ⟨trivial, hk⟩)) hg hat); have n2_ := Aside0.mk (Kd.V_afterv (ok := (fun _ => True)) (by (with_reducible repeat (first | apply Kd.V_alloc | apply Kd.V_drewN | apply Kd.V_drew)); exact Kd.V_mono HO_13.out (fun _ hk => ⟨trivial, hk⟩)) hg hat); have n3_ := Aside0.mk (hb); have n4_ := Aside0.mk (ho); clear HO_9; clear HO_11; clear HO_13; clear HB; clear HO_15; have HO_9 := n0_; have HO_11 := n1_; have HO_13 := n2_; have HB := n3_; have HO353 := n4_; clear n0_ n1_ n2_ n3_ n4_; clear ho hb hg hat))
                              go_roundg k2
                              case measure => have := HJ6.out; have := HK2.out; omega
                              case rel => exact ⟨(y351), (wrap64 (x16_2 + 1)), (by first | rfl | (simp; done) | (simp [*]; done)), H', ⟨by have := HJ6.out; have := HK2.out; omega⟩, ⟨by (with_reducible repeat (first | apply Kd.V_alloc | apply Kd.V_drewN | apply Kd.V_drew)); exact Kd.V_mono HO_9.out (fun _ hk => hk.2)⟩, ⟨by (with_reducible repeat (first | apply Kd.V_alloc | apply Kd.V_drewN | apply Kd.V_drew)); exact Kd.V_mono HO_11.out (fun _ hk => hk.2)⟩, ⟨by (with_reducible repeat (first | apply Kd.V_alloc | apply Kd.V_drewN | apply Kd.V_drew)); exact Kd.V_mono HO_13.out (fun _ hk => hk.2)⟩, ⟨by (with_reducible repeat (first | apply Kd.R_alloc | apply Kd.R_drewN | apply Kd.R_drew)); exact HO353.out⟩, ⟨by repeat (first | (with_reducible first | exact HB.out | apply below_alloc | apply pw_below_drewN | apply below_drew1) | exact HB.out)⟩⟩
                            · rw [if_neg c35] at H
                              exact absurd H (by simp)
                          · rw [if_neg c33] at H
                            exact absurd H (by simp)
                        · rw [if_neg c32] at H
                          have c32b0 : decide (x16_2 < (l1.length : Int)) = false := decide_eq_false c32
                          clear c32
                          replace H := Option.bind_eq_some_iff.mp H
                          obtain ⟨⟨t354, t357⟩, A380, H⟩ := H
                          replace H : (if t335 = 0 then (if t340 = 0 then (if t347 = 0 then (if t357 = 0 then (if (t337.length : Int) ≤ (t332.length : Int) then (if (t344.length : Int) = 1 then (if (t354.length : Int) = (t332.length : Int) then ((series_Obeys.f k2 a0 x15_2 t332).bind fun t358 => (if t358 = true then ((series_Obeys.f k2 a0 l1 t354).bind fun t359 => (if t359 = true then (some (decide ((t332.length : Int) ≤ (wrap64 ((l1.length : Int) + 1))))) else (none))) else (none))) else (none)) else (none)) else (none)) else (none)) else (none)) else (none)) else (none)) = some r := H
                          have A38 := Aside0.mk A380
                          clear A380
                          by_cases c39 : t335 = 0
                          · rw [if_pos c39] at H
                            have c39b0 : (t335 == 0) = true := beq_iff_eq.mpr c39
                            have c39b1 : (t335 != 0) = false := bne_eq_false_iff_eq.mpr c39
                            clear c39
                            by_cases c40 : t340 = 0
                            · rw [if_pos c40] at H
                              have c40b0 : (t340 == 0) = true := beq_iff_eq.mpr c40
                              have c40b1 : (t340 != 0) = false := bne_eq_false_iff_eq.mpr c40
                              clear c40
                              by_cases c41 : t347 = 0
                              · rw [if_pos c41] at H
                                have c41b0 : (t347 == 0) = true := beq_iff_eq.mpr c41
                                have c41b1 : (t347 != 0) = false := bne_eq_false_iff_eq.mpr c41
                                clear c41
                                by_cases c42 : t357 = 0
                                · rw [if_pos c42] at H
                                  have c42b0 : (t357 == 0) = true := beq_iff_eq.mpr c42
                                  have c42b1 : (t357 != 0) = false := bne_eq_false_iff_eq.mpr c42
                                  clear c42
                                  by_cases c43 : (t337.length : Int) ≤ (t332.length : Int)
                                  · rw [if_pos c43] at H
                                    have c43b0 : decide ((t337.length : Int) ≤ (t332.length : Int)) = true := decide_eq_true c43
                                    have c43b1 : decide (t337.length ≤ t332.length) = true := decide_eq_true (Int.ofNat_le.mp c43)
                                    clear c43
                                    by_cases c44 : (t344.length : Int) = 1
                                    · rw [if_pos c44] at H
                                      have c44b0 : ((t344.length : Int) == 1) = true := beq_iff_eq.mpr c44
                                      have c44b1 : ((t344.length : Int) != 1) = false := bne_eq_false_iff_eq.mpr c44
                                      clear c44
                                      by_cases c45 : (t354.length : Int) = (t332.length : Int)
                                      · rw [if_pos c45] at H
                                        have c45b0 : ((t354.length : Int) == (t332.length : Int)) = true := beq_iff_eq.mpr c45
                                        have c45b1 : ((t354.length : Int) != (t332.length : Int)) = false := bne_eq_false_iff_eq.mpr c45
                                        have c45b2 : (t354.length == t332.length) = true := by first | simpa using c45 | (simp at c45 ⊢; omega)
                                        clear c45
                                        replace H := Option.bind_eq_some_iff.mp H
                                        obtain ⟨t358, A460, H⟩ := H
                                        replace H : (if t358 = true then ((series_Obeys.f k2 a0 l1 t354).bind fun t359 => (if t359 = true then (some (decide ((t332.length : Int) ≤ (wrap64 ((l1.length : Int) + 1))))) else (none))) else (none)) = some r := H
                                        have A46 := Aside0.mk A460
                                        clear A460
                                        by_cases c47 : t358 = true
                                        · subst c47
                                          have H1 : ((series_Obeys.f k2 a0 l1 t354).bind fun t359 => (if t359 = true then (some (decide ((t332.length : Int) ≤ (wrap64 ((l1.length : Int) + 1))))) else (none))) = some r := by rw [if_pos rfl] at H; exact H
                                          clear H
                                          have H := H1
                                          clear H1
                                          replace H := Option.bind_eq_some_iff.mp H
                                          obtain ⟨t359, A480, H⟩ := H
                                          replace H : (if t359 = true then (some (decide ((t332.length : Int) ≤ (wrap64 ((l1.length : Int) + 1))))) else (none)) = some r := H
                                          have A48 := Aside0.mk A480
                                          clear A480
                                          by_cases c49 : t359 = true
                                          · subst c49
                                            have H1 : (some (decide ((t332.length : Int) ≤ (wrap64 ((l1.length : Int) + 1))))) = some r := by rw [if_pos rfl] at H; exact H
                                            clear H
                                            have H := H1
                                            clear H1
                                            obtain rfl := Option.some.inj H
                                            obtain ⟨Ao50, co50, eo50⟩ := Kd.R_slice HO_15.out
                                            subst eo50
                                            go_wp2_with (first | ((with_reducible refine gate_callee (f := 25) rfl ?_); refine goesL_ (some 96) rfl rfl Try.func25 (by kernel_rfl) rfl #[.int .u64 a0, .slice Ao50 x15_2.length co50] rfl (by (try simp only [List.map_toArray, List.map_cons, List.map_nil]); first | done | rfl | (simp only [List.length_drop, List.length_take]; rfl)) ?_; (with_reducible refine (series_Rule.calls k2 a0 _ _ x15_2 t354 t357 _ ?side1 ?side2 A38.out).mono ?_); (case side1 => repeat (first | exact (Kd.R_reads' HO_15.out).2.2 | (with_reducible refine Kd.C_alloc ?_ _) | (with_reducible refine Kd.C_drewN ?_ _) | (with_reducible refine Kd.C_drew ?_))); (case side2 => exact (Kd.R_reads' HO_15.out).2.1); rintro e w51 ⟨v355, rfl, ho0, hb⟩; refine ⟨_, rfl, ?_⟩; have n0_ := Aside0.mk (Kd.V_below (by (with_reducible repeat (first | apply Kd.V_alloc | apply Kd.V_drewN | apply Kd.V_drew)); exact HO_9.out) hb); have n1_ := Aside0.mk (Kd.V_below (by (with_reducible repeat (first | apply Kd.V_alloc | apply Kd.V_drewN | apply Kd.V_drew)); exact HO_11.out) hb); have n2_ := Aside0.mk (Kd.V_below (by (with_reducible repeat (first | apply Kd.V_alloc | apply Kd.V_drewN | apply Kd.V_drew)); exact HO_13.out) hb); have n3_ := Aside0.mk (Kd.R_below (by (with_reducible repeat (first | apply Kd.R_alloc | apply Kd.R_drewN | apply Kd.R_drew)); exact HO_15.out) hb); have n4_ := Aside0.mk (Kd.V_lower (Kd.V_mono (ok' := fun k_ => some k_ ≠ (.slice Ao50 x15_2.length co50 : Value).ownBlock) ho0 (fun k_ hk_ => (Kd.fresh' (Kd.R_lt (by (with_reducible repeat (first | apply Kd.R_alloc | apply Kd.R_drewN | apply Kd.R_drew)); exact HO_15.out)) k_ hk_))) (below_size (by repeat (first | (with_reducible first | exact HB.out | apply below_alloc | apply pw_below_drewN | apply below_drew1) | exact HB.out)))); have n5_ := Aside0.mk (below_step (by repeat (first | (with_reducible first | exact HB.out | apply below_alloc | apply pw_below_drewN | apply below_drew1) | exact HB.out)) hb); clear HO_9; clear HO_11; clear HO_13; clear HO_15; clear HB; have HO_9 := n0_; have HO_11 := n1_; have HO_13 := n2_; have HO_15 := n3_; have HO356 := n4_; have HB := n5_; clear n0_ n1_ n2_ n3_ n4_ n5_; (try clear hb); (try clear hb2); (try clear hk); (try clear hi); (try clear ho0); obtain ⟨Ao52, co52, eo52⟩ := Kd.V_slice HO_11.out; subst eo52; obtain ⟨Ao53, co53, eo53⟩ := Kd.V_slice HO_9.out; subst eo53; obtain ⟨Ao54, co54, eo54⟩ := Kd.V_slice HO_13.out; subst eo54; obtain ⟨Ao55, co55, eo55⟩ := Kd.V_slice HO356.out; subst eo55) | (go_at_call 19; (with_reducible refine (series_Obeys.calls k2 a0 _ _ x15_2 _ _ t332 true _ ?side1 ?side2 ?side3 ?side4 A46.out).mono ?_); (case side1 => repeat (first | exact (Kd.R_reads' HO_15.out).2.2 | (with_reducible refine Kd.C_alloc ?_ _) | (with_reducible refine Kd.C_drewN ?_ _) | (with_reducible refine Kd.C_drew ?_))); (case side2 => exact (Kd.R_reads' HO_15.out).2.1); (case side3 => repeat (first | exact (Kd.V_reads' HO_9.out).2.2 | (with_reducible refine Kd.C_alloc ?_ _) | (with_reducible refine Kd.C_drewN ?_ _) | (with_reducible refine Kd.C_drew ?_))); (case side4 => exact (Kd.V_reads' HO_9.out).2.1); rintro e w56 ⟨rfl, hb⟩; have n0_ := Aside0.mk (Kd.V_below (by (with_reducible repeat (first | apply Kd.V_alloc | apply Kd.V_drewN | apply Kd.V_drew)); exact HO_9.out) hb); have n1_ := Aside0.mk (Kd.V_below (by (with_reducible repeat (first | apply Kd.V_alloc | apply Kd.V_drewN | apply Kd.V_drew)); exact HO_11.out) hb); have n2_ := Aside0.mk (Kd.V_below (by (with_reducible repeat (first | apply Kd.V_alloc | apply Kd.V_drewN | apply Kd.V_drew)); exact HO_13.out) hb); have n3_ := Aside0.mk (Kd.R_below (by (with_reducible repeat (first | apply Kd.R_alloc | apply Kd.R_drewN | apply Kd.R_drew)); exact HO_15.out) hb); have n4_ := Aside0.mk (Kd.V_below (by (with_reducible repeat (first | apply Kd.V_alloc | apply Kd.V_drewN | apply Kd.V_drew)); exact HO356.out) hb); have n5_ := Aside0.mk (below_step (by repeat (first | (with_reducible first | exact HB.out | apply below_alloc | apply pw_below_drewN | apply below_drew1) | exact HB.out)) hb); clear HO_9; clear HO_11; clear HO_13; clear HO_15; clear HO356; clear HB; have HO_9 := n0_; have HO_11 := n1_; have HO_13 := n2_; have HO_15 := n3_; have HO356 := n4_; have HB := n5_; clear n0_ n1_ n2_ n3_ n4_ n5_; (try clear hb); (try clear hb2); (try clear hk); (try clear hi)) | (go_at_call 19; (with_reducible refine (series_Obeys.calls k2 a0 _ _ l1 _ _ t354 true _ ?side1 ?side2 ?side3 ?side4 A48.out).mono ?_); (case side1 => repeat (first | exact (Kd.C_below HR1.out HB.out) | (with_reducible refine Kd.C_alloc ?_ _) | (with_reducible refine Kd.C_drewN ?_ _) | (with_reducible refine Kd.C_drew ?_))); (case side2 => exact HC1.out); (case side3 => repeat (first | exact (Kd.V_reads' HO356.out).2.2 | (with_reducible refine Kd.C_alloc ?_ _) | (with_reducible refine Kd.C_drewN ?_ _) | (with_reducible refine Kd.C_drew ?_))); (case side4 => exact (Kd.V_reads' HO356.out).2.1); rintro e w57 ⟨rfl, hb⟩; have n0_ := Aside0.mk (Kd.V_below (by (with_reducible repeat (first | apply Kd.V_alloc | apply Kd.V_drewN | apply Kd.V_drew)); exact HO_9.out) hb); have n1_ := Aside0.mk (Kd.V_below (by (with_reducible repeat (first | apply Kd.V_alloc | apply Kd.V_drewN | apply Kd.V_drew)); exact HO_11.out) hb); have n2_ := Aside0.mk (Kd.V_below (by (with_reducible repeat (first | apply Kd.V_alloc | apply Kd.V_drewN | apply Kd.V_drew)); exact HO_13.out) hb); have n3_ := Aside0.mk (Kd.R_below (by (with_reducible repeat (first | apply Kd.R_alloc | apply Kd.R_drewN | apply Kd.R_drew)); exact HO_15.out) hb); have n4_ := Aside0.mk (Kd.V_below (by (with_reducible repeat (first | apply Kd.V_alloc | apply Kd.V_drewN | apply Kd.V_drew)); exact HO356.out) hb); have n5_ := Aside0.mk (below_step (by repeat (first | (with_reducible first | exact HB.out | apply below_alloc | apply pw_below_drewN | apply below_drew1) | exact HB.out)) hb); clear HO_9; clear HO_11; clear HO_13; clear HO_15; clear HO356; clear HB; have HO_9 := n0_; have HO_11 := n1_; have HO_13 := n2_; have HO_15 := n3_; have HO356 := n4_; have HB := n5_; clear n0_ n1_ n2_ n3_ n4_ n5_; (try clear hb); (try clear hb2); (try clear hk); (try clear hi)))
                                            go_ret
                                            exact ⟨by first | rfl | (simp [errW_none, errW_some] <;> rfl) | (simp only [← hji18]; first | rfl | (simp [errW_none, errW_some] <;> rfl)) | (simp [*, errW_none, errW_some] <;> rfl), by repeat (first | (with_reducible first | exact HB.out | apply below_alloc | apply pw_below_drewN | apply below_drew1) | exact HB.out)⟩
                                          · replace c49 := Bool.eq_false_iff.mpr c49
                                            subst c49
                                            have H1 : (none) = some r := by rw [if_neg (show ¬ (false = true) by decide)] at H; exact H
                                            clear H
                                            have H := H1
                                            clear H1
                                            exact absurd H (by simp)
                                        · replace c47 := Bool.eq_false_iff.mpr c47
                                          subst c47
                                          have H1 : (none) = some r := by rw [if_neg (show ¬ (false = true) by decide)] at H; exact H
                                          clear H
                                          have H := H1
                                          clear H1
                                          exact absurd H (by simp)
                                      · rw [if_neg c45] at H
                                        exact absurd H (by simp)
                                    · rw [if_neg c44] at H
                                      exact absurd H (by simp)
                                  · rw [if_neg c43] at H
                                    exact absurd H (by simp)
                                · rw [if_neg c42] at H
                                  exact absurd H (by simp)
                              · rw [if_neg c41] at H
                                exact absurd H (by simp)
                            · rw [if_neg c40] at H
                              exact absurd H (by simp)
                          · rw [if_neg c39] at H
                            exact absurd H (by simp)
                  · rw [if_neg c23] at H
                    exact absurd H (by simp)
                · rw [if_neg c22] at H
                  exact absurd H (by simp)
              · rw [if_neg c20] at H
                exact absurd H (by simp)
            · rw [if_neg c19] at H
              exact absurd H (by simp)
  · replace c6 := Bool.eq_false_iff.mpr c6
    subst c6
    have H1 : (none) = some r := by rw [if_neg (show ¬ (false = true) by decide)] at H; exact H
    clear H
    have H := H1
    clear H1
    exact absurd H (by simp)

/-- THE ONE PURE STATEMENT of affidavitlaw04_SeriesMore: yours. -/
def affidavitlaw04_SeriesMore.Pure : Prop := ∀ (a0 : Int) (l1 : List Int) (a2 : Int) (a3 : Int), (Lit.int .u64 a0).wf = true → l1.length ≤ maxLen → l1.length * 8 ≤ 140737488351232 → (∀ x ∈ l1, (Lit.int .u64 x).wf = true) → (Lit.int .u8 a2).wf = true → (Lit.int .u64 a3).wf = true → ∃ k, affidavitlaw04_SeriesMore.f k a0 l1 a2 a3 = some true
theorem affidavitlaw04_SeriesMore.walk (P : affidavitlaw04_SeriesMore.Pure) (a0 : Int) (a1 : Option Addr) (len1 cap1 : Nat) (z1 : List Int) (a2 : Int) (a3 : Int) (w : World) (w0 : (Lit.int .u64 a0).wf = true) (w1 : (a1 = none ∧ len1 = 0 ∧ cap1 = 0 ∧ z1 = []) ∨ ∃ x, a1 = some x ∧ len1 ≤ cap1 ∧ cap1 ≤ maxLen ∧ z1.length = cap1 ∧ (∀ i, i < z1.length → w.cell? (x.add i) = some (.int .u64 (z1.getD i 0))) ∧ ∀ n ∈ z1, (Lit.int .u64 n).wf = true) (y1 : len1 * 8 ≤ 140737488351232) (w2 : (Lit.int .u8 a2).wf = true) (w3 : (Lit.int .u64 a3).wf = true) :
    Calls Try.prog 5 #[.int .u64 a0, .slice a1 len1 cap1, .int .u8 a2, .int .u64 a3] w fun e w' => e = .returned (.bool true) ∧ Below w.heap.size w w' := by
  obtain ⟨l1, rfl, hr1, hm1, hw1, hc1⟩ := ReadsInt.ofRowC w1
  obtain ⟨k, h⟩ := P a0 l1 a2 a3 w0 hm1 y1 hw1 w2 w3
  refine (affidavitlaw04_SeriesMore.calls k a0 _ _ l1 a2 a3 true w (Kd.C_of_reads (d := (0 : Int)) (h1 := fun _ => rfl) hr1) hc1 h).mono ?_
  rintro e w' ⟨rfl, hd⟩
  exact ⟨rfl, hd⟩

end Go.Proofs.Ytffcjgelcdilcaa.PSer

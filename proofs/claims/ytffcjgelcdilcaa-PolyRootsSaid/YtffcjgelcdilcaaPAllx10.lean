/- Contracts of functions of the given program: printed out of the translation by a program of this session, with texts by hand for what the print does not take. -/
import Derived.Test.YtffcjgelcdilcaaPAllx0
import Derived.Test.YtffcjgelcdilcaaPAllx1
import Derived.Test.YtffcjgelcdilcaaPAllx3
import Derived.Test.YtffcjgelcdilcaaPAllx4
import Derived.Test.YtffcjgelcdilcaaPAllx5
import Derived.Test.YtffcjgelcdilcaaPAllx9
namespace Go.Proofs.Ytffcjgelcdilcaa.PAll
open Go.RowKit Go.Proofs.YtffcjgelcdilcaaW.PrintWords Go.Proofs.YtffcjgelcdilcaaW.PrintLast Go.Proofs.YtffcjgelcdilcaaW.PrintMore
attribute [local go_sem] max2_int min2_int max_two min_two max_three min_three max_four min_four   -- for this text's walks alone
set_option linter.unusedVariables false
set_option linter.unusedSimpArgs false

/-! ### affidavitlaw03_PolyRoots: function 8 -/
mutual
def affidavitlaw03_PolyRoots.j0 : Nat → Int → List Int → Int → Bool → Option (Bool)
  | 0, _, _, _, _ => none
  | k + 1, x0, x1, x2, x38 => if x38 = true then (some true) else (affidavitlaw03_PolyRoots.l0 k x0 x1 x2 (([1] : List Int)) false 0)
def affidavitlaw03_PolyRoots.l0 : Nat → Int → List Int → Int → List Int → Bool → Int → Option (Bool)
  | 0, _, _, _, _, _, _ => none
  | k + 1, x0, x1, x2, x7, x8, x9 => if x9 < (x1.length : Int) then (if 0 ≤ x9 then ((field_Sub.f k x0 0 (rd x1 x9)).bind fun bt325 => ((poly_Mul.f k x0 x7 (([bt325.1, 1] : List Int))).bind fun bt330 => (if bt330.2 = 0 then (if x8 = true then (affidavitlaw03_PolyRoots.l0 k x0 x1 x2 bt330.1 true (wrap64 (x9 + 1))) else (affidavitlaw03_PolyRoots.l0 k x0 x1 x2 bt330.1 ((rd x1 x9) == x2) (wrap64 (x9 + 1)))) else (none)))) else (none)) else ((poly_Eval.f k x0 x7 x2).bind fun bt317 => ((poly_Monic.f k x0 x7).bind fun bt319 => (if bt317.2 = 0 then (if bt319.2 = 0 then (if ((bt317.1 == 0) == x8) = true then (if (x7.length : Int) = (wrap64 ((x1.length : Int) + 1)) then ((affidavitref01_Same.f k bt319.1 x7).bind fun t323 => (some t323)) else (none)) else (none)) else (none)) else (none))))
end
def affidavitlaw03_PolyRoots.f (k : Nat) (a0 : Int) (l1 : List Int) (a2 : Int) : Option (Bool) := (affidavitlaw03_awake.f k).bind fun t311 => (if t311 = true then (if (l1.length : Int) > 20 then (affidavitlaw03_PolyRoots.j0 k a0 l1 a2 true) else ((affidavitlaw03_prime.f k a0).bind fun t312 => (if t312 = true then ((field_Has.f k a0 l1).bind fun t313 => (if t313 = true then (affidavitlaw03_PolyRoots.j0 k a0 l1 a2 (decide (a2 ≥ a0))) else (affidavitlaw03_PolyRoots.j0 k a0 l1 a2 true))) else (affidavitlaw03_PolyRoots.j0 k a0 l1 a2 true)))) else (none))
theorem affidavitlaw03_PolyRoots.mono_l : ∀ k, (∀ y0 y1 y2 y3, LeO (affidavitlaw03_PolyRoots.j0 k y0 y1 y2 y3) (affidavitlaw03_PolyRoots.j0 (k + 1) y0 y1 y2 y3)) ∧ (∀ y0 y1 y2 y3 y4 y5, LeO (affidavitlaw03_PolyRoots.l0 k y0 y1 y2 y3 y4 y5) (affidavitlaw03_PolyRoots.l0 (k + 1) y0 y1 y2 y3 y4 y5))
  | 0 => ⟨fun _ _ _ _ r h => by simp [affidavitlaw03_PolyRoots.j0] at h, fun _ _ _ _ _ _ r h => by simp [affidavitlaw03_PolyRoots.l0] at h⟩
  | k + 1 => by
    obtain ⟨ih0, ih1⟩ := affidavitlaw03_PolyRoots.mono_l k
    refine ⟨?_, ?_⟩
    · intro y0 y1 y2 y3
      unfold affidavitlaw03_PolyRoots.j0
      repeat' first
      | (with_reducible exact ih0 _ _ _ _)
      | (with_reducible exact ih1 _ _ _ _ _ _)
      | (with_reducible exact affidavitlaw03_awake.mono _)
      | (with_reducible exact affidavitlaw03_prime.mono _ _)
      | (with_reducible exact affidavitref01_Same.mono _ _ _)
      | (with_reducible exact field_Has.mono _ _ _)
      | (with_reducible exact field_Sub.mono _ _ _ _)
      | (with_reducible exact poly_Eval.mono _ _ _ _)
      | (with_reducible exact poly_Monic.mono _ _ _)
      | (with_reducible exact poly_Mul.mono _ _ _ _)
      | (with_reducible exact LeO.refl _)
      | (with_reducible exact LeO.none _)
      | (with_reducible refine LeO.ite ?_ ?_)
      | (with_reducible refine LeO.bind ?_ (fun _ => ?_))
      | exact ih0 _ _ _ _
      | exact ih1 _ _ _ _ _ _
      | exact affidavitlaw03_awake.mono _
      | exact affidavitlaw03_prime.mono _ _
      | exact affidavitref01_Same.mono _ _ _
      | exact field_Has.mono _ _ _
      | exact field_Sub.mono _ _ _ _
      | exact poly_Eval.mono _ _ _ _
      | exact poly_Monic.mono _ _ _
      | exact poly_Mul.mono _ _ _ _
      | exact LeO.none _
      | refine LeO.ite ?_ ?_
      | refine LeO.bind ?_ (fun _ => ?_)
    · intro y0 y1 y2 y3 y4 y5
      unfold affidavitlaw03_PolyRoots.l0
      repeat' first
      | (with_reducible exact ih0 _ _ _ _)
      | (with_reducible exact ih1 _ _ _ _ _ _)
      | (with_reducible exact affidavitlaw03_awake.mono _)
      | (with_reducible exact affidavitlaw03_prime.mono _ _)
      | (with_reducible exact affidavitref01_Same.mono _ _ _)
      | (with_reducible exact field_Has.mono _ _ _)
      | (with_reducible exact field_Sub.mono _ _ _ _)
      | (with_reducible exact poly_Eval.mono _ _ _ _)
      | (with_reducible exact poly_Monic.mono _ _ _)
      | (with_reducible exact poly_Mul.mono _ _ _ _)
      | (with_reducible exact LeO.refl _)
      | (with_reducible exact LeO.none _)
      | (with_reducible refine LeO.ite ?_ ?_)
      | (with_reducible refine LeO.bind ?_ (fun _ => ?_))
      | exact ih0 _ _ _ _
      | exact ih1 _ _ _ _ _ _
      | exact affidavitlaw03_awake.mono _
      | exact affidavitlaw03_prime.mono _ _
      | exact affidavitref01_Same.mono _ _ _
      | exact field_Has.mono _ _ _
      | exact field_Sub.mono _ _ _ _
      | exact poly_Eval.mono _ _ _ _
      | exact poly_Monic.mono _ _ _
      | exact poly_Mul.mono _ _ _ _
      | exact LeO.none _
      | refine LeO.ite ?_ ?_
      | refine LeO.bind ?_ (fun _ => ?_)
theorem affidavitlaw03_PolyRoots.mono : ∀ a0 a1 a2 k, LeO (affidavitlaw03_PolyRoots.f k a0 a1 a2) (affidavitlaw03_PolyRoots.f (k + 1) a0 a1 a2) := by
  intro a0 a1 a2 k
  obtain ⟨ih0, ih1⟩ := affidavitlaw03_PolyRoots.mono_l k
  unfold affidavitlaw03_PolyRoots.f
  repeat' first
      | (with_reducible exact ih0 _ _ _ _)
      | (with_reducible exact ih1 _ _ _ _ _ _)
      | (with_reducible exact affidavitlaw03_awake.mono _)
      | (with_reducible exact affidavitlaw03_prime.mono _ _)
      | (with_reducible exact affidavitref01_Same.mono _ _ _)
      | (with_reducible exact field_Has.mono _ _ _)
      | (with_reducible exact field_Sub.mono _ _ _ _)
      | (with_reducible exact poly_Eval.mono _ _ _ _)
      | (with_reducible exact poly_Monic.mono _ _ _)
      | (with_reducible exact poly_Mul.mono _ _ _ _)
      | (with_reducible exact LeO.refl _)
      | (with_reducible exact LeO.none _)
      | (with_reducible refine LeO.ite ?_ ?_)
      | (with_reducible refine LeO.bind ?_ (fun _ => ?_))
      | exact ih0 _ _ _ _
      | exact ih1 _ _ _ _ _ _
      | exact affidavitlaw03_awake.mono _
      | exact affidavitlaw03_prime.mono _ _
      | exact affidavitref01_Same.mono _ _ _
      | exact field_Has.mono _ _ _
      | exact field_Sub.mono _ _ _ _
      | exact poly_Eval.mono _ _ _ _
      | exact poly_Monic.mono _ _ _
      | exact poly_Mul.mono _ _ _ _
      | exact LeO.none _
      | refine LeO.ite ?_ ?_
      | refine LeO.bind ?_ (fun _ => ?_)
set_option maxHeartbeats 8000000 in
set_option maxRecDepth 100000 in
theorem affidavitlaw03_PolyRoots.calls (k : Nat) (a0 : Int) (A1 : Option Addr) (c1 : Nat) (l1 : List Int) (a2 : Int) (r : Bool) (w : World) (hr1 : Kd.C (Kd.int .u64) w A1 l1.length l1) (hc1 : l1.length ≤ c1) (h : affidavitlaw03_PolyRoots.f k a0 l1 a2 = some r) :
    Calls Try.prog 8 #[.int .u64 a0, .slice A1 l1.length c1, .int .u64 a2] w fun e w' => e = .returned (.bool r) ∧ Below w.heap.size w w' := by
  have HR1 := Aside0.mk hr1
  have HC1 := Aside0.mk hc1
  clear hr1 hc1
  have HB := Aside0.mk (Below.refl w.heap.size w)
  have H : ((affidavitlaw03_awake.f k).bind fun t311 => (if t311 = true then (if (l1.length : Int) > 20 then (affidavitlaw03_PolyRoots.j0 k a0 l1 a2 true) else ((affidavitlaw03_prime.f k a0).bind fun t312 => (if t312 = true then ((field_Has.f k a0 l1).bind fun t313 => (if t313 = true then (affidavitlaw03_PolyRoots.j0 k a0 l1 a2 (decide (a2 ≥ a0))) else (affidavitlaw03_PolyRoots.j0 k a0 l1 a2 true))) else (affidavitlaw03_PolyRoots.j0 k a0 l1 a2 true)))) else (none))) = some r := h
  clear h
  replace H := Option.bind_eq_some_iff.mp H
  obtain ⟨t311, A40, H⟩ := H
  replace H : (if t311 = true then (if (l1.length : Int) > 20 then (affidavitlaw03_PolyRoots.j0 k a0 l1 a2 true) else ((affidavitlaw03_prime.f k a0).bind fun t312 => (if t312 = true then ((field_Has.f k a0 l1).bind fun t313 => (if t313 = true then (affidavitlaw03_PolyRoots.j0 k a0 l1 a2 (decide (a2 ≥ a0))) else (affidavitlaw03_PolyRoots.j0 k a0 l1 a2 true))) else (affidavitlaw03_PolyRoots.j0 k a0 l1 a2 true)))) else (none)) = some r := H
  have A4 := Aside0.mk A40
  clear A40
  by_cases c5 : t311 = true
  · subst c5
    have H1 : (if (l1.length : Int) > 20 then (affidavitlaw03_PolyRoots.j0 k a0 l1 a2 true) else ((affidavitlaw03_prime.f k a0).bind fun t312 => (if t312 = true then ((field_Has.f k a0 l1).bind fun t313 => (if t313 = true then (affidavitlaw03_PolyRoots.j0 k a0 l1 a2 (decide (a2 ≥ a0))) else (affidavitlaw03_PolyRoots.j0 k a0 l1 a2 true))) else (affidavitlaw03_PolyRoots.j0 k a0 l1 a2 true)))) = some r := by rw [if_pos rfl] at H; exact H
    clear H
    have H := H1
    clear H1
    have HC6 := Aside0.mk H
    clear H
    go_enter Try.func8, Try.ntmps8
    go_upto_region 3 with (first | ((with_reducible refine gate_callee (f := 33) rfl ?_); refine goesL_ (some 18) rfl rfl Try.func33 (by kernel_rfl) rfl #[] rfl (by (try simp only [List.map_toArray, List.map_cons, List.map_nil]); first | done | rfl | (simp only [List.length_drop, List.length_take]; rfl)) ?_; (with_reducible refine (affidavitlaw03_awake.calls k  true _ A4.out).mono ?_); rintro e w7 ⟨rfl, hb⟩; refine ⟨_, rfl, ?_⟩; have n0_ := Aside0.mk (below_step (by repeat (first | (with_reducible first | exact HB.out | apply below_alloc | apply pw_below_drewN | apply below_drew1) | exact HB.out)) hb); clear HB; have HB := n0_; clear n0_; (try clear hb); (try clear hb2); (try clear hk); (try clear hi)))
    (try simp only [Act.put, List.setIfInBounds_toArray, List.set_cons_zero, List.set_cons_succ])
    go_cut [38] (fun v38 wc => ∃ (kq : Nat) (x38_5 : Bool), v38 = .bool x38_5 ∧ Aside0 (affidavitlaw03_PolyRoots.j0 kq a0 l1 a2 x38_5 = some r) ∧ Aside0 (kq ≤ k) ∧ Aside0 (Below w.heap.size w wc))
    case first =>
      have H := HC6.out
      clear HC6
      by_cases c8 : (l1.length : Int) > 20
      · rw [if_pos c8] at H
        have c8b0 : decide (20 < (l1.length : Int)) = true := decide_eq_true c8
        have c8b1 : decide (20 < l1.length) = true := decide_eq_true (by omega)
        clear c8
        (first | rw [c8b0] | (simp only [i64_w, i32_w]; rw [c8b0]) | skip)
        have H' := Aside0.mk H
        clear H
        go_wp2
        go_meet
        case rel => exact ⟨_, (true), (by first | rfl | (simp; done) | (simp [*]; done)), H', ⟨by first | omega | exact Nat.le_refl _⟩, ⟨by repeat (first | (with_reducible first | exact HB.out | apply below_alloc | apply pw_below_drewN | apply below_drew1) | exact HB.out)⟩⟩
      · rw [if_neg c8] at H
        have c8b0 : decide (20 < (l1.length : Int)) = false := decide_eq_false c8
        have c8b1 : decide (20 < l1.length) = false := decide_eq_false (by omega)
        clear c8
        (first | rw [c8b0] | (simp only [i64_w, i32_w]; rw [c8b0]) | skip)
        replace H := Option.bind_eq_some_iff.mp H
        obtain ⟨t312, A90, H⟩ := H
        replace H : (if t312 = true then ((field_Has.f k a0 l1).bind fun t313 => (if t313 = true then (affidavitlaw03_PolyRoots.j0 k a0 l1 a2 (decide (a2 ≥ a0))) else (affidavitlaw03_PolyRoots.j0 k a0 l1 a2 true))) else (affidavitlaw03_PolyRoots.j0 k a0 l1 a2 true)) = some r := H
        have A9 := Aside0.mk A90
        clear A90
        by_cases c10 : t312 = true
        · subst c10
          have H1 : ((field_Has.f k a0 l1).bind fun t313 => (if t313 = true then (affidavitlaw03_PolyRoots.j0 k a0 l1 a2 (decide (a2 ≥ a0))) else (affidavitlaw03_PolyRoots.j0 k a0 l1 a2 true))) = some r := by rw [if_pos rfl] at H; exact H
          clear H
          have H := H1
          clear H1
          replace H := Option.bind_eq_some_iff.mp H
          obtain ⟨t313, A110, H⟩ := H
          replace H : (if t313 = true then (affidavitlaw03_PolyRoots.j0 k a0 l1 a2 (decide (a2 ≥ a0))) else (affidavitlaw03_PolyRoots.j0 k a0 l1 a2 true)) = some r := H
          have A11 := Aside0.mk A110
          clear A110
          by_cases c12 : t313 = true
          · subst c12
            have H1 : (affidavitlaw03_PolyRoots.j0 k a0 l1 a2 (decide (a2 ≥ a0))) = some r := by rw [if_pos rfl] at H; exact H
            clear H
            have H := H1
            clear H1
            have H' := Aside0.mk H
            clear H
            go_wp2_with (first | (go_at_call 34; (with_reducible refine (affidavitlaw03_prime.calls k a0 true _ A9.out).mono ?_); rintro e w' ⟨rfl, ⟨nd, rfl⟩⟩) | (go_at_call 28; (with_reducible refine (field_Has.calls k a0 _ _ l1 true _ ?side1 ?side2 A11.out).mono ?_); (case side1 => repeat (first | exact (Kd.C_below HR1.out (by repeat (first | (with_reducible first | exact HB.out | apply below_alloc | apply pw_below_drewN | apply below_drew1) | exact HB.out))) | (with_reducible refine Kd.C_alloc ?_ _) | (with_reducible refine Kd.C_drewN ?_ _) | (with_reducible refine Kd.C_drew ?_))); (case side2 => exact HC1.out); rintro e w' ⟨rfl, ⟨nd, rfl⟩⟩))
            go_meet
            case rel => exact ⟨_, (decide (a2 ≥ a0)), (by first | rfl | (simp; done) | (simp [*]; done)), H', ⟨by first | omega | exact Nat.le_refl _⟩, ⟨by repeat (first | (with_reducible first | exact HB.out | apply below_alloc | apply pw_below_drewN | apply below_drew1) | exact HB.out)⟩⟩
          · replace c12 := Bool.eq_false_iff.mpr c12
            subst c12
            have H1 : (affidavitlaw03_PolyRoots.j0 k a0 l1 a2 true) = some r := by rw [if_neg (show ¬ (false = true) by decide)] at H; exact H
            clear H
            have H := H1
            clear H1
            have H' := Aside0.mk H
            clear H
            go_wp2_with (first | (go_at_call 34; (with_reducible refine (affidavitlaw03_prime.calls k a0 true _ A9.out).mono ?_); rintro e w' ⟨rfl, ⟨nd, rfl⟩⟩) | (go_at_call 28; (with_reducible refine (field_Has.calls k a0 _ _ l1 false _ ?side1 ?side2 A11.out).mono ?_); (case side1 => repeat (first | exact (Kd.C_below HR1.out (by repeat (first | (with_reducible first | exact HB.out | apply below_alloc | apply pw_below_drewN | apply below_drew1) | exact HB.out))) | (with_reducible refine Kd.C_alloc ?_ _) | (with_reducible refine Kd.C_drewN ?_ _) | (with_reducible refine Kd.C_drew ?_))); (case side2 => exact HC1.out); rintro e w' ⟨rfl, ⟨nd, rfl⟩⟩))
            go_meet
            case rel => exact ⟨_, (true), (by first | rfl | (simp; done) | (simp [*]; done)), H', ⟨by first | omega | exact Nat.le_refl _⟩, ⟨by repeat (first | (with_reducible first | exact HB.out | apply below_alloc | apply pw_below_drewN | apply below_drew1) | exact HB.out)⟩⟩
        · replace c10 := Bool.eq_false_iff.mpr c10
          subst c10
          have H1 : (affidavitlaw03_PolyRoots.j0 k a0 l1 a2 true) = some r := by rw [if_neg (show ¬ (false = true) by decide)] at H; exact H
          clear H
          have H := H1
          clear H1
          have H' := Aside0.mk H
          clear H
          go_wp2_with (first | (go_at_call 34; (with_reducible refine (affidavitlaw03_prime.calls k a0 false _ A9.out).mono ?_); rintro e w' ⟨rfl, ⟨nd, rfl⟩⟩))
          go_meet
          case rel => exact ⟨_, (true), (by first | rfl | (simp; done) | (simp [*]; done)), H', ⟨by first | omega | exact Nat.le_refl _⟩, ⟨by repeat (first | (with_reducible first | exact HB.out | apply below_alloc | apply pw_below_drewN | apply below_drew1) | exact HB.out)⟩⟩
    case rest =>
      clear HC6
      try clear c1
      try clear p2
      try clear c3
      try clear c5
      try clear c8
      try clear c8b0
      try clear c8b1
      try clear c10
      try clear c12
      obtain ⟨kq, x38_5, rfl, HA, HJ5, HB⟩ := hcut
      cases kq with
      | zero => exact absurd HA.out (by simp [affidavitlaw03_PolyRoots.j0])
      | succ kj5 =>
        have H := HA.out
        clear HA
        simp only [affidavitlaw03_PolyRoots.j0] at H
        by_cases c13 : x38_5 = true
        · subst c13
          have H1 : (some true) = some r := by rw [if_pos rfl] at H; exact H
          clear H
          have H := H1
          clear H1
          obtain rfl := Option.some.inj H
          go_wp2
          go_ret
          exact ⟨by first | rfl | (simp [errW_none, errW_some] <;> rfl) | (simp [*, errW_none, errW_some] <;> rfl), by repeat (first | (with_reducible first | exact HB.out | apply below_alloc | apply pw_below_drewN | apply below_drew1) | exact HB.out)⟩
        · replace c13 := Bool.eq_false_iff.mpr c13
          subst c13
          have H1 : (affidavitlaw03_PolyRoots.l0 kj5 a0 l1 a2 (([1] : List Int)) false 0) = some r := by rw [if_neg (show ¬ (false = true) by decide)] at H; exact H
          clear H
          have H := H1
          clear H1
          obtain ⟨y314, hy314⟩ : ∃ y_ : List Int, y_ = (([1] : List Int)) := ⟨_, rfl⟩
          replace H : (affidavitlaw03_PolyRoots.l0 kj5 a0 l1 a2 y314 false 0) = some r := by first | (rw [hy314]; with_reducible exact H) | (have H2_ := (Option.bind_some _ _).symm.trans H; rw [hy314]; with_reducible exact H2_) | (have H2_ := (Option.bind_some _ _).symm.trans H; with_reducible exact H2_) | with_reducible exact H | (rw [hy314]; exact H) | exact H
          have Ny314 := Aside0.mk hy314
          clear hy314
          have H' := Aside0.mk H
          clear H
          go_wp2_with (first | ((with_reducible refine gate_dst (N := 39) rfl ?_); (try (refine gate_guard (by rfl) ?_; dsimp only)); refine Kd.R_lit (Kd.int .u64) _ 22 ?hg (N := 39) ?hd (xs := ([1] : List Int)) (inner := [.int .u64 1]) (ok := fun _ => True) (okp := fun _ => True) ?hr ?hp (fun _ hk => hk) trivial (Below.refl _ _) (Nat.le_refl _) (by simp) ?_; (case hd => rfl); (case hg => rfl); (case hr => first | (go_simp; done) | (go_simp; rfl)); (case hp => exact (Reps.one (show Kd.M (Kd.int .u64) _ _ _ 1 [.int .u64 1] from rfl) (Reps.none _ _))); intro v315 w14 ho15 hb hg_ hnew_; clear hg_ hnew_; (first | rw [← Ny314.out] at ho15 | (simp only [Int.reduceToNat] at ho15; rw [← Ny314.out] at ho15)); have n0_ := Aside0.mk (Kd.R_lower ho15 (below_size (by repeat (first | (with_reducible first | exact HB.out | apply below_alloc | apply pw_below_drewN | apply below_drew1) | exact HB.out)))); have n1_ := Aside0.mk (below_step (by repeat (first | (with_reducible first | exact HB.out | apply below_alloc | apply pw_below_drewN | apply below_drew1) | exact HB.out)) hb); clear HB; have HO316 := n0_; have HB := n1_; clear n0_ n1_; clear hb ho15))
          go_loopg [7, 8, 9] kj5 (fun kq v7 v8 v9 w' => ∃ (x7_2 : List Int) (x8_2 : Bool) (x9_2 : Int), v8 = .bool x8_2 ∧ v9 = .int .i64 x9_2 ∧ Aside0 (affidavitlaw03_PolyRoots.l0 kq a0 l1 a2 x7_2 x8_2 x9_2 = some r) ∧ Aside0 (kq ≤ kj5) ∧ Aside0 (Kd.V (Kd.int .u64) 22 w' w.heap.size (fun _ => True) v7 x7_2) ∧ Aside0 (Below w.heap.size w w'))
          case atStart => exact ⟨(y314), (false), (0), (by first | rfl | (simp; done) | (simp [*]; done)), (by first | rfl | (simp; done) | (simp [*]; done)), H', ⟨Nat.le_refl _⟩, ⟨Kd.R_V (by (with_reducible repeat (first | apply Kd.R_alloc | apply Kd.R_drewN | apply Kd.R_drew)); exact HO316.out)⟩, ⟨by repeat (first | (with_reducible first | exact HB.out | apply below_alloc | apply pw_below_drewN | apply below_drew1) | exact HB.out)⟩⟩
          case round =>
            clear H'
            try clear c1
            try clear p2
            try clear c3
            try clear c5
            try clear c8
            try clear c8b0
            try clear c8b1
            try clear c10
            try clear c12
            try clear c13
            try clear p2
            obtain ⟨x7_2, x8_2, x9_2, rfl, rfl, HA, HK2, HO_7, HB⟩ := hrel
            cases gk with
            | zero => exact absurd HA.out (by simp [affidavitlaw03_PolyRoots.l0])
            | succ k2 =>
              have H := HA.out
              clear HA
              simp only [affidavitlaw03_PolyRoots.l0] at H
              by_cases c16 : x9_2 < (l1.length : Int)
              · rw [if_pos c16] at H
                have c16b0 : decide (x9_2 < (l1.length : Int)) = true := decide_eq_true c16
                clear c16
                by_cases c17 : 0 ≤ x9_2
                · rw [if_pos c17] at H
                  have c17b0 : decide (0 ≤ x9_2) = true := decide_eq_true c17
                  clear c17
                  replace H := Option.bind_eq_some_iff.mp H
                  obtain ⟨⟨t325, t326⟩, A180, H⟩ := H
                  replace H : ((poly_Mul.f k2 a0 x7_2 (([t325, 1] : List Int))).bind fun bt330 => (if bt330.2 = 0 then (if x8_2 = true then (affidavitlaw03_PolyRoots.l0 k2 a0 l1 a2 bt330.1 true (wrap64 (x9_2 + 1))) else (affidavitlaw03_PolyRoots.l0 k2 a0 l1 a2 bt330.1 ((rd l1 x9_2) == a2) (wrap64 (x9_2 + 1)))) else (none))) = some r := H
                  have A18 := Aside0.mk A180
                  clear A180
                  obtain ⟨y327, hy327⟩ : ∃ y_ : List Int, y_ = (([t325, 1] : List Int)) := ⟨_, rfl⟩
                  replace H : ((poly_Mul.f k2 a0 x7_2 y327).bind fun bt330 => (if bt330.2 = 0 then (if x8_2 = true then (affidavitlaw03_PolyRoots.l0 k2 a0 l1 a2 bt330.1 true (wrap64 (x9_2 + 1))) else (affidavitlaw03_PolyRoots.l0 k2 a0 l1 a2 bt330.1 ((rd l1 x9_2) == a2) (wrap64 (x9_2 + 1)))) else (none))) = some r := by first | (rw [hy327]; with_reducible exact H) | (have H2_ := (Option.bind_some _ _).symm.trans H; rw [hy327]; with_reducible exact H2_) | (have H2_ := (Option.bind_some _ _).symm.trans H; with_reducible exact H2_) | with_reducible exact H | (rw [hy327]; exact H) | exact H
                  have Ny327 := Aside0.mk hy327
                  clear hy327
                  replace H := Option.bind_eq_some_iff.mp H
                  obtain ⟨⟨t330, t333⟩, A190, H⟩ := H
                  replace H : (if t333 = 0 then (if x8_2 = true then (affidavitlaw03_PolyRoots.l0 k2 a0 l1 a2 t330 true (wrap64 (x9_2 + 1))) else (affidavitlaw03_PolyRoots.l0 k2 a0 l1 a2 t330 ((rd l1 x9_2) == a2) (wrap64 (x9_2 + 1)))) else (none)) = some r := H
                  have A19 := Aside0.mk A190
                  clear A190
                  by_cases c20 : t333 = 0
                  · rw [if_pos c20] at H
                    have c20b0 : (t333 == 0) = true := beq_iff_eq.mpr c20
                    have c20b1 : (t333 != 0) = false := bne_eq_false_iff_eq.mpr c20
                    clear c20
                    by_cases c21 : x8_2 = true
                    · subst c21
                      have H1 : (affidavitlaw03_PolyRoots.l0 k2 a0 l1 a2 t330 true (wrap64 (x9_2 + 1))) = some r := by rw [if_pos rfl] at H; exact H
                      clear H
                      have H := H1
                      clear H1
                      have H' := Aside0.mk H
                      clear H
                      have p324 : 0 ≤ (x9_2 : Int) := of_decide_eq_true (by first | (with_reducible assumption) | assumption)
                      have q324 : x9_2 < (l1.length : Int) := of_decide_eq_true (by first | (with_reducible assumption) | assumption)
                      obtain ⟨ad324, e324, hx324_0⟩ := Kd.at_int HR1.out x9_2 p324 q324
                      cases e324
                      replace hx324_0 := (HB.out.cell (World.block_lt_of_cell? w _ hx324_0)).trans hx324_0
                      replace p324 := eq_true p324
                      replace q324 := eq_true q324
                      go_wp2_with (first | ((with_reducible refine gate_callee (f := 35) rfl ?_); refine goesL_ (some 52) rfl rfl Try.func35 (by kernel_rfl) rfl #[.int .u64 a0, .int .u64 0, .int .u64 (rd l1 x9_2)] rfl (by (try simp only [List.map_toArray, List.map_cons, List.map_nil]); first | done | rfl | (simp only [List.length_drop, List.length_take]; rfl)) ?_; (with_reducible refine (field_Sub.calls k2 a0 0 (rd l1 x9_2) t325 t326 _ A18.out).mono ?_); rintro e w22 ⟨rfl, hb⟩; refine ⟨_, rfl, ?_⟩; have n0_ := Aside0.mk (Kd.V_below (by (with_reducible repeat (first | apply Kd.V_alloc | apply Kd.V_drewN | apply Kd.V_drew)); exact HO_7.out) hb); have n1_ := Aside0.mk (below_step (by repeat (first | (with_reducible first | exact HB.out | apply below_alloc | apply pw_below_drewN | apply below_drew1) | exact HB.out)) hb); clear HO_7; clear HB; have HO_7 := n0_; have HB := n1_; clear n0_ n1_; (try clear hb); (try clear hb2); (try clear hk); (try clear hi)) | ((with_reducible refine gate_dst (N := 59) rfl ?_); (try (refine gate_guard (by rfl) ?_; dsimp only)); refine Kd.R_lit (Kd.int .u64) _ 22 ?hg (N := 59) ?hd (xs := ([t325, 1] : List Int)) (inner := [.int .u64 t325, .int .u64 1]) (ok := fun _ => True) (okp := fun _ => True) ?hr ?hp (fun _ hk => hk) trivial (Below.refl _ _) (Nat.le_refl _) (by simp) ?_; (case hd => rfl); (case hg => rfl); (case hr => first | (go_simp; done) | (go_simp; rfl)); (case hp => exact (Reps.one (show Kd.M (Kd.int .u64) _ _ _ t325 [.int .u64 t325] from rfl) (Reps.one (show Kd.M (Kd.int .u64) _ _ _ 1 [.int .u64 1] from rfl) (Reps.none _ _)))); intro v328 w23 ho24 hb hg_ hnew_; clear hg_ hnew_; (first | rw [← Ny327.out] at ho24 | (simp only [Int.reduceToNat] at ho24; rw [← Ny327.out] at ho24)); have n0_ := Aside0.mk (Kd.V_elder' (by (with_reducible repeat (first | apply Kd.V_alloc | apply Kd.V_drewN | apply Kd.V_drew)); exact HO_7.out) (Kd.R_base ho24) hb); have n1_ := Aside0.mk (Kd.R_lower ho24 (below_size (by repeat (first | (with_reducible first | exact HB.out | apply below_alloc | apply pw_below_drewN | apply below_drew1) | exact HB.out)))); have n2_ := Aside0.mk (below_step (by repeat (first | (with_reducible first | exact HB.out | apply below_alloc | apply pw_below_drewN | apply below_drew1) | exact HB.out)) hb); clear HO_7; clear HB; have HO_7 := n0_; have HO329 := n1_; have HB := n2_; clear n0_ n1_ n2_; clear hb ho24; obtain ⟨Ao25, co25, eo25⟩ := Kd.V_slice HO_7.out; subst eo25; obtain ⟨Ao26, co26, eo26⟩ := Kd.R_slice HO329.out; subst eo26) | ((with_reducible refine gate_callee (f := 36) rfl ?_); refine goesL_ (some 60) rfl rfl Try.func36 (by kernel_rfl) rfl #[.int .u64 a0, .slice Ao25 x7_2.length co25, .slice Ao26 y327.length co26] rfl (by (try simp only [List.map_toArray, List.map_cons, List.map_nil]); first | done | rfl | (simp only [List.length_drop, List.length_take]; rfl)) ?_; (with_reducible refine (poly_Mul.calls k2 a0 _ _ x7_2 _ _ y327 t330 t333 _ ?side1 ?side2 ?side3 ?side4 A19.out).mono ?_); (case side1 => repeat (first | exact (Kd.V_reads' HO_7.out).2.2 | (with_reducible refine Kd.C_alloc ?_ _) | (with_reducible refine Kd.C_drewN ?_ _) | (with_reducible refine Kd.C_drew ?_))); (case side2 => exact (Kd.V_reads' HO_7.out).2.1); (case side3 => repeat (first | exact (Kd.R_reads' HO329.out).2.2 | (with_reducible refine Kd.C_alloc ?_ _) | (with_reducible refine Kd.C_drewN ?_ _) | (with_reducible refine Kd.C_drew ?_))); (case side4 => exact (Kd.R_reads' HO329.out).2.1); rintro e w27 ⟨v331, rfl, ho0, hb⟩; refine ⟨_, rfl, ?_⟩; have n0_ := Aside0.mk (Kd.V_below (by (with_reducible repeat (first | apply Kd.V_alloc | apply Kd.V_drewN | apply Kd.V_drew)); exact HO_7.out) hb); have n1_ := Aside0.mk (Kd.R_below (by (with_reducible repeat (first | apply Kd.R_alloc | apply Kd.R_drewN | apply Kd.R_drew)); exact HO329.out) hb); have n2_ := Aside0.mk (Kd.V_lower (Kd.V_mono (ok' := fun k_ => some k_ ≠ (.slice Ao26 y327.length co26 : Value).ownBlock) ho0 (fun k_ hk_ => (Kd.fresh' (Kd.R_lt (by (with_reducible repeat (first | apply Kd.R_alloc | apply Kd.R_drewN | apply Kd.R_drew)); exact HO329.out)) k_ hk_))) (below_size (by repeat (first | (with_reducible first | exact HB.out | apply below_alloc | apply pw_below_drewN | apply below_drew1) | exact HB.out)))); have n3_ := Aside0.mk (below_step (by repeat (first | (with_reducible first | exact HB.out | apply below_alloc | apply pw_below_drewN | apply below_drew1) | exact HB.out)) hb); clear HO_7; clear HO329; clear HB; have HO_7 := n0_; have HO329 := n1_; have HO332 := n2_; have HB := n3_; clear n0_ n1_ n2_ n3_; (try clear hb); (try clear hb2); (try clear hk); (try clear hi); (try clear ho0)))
                      go_roundg k2
                      case measure => have := HJ5.out; have := HK2.out; omega
                      case rel => exact ⟨(t330), (true), (wrap64 (x9_2 + 1)), (by first | rfl | (simp; done) | (simp [*]; done)), (by first | rfl | (simp; done) | (simp [*]; done)), H', ⟨by have := HJ5.out; have := HK2.out; omega⟩, ⟨by (with_reducible repeat (first | apply Kd.V_alloc | apply Kd.V_drewN | apply Kd.V_drew)); exact Kd.V_mono HO332.out (fun _ hk => trivial)⟩, ⟨by repeat (first | (with_reducible first | exact HB.out | apply below_alloc | apply pw_below_drewN | apply below_drew1) | exact HB.out)⟩⟩
                    · replace c21 := Bool.eq_false_iff.mpr c21
                      subst c21
                      have H1 : (affidavitlaw03_PolyRoots.l0 k2 a0 l1 a2 t330 ((rd l1 x9_2) == a2) (wrap64 (x9_2 + 1))) = some r := by rw [if_neg (show ¬ (false = true) by decide)] at H; exact H
                      clear H
                      have H := H1
                      clear H1
                      have H' := Aside0.mk H
                      clear H
                      have p324 : 0 ≤ (x9_2 : Int) := of_decide_eq_true (by first | (with_reducible assumption) | assumption)
                      have q324 : x9_2 < (l1.length : Int) := of_decide_eq_true (by first | (with_reducible assumption) | assumption)
                      obtain ⟨ad324, e324, hx324_0⟩ := Kd.at_int HR1.out x9_2 p324 q324
                      cases e324
                      replace hx324_0 := (HB.out.cell (World.block_lt_of_cell? w _ hx324_0)).trans hx324_0
                      replace p324 := eq_true p324
                      replace q324 := eq_true q324
                      go_wp2_with (first | ((with_reducible refine gate_callee (f := 35) rfl ?_); refine goesL_ (some 52) rfl rfl Try.func35 (by kernel_rfl) rfl #[.int .u64 a0, .int .u64 0, .int .u64 (rd l1 x9_2)] rfl (by (try simp only [List.map_toArray, List.map_cons, List.map_nil]); first | done | rfl | (simp only [List.length_drop, List.length_take]; rfl)) ?_; (with_reducible refine (field_Sub.calls k2 a0 0 (rd l1 x9_2) t325 t326 _ A18.out).mono ?_); rintro e w28 ⟨rfl, hb⟩; refine ⟨_, rfl, ?_⟩; have n0_ := Aside0.mk (Kd.V_below (by (with_reducible repeat (first | apply Kd.V_alloc | apply Kd.V_drewN | apply Kd.V_drew)); exact HO_7.out) hb); have n1_ := Aside0.mk (below_step (by repeat (first | (with_reducible first | exact HB.out | apply below_alloc | apply pw_below_drewN | apply below_drew1) | exact HB.out)) hb); clear HO_7; clear HB; have HO_7 := n0_; have HB := n1_; clear n0_ n1_; (try clear hb); (try clear hb2); (try clear hk); (try clear hi)) | ((with_reducible refine gate_dst (N := 59) rfl ?_); (try (refine gate_guard (by rfl) ?_; dsimp only)); refine Kd.R_lit (Kd.int .u64) _ 22 ?hg (N := 59) ?hd (xs := ([t325, 1] : List Int)) (inner := [.int .u64 t325, .int .u64 1]) (ok := fun _ => True) (okp := fun _ => True) ?hr ?hp (fun _ hk => hk) trivial (Below.refl _ _) (Nat.le_refl _) (by simp) ?_; (case hd => rfl); (case hg => rfl); (case hr => first | (go_simp; done) | (go_simp; rfl)); (case hp => exact (Reps.one (show Kd.M (Kd.int .u64) _ _ _ t325 [.int .u64 t325] from rfl) (Reps.one (show Kd.M (Kd.int .u64) _ _ _ 1 [.int .u64 1] from rfl) (Reps.none _ _)))); intro v328 w29 ho30 hb hg_ hnew_; clear hg_ hnew_; (first | rw [← Ny327.out] at ho30 | (simp only [Int.reduceToNat] at ho30; rw [← Ny327.out] at ho30)); have n0_ := Aside0.mk (Kd.V_elder' (by (with_reducible repeat (first | apply Kd.V_alloc | apply Kd.V_drewN | apply Kd.V_drew)); exact HO_7.out) (Kd.R_base ho30) hb); have n1_ := Aside0.mk (Kd.R_lower ho30 (below_size (by repeat (first | (with_reducible first | exact HB.out | apply below_alloc | apply pw_below_drewN | apply below_drew1) | exact HB.out)))); have n2_ := Aside0.mk (below_step (by repeat (first | (with_reducible first | exact HB.out | apply below_alloc | apply pw_below_drewN | apply below_drew1) | exact HB.out)) hb); clear HO_7; clear HB; have HO_7 := n0_; have HO329 := n1_; have HB := n2_; clear n0_ n1_ n2_; clear hb ho30; obtain ⟨Ao31, co31, eo31⟩ := Kd.V_slice HO_7.out; subst eo31; obtain ⟨Ao32, co32, eo32⟩ := Kd.R_slice HO329.out; subst eo32) | ((with_reducible refine gate_callee (f := 36) rfl ?_); refine goesL_ (some 60) rfl rfl Try.func36 (by kernel_rfl) rfl #[.int .u64 a0, .slice Ao31 x7_2.length co31, .slice Ao32 y327.length co32] rfl (by (try simp only [List.map_toArray, List.map_cons, List.map_nil]); first | done | rfl | (simp only [List.length_drop, List.length_take]; rfl)) ?_; (with_reducible refine (poly_Mul.calls k2 a0 _ _ x7_2 _ _ y327 t330 t333 _ ?side1 ?side2 ?side3 ?side4 A19.out).mono ?_); (case side1 => repeat (first | exact (Kd.V_reads' HO_7.out).2.2 | (with_reducible refine Kd.C_alloc ?_ _) | (with_reducible refine Kd.C_drewN ?_ _) | (with_reducible refine Kd.C_drew ?_))); (case side2 => exact (Kd.V_reads' HO_7.out).2.1); (case side3 => repeat (first | exact (Kd.R_reads' HO329.out).2.2 | (with_reducible refine Kd.C_alloc ?_ _) | (with_reducible refine Kd.C_drewN ?_ _) | (with_reducible refine Kd.C_drew ?_))); (case side4 => exact (Kd.R_reads' HO329.out).2.1); rintro e w33 ⟨v331, rfl, ho0, hb⟩; refine ⟨_, rfl, ?_⟩; have n0_ := Aside0.mk (Kd.V_below (by (with_reducible repeat (first | apply Kd.V_alloc | apply Kd.V_drewN | apply Kd.V_drew)); exact HO_7.out) hb); have n1_ := Aside0.mk (Kd.R_below (by (with_reducible repeat (first | apply Kd.R_alloc | apply Kd.R_drewN | apply Kd.R_drew)); exact HO329.out) hb); have n2_ := Aside0.mk (Kd.V_lower (Kd.V_mono (ok' := fun k_ => some k_ ≠ (.slice Ao32 y327.length co32 : Value).ownBlock) ho0 (fun k_ hk_ => (Kd.fresh' (Kd.R_lt (by (with_reducible repeat (first | apply Kd.R_alloc | apply Kd.R_drewN | apply Kd.R_drew)); exact HO329.out)) k_ hk_))) (below_size (by repeat (first | (with_reducible first | exact HB.out | apply below_alloc | apply pw_below_drewN | apply below_drew1) | exact HB.out)))); have n3_ := Aside0.mk (below_step (by repeat (first | (with_reducible first | exact HB.out | apply below_alloc | apply pw_below_drewN | apply below_drew1) | exact HB.out)) hb); clear HO_7; clear HO329; clear HB; have HO_7 := n0_; have HO329 := n1_; have HO332 := n2_; have HB := n3_; clear n0_ n1_ n2_ n3_; (try clear hb); (try clear hb2); (try clear hk); (try clear hi); (try clear ho0); have p334 : 0 ≤ (x9_2 : Int) := of_decide_eq_true (by first | (with_reducible assumption) | assumption); have q334 : x9_2 < (l1.length : Int) := of_decide_eq_true (by first | (with_reducible assumption) | assumption); obtain ⟨ad334, e334, hx334_0⟩ := Kd.at_int HR1.out x9_2 p334 q334; obtain rfl : ad324 = ad334 := (by injection e334); replace hx334_0 := (HB.out.cell (World.block_lt_of_cell? w _ hx334_0)).trans hx334_0; replace p334 := eq_true p334; replace q334 := eq_true q334))
                      go_roundg k2
                      case measure => have := HJ5.out; have := HK2.out; omega
                      case rel => exact ⟨(t330), (((rd l1 x9_2) == a2)), (wrap64 (x9_2 + 1)), (by first | rfl | (simp; done) | (simp [*]; done)), (by first | rfl | (simp; done) | (simp [*]; done)), H', ⟨by have := HJ5.out; have := HK2.out; omega⟩, ⟨by (with_reducible repeat (first | apply Kd.V_alloc | apply Kd.V_drewN | apply Kd.V_drew)); exact Kd.V_mono HO332.out (fun _ hk => trivial)⟩, ⟨by repeat (first | (with_reducible first | exact HB.out | apply below_alloc | apply pw_below_drewN | apply below_drew1) | exact HB.out)⟩⟩
                  · rw [if_neg c20] at H
                    exact absurd H (by simp)
                · rw [if_neg c17] at H
                  exact absurd H (by simp)
              · rw [if_neg c16] at H
                have c16b0 : decide (x9_2 < (l1.length : Int)) = false := decide_eq_false c16
                clear c16
                replace H := Option.bind_eq_some_iff.mp H
                obtain ⟨⟨t317, t318⟩, A340, H⟩ := H
                replace H : ((poly_Monic.f k2 a0 x7_2).bind fun bt319 => (if t318 = 0 then (if bt319.2 = 0 then (if ((t317 == 0) == x8_2) = true then (if (x7_2.length : Int) = (wrap64 ((l1.length : Int) + 1)) then ((affidavitref01_Same.f k2 bt319.1 x7_2).bind fun t323 => (some t323)) else (none)) else (none)) else (none)) else (none))) = some r := H
                have A34 := Aside0.mk A340
                clear A340
                replace H := Option.bind_eq_some_iff.mp H
                obtain ⟨⟨t319, t322⟩, A350, H⟩ := H
                replace H : (if t318 = 0 then (if t322 = 0 then (if ((t317 == 0) == x8_2) = true then (if (x7_2.length : Int) = (wrap64 ((l1.length : Int) + 1)) then ((affidavitref01_Same.f k2 t319 x7_2).bind fun t323 => (some t323)) else (none)) else (none)) else (none)) else (none)) = some r := H
                have A35 := Aside0.mk A350
                clear A350
                by_cases c36 : t318 = 0
                · rw [if_pos c36] at H
                  have c36b0 : (t318 == 0) = true := beq_iff_eq.mpr c36
                  have c36b1 : (t318 != 0) = false := bne_eq_false_iff_eq.mpr c36
                  clear c36
                  by_cases c37 : t322 = 0
                  · rw [if_pos c37] at H
                    have c37b0 : (t322 == 0) = true := beq_iff_eq.mpr c37
                    have c37b1 : (t322 != 0) = false := bne_eq_false_iff_eq.mpr c37
                    clear c37
                    by_cases c38 : ((t317 == 0) == x8_2) = true
                    · rw [if_pos c38] at H
                      have c38b0 : ((t317 == 0) == x8_2) = true := c38
                      (try (have c38b1 : decide ((t317 == 0) = x8_2) = true := by simpa using c38))
                      (try (have c38b2 : ((t317 == 0) == x8_2) = true := by simpa using c38))
                      clear c38
                      by_cases c39 : (x7_2.length : Int) = (wrap64 ((l1.length : Int) + 1))
                      · rw [if_pos c39] at H
                        have c39b0 : ((x7_2.length : Int) == (wrap64 ((l1.length : Int) + 1))) = true := beq_iff_eq.mpr c39
                        have c39b1 : ((x7_2.length : Int) != (wrap64 ((l1.length : Int) + 1))) = false := bne_eq_false_iff_eq.mpr c39
                        clear c39
                        replace H := Option.bind_eq_some_iff.mp H
                        obtain ⟨t323, A400, H⟩ := H
                        replace H : (some t323) = some r := H
                        have A40 := Aside0.mk A400
                        clear A400
                        obtain rfl := Option.some.inj H
                        obtain ⟨Ao41, co41, eo41⟩ := Kd.V_slice HO_7.out
                        subst eo41
                        go_wp2_with (first | ((with_reducible refine gate_callee (f := 37) rfl ?_); refine goesL_ (some 79) rfl rfl Try.func37 (by kernel_rfl) rfl #[.int .u64 a0, .slice Ao41 x7_2.length co41, .int .u64 a2] rfl (by (try simp only [List.map_toArray, List.map_cons, List.map_nil]); first | done | rfl | (simp only [List.length_drop, List.length_take]; rfl)) ?_; (with_reducible refine (poly_Eval.calls k2 a0 _ _ x7_2 a2 t317 t318 _ ?side1 ?side2 A34.out).mono ?_); (case side1 => repeat (first | exact (Kd.V_reads' HO_7.out).2.2 | (with_reducible refine Kd.C_alloc ?_ _) | (with_reducible refine Kd.C_drewN ?_ _) | (with_reducible refine Kd.C_drew ?_))); (case side2 => exact (Kd.V_reads' HO_7.out).2.1); rintro e w42 ⟨rfl, hb⟩; refine ⟨_, rfl, ?_⟩; have n0_ := Aside0.mk (Kd.V_below (by (with_reducible repeat (first | apply Kd.V_alloc | apply Kd.V_drewN | apply Kd.V_drew)); exact HO_7.out) hb); have n1_ := Aside0.mk (below_step (by repeat (first | (with_reducible first | exact HB.out | apply below_alloc | apply pw_below_drewN | apply below_drew1) | exact HB.out)) hb); clear HO_7; clear HB; have HO_7 := n0_; have HB := n1_; clear n0_ n1_; (try clear hb); (try clear hb2); (try clear hk); (try clear hi)) | ((with_reducible refine gate_callee (f := 38) rfl ?_); refine goesL_ (some 85) rfl rfl Try.func38 (by kernel_rfl) rfl #[.int .u64 a0, .slice Ao41 x7_2.length co41] rfl (by (try simp only [List.map_toArray, List.map_cons, List.map_nil]); first | done | rfl | (simp only [List.length_drop, List.length_take]; rfl)) ?_; (with_reducible refine (poly_Monic.calls k2 a0 _ _ x7_2 t319 t322 _ ?side1 ?side2 A35.out).mono ?_); (case side1 => repeat (first | exact (Kd.V_reads' HO_7.out).2.2 | (with_reducible refine Kd.C_alloc ?_ _) | (with_reducible refine Kd.C_drewN ?_ _) | (with_reducible refine Kd.C_drew ?_))); (case side2 => exact (Kd.V_reads' HO_7.out).2.1); rintro e w43 ⟨v320, rfl, ho0, hb⟩; refine ⟨_, rfl, ?_⟩; have n0_ := Aside0.mk (Kd.V_below (by (with_reducible repeat (first | apply Kd.V_alloc | apply Kd.V_drewN | apply Kd.V_drew)); exact HO_7.out) hb); have n1_ := Aside0.mk (Kd.V_lower (Kd.V_mono (ok' := fun k_ => True) ho0 (fun k_ hk_ => trivial)) (below_size (by repeat (first | (with_reducible first | exact HB.out | apply below_alloc | apply pw_below_drewN | apply below_drew1) | exact HB.out)))); have n2_ := Aside0.mk (below_step (by repeat (first | (with_reducible first | exact HB.out | apply below_alloc | apply pw_below_drewN | apply below_drew1) | exact HB.out)) hb); clear HO_7; clear HB; have HO_7 := n0_; have HO321 := n1_; have HB := n2_; clear n0_ n1_ n2_; (try clear hb); (try clear hb2); (try clear hk); (try clear hi); (try clear ho0); obtain ⟨Ao44, co44, eo44⟩ := Kd.V_slice HO321.out; subst eo44) | (go_at_call 21; (with_reducible refine (affidavitref01_Same.calls k2 _ _ t319 _ _ x7_2 t323 _ ?side1 ?side2 ?side3 ?side4 A40.out).mono ?_); (case side1 => repeat (first | exact (Kd.V_reads' HO321.out).2.2 | (with_reducible refine Kd.C_alloc ?_ _) | (with_reducible refine Kd.C_drewN ?_ _) | (with_reducible refine Kd.C_drew ?_))); (case side2 => exact (Kd.V_reads' HO321.out).2.1); (case side3 => repeat (first | exact (Kd.V_reads' HO_7.out).2.2 | (with_reducible refine Kd.C_alloc ?_ _) | (with_reducible refine Kd.C_drewN ?_ _) | (with_reducible refine Kd.C_drew ?_))); (case side4 => exact (Kd.V_reads' HO_7.out).2.1); rintro e w' ⟨rfl, ⟨nd, rfl⟩⟩))
                        go_ret
                        exact ⟨by first | rfl | (simp [errW_none, errW_some] <;> rfl) | (simp [*, errW_none, errW_some] <;> rfl), by repeat (first | (with_reducible first | exact HB.out | apply below_alloc | apply pw_below_drewN | apply below_drew1) | exact HB.out)⟩
                      · rw [if_neg c39] at H
                        exact absurd H (by simp)
                    · rw [if_neg c38] at H
                      exact absurd H (by simp)
                  · rw [if_neg c37] at H
                    exact absurd H (by simp)
                · rw [if_neg c36] at H
                  exact absurd H (by simp)
  · replace c5 := Bool.eq_false_iff.mpr c5
    subst c5
    have H1 : (none) = some r := by rw [if_neg (show ¬ (false = true) by decide)] at H; exact H
    clear H
    have H := H1
    clear H1
    exact absurd H (by simp)

/-- THE ONE PURE STATEMENT of affidavitlaw03_PolyRoots: yours. -/
def affidavitlaw03_PolyRoots.Pure : Prop := ∀ (a0 : Int) (l1 : List Int) (a2 : Int), (Lit.int .u64 a0).wf = true → l1.length ≤ maxLen → l1.length * 8 ≤ 140737488351232 → (∀ x ∈ l1, (Lit.int .u64 x).wf = true) → (Lit.int .u64 a2).wf = true → ∃ k, affidavitlaw03_PolyRoots.f k a0 l1 a2 = some true
theorem affidavitlaw03_PolyRoots.walk (P : affidavitlaw03_PolyRoots.Pure) (a0 : Int) (a1 : Option Addr) (len1 cap1 : Nat) (z1 : List Int) (a2 : Int) (w : World) (w0 : (Lit.int .u64 a0).wf = true) (w1 : (a1 = none ∧ len1 = 0 ∧ cap1 = 0 ∧ z1 = []) ∨ ∃ x, a1 = some x ∧ len1 ≤ cap1 ∧ cap1 ≤ maxLen ∧ z1.length = cap1 ∧ (∀ i, i < z1.length → w.cell? (x.add i) = some (.int .u64 (z1.getD i 0))) ∧ ∀ n ∈ z1, (Lit.int .u64 n).wf = true) (y1 : len1 * 8 ≤ 140737488351232) (w2 : (Lit.int .u64 a2).wf = true) :
    Calls Try.prog 8 #[.int .u64 a0, .slice a1 len1 cap1, .int .u64 a2] w fun e w' => e = .returned (.bool true) ∧ Below w.heap.size w w' := by
  obtain ⟨l1, rfl, hr1, hm1, hw1, hc1⟩ := ReadsInt.ofRowC w1
  obtain ⟨k, h⟩ := P a0 l1 a2 w0 hm1 y1 hw1 w2
  refine (affidavitlaw03_PolyRoots.calls k a0 _ _ l1 a2 true w (Kd.C_of_reads (d := (0 : Int)) (h1 := fun _ => rfl) hr1) hc1 h).mono ?_
  rintro e w' ⟨rfl, hd⟩
  exact ⟨rfl, hd⟩

end Go.Proofs.Ytffcjgelcdilcaa.PAll

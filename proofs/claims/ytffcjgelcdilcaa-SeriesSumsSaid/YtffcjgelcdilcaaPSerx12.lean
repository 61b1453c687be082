/- Contracts of functions of the given program: printed out of the translation by a program of this session, with texts by hand for what the print does not take. -/
import Derived.Test.YtffcjgelcdilcaaPSerx0
import Derived.Test.YtffcjgelcdilcaaPSerx1
import Derived.Test.YtffcjgelcdilcaaPSerx3
import Derived.Test.YtffcjgelcdilcaaPSerx5
import Derived.Test.YtffcjgelcdilcaaPSerx6
import Derived.Test.YtffcjgelcdilcaaPSerx7
import Derived.Test.YtffcjgelcdilcaaPSerx10
namespace Go.Proofs.Ytffcjgelcdilcaa.PSer
open Go.RowKit Go.Proofs.YtffcjgelcdilcaaW.PrintWords Go.Proofs.YtffcjgelcdilcaaW.PrintLast Go.Proofs.YtffcjgelcdilcaaW.PrintMore
attribute [local go_sem] max2_int min2_int max_two min_two max_three min_three max_four min_four   -- for this text's walks alone
set_option linter.unusedVariables false
set_option linter.unusedSimpArgs false

/-! ### affidavitlaw04_SeriesSums: function 6 -/
mutual
def affidavitlaw04_SeriesSums.j0 : Nat → Int → List Int → List Int → List Int → Int → Bool → Option (Bool)
  | 0, _, _, _, _, _, _ => none
  | k + 1, x0, x1, x2, x3, x4, x56 => if x56 = true then (some true) else ((series_Rule.f k x0 x1).bind fun bt364 => (if bt364.2 = 0 then (if (x1.length : Int) > 0 then (if 1 ≤ (x1.length : Int) then ((series_Rule.f k x0 (x1.drop 1)).bind fun bt369 => (if bt369.2 = 0 then (if (bt369.1.length : Int) > (bt364.1.length : Int) then (none) else (affidavitlaw04_SeriesSums.j1 k x0 x1 x2 x3 x4 bt364.1)) else (none))) else (none)) else (affidavitlaw04_SeriesSums.j1 k x0 x1 x2 x3 x4 bt364.1)) else (none)))
def affidavitlaw04_SeriesSums.j1 : Nat → Int → List Int → List Int → List Int → Int → List Int → Option (Bool)
  | 0, _, _, _, _, _, _ => none
  | k + 1, x0, x1, x2, x3, x4, x11 => if (x2.length : Int) = (x1.length : Int) then (affidavitlaw04_SeriesSums.l0 k x0 x1 x2 x3 x4 x11 ([] : List Int) 0) else (affidavitlaw04_SeriesSums.j3 k x0 x1 x3 x4)
def affidavitlaw04_SeriesSums.j3 : Nat → Int → List Int → List Int → Int → Option (Bool)
  | 0, _, _, _, _ => none
  | k + 1, x0, x1, x3, x4 => (series_Right.f k x0 x3).bind fun t388 => (if t388 = true then ((series_On.f k x0 x1 x3 (wrap64 (2 * (wrap64 (Int.tmod x4 20))))).bind fun bt389 => ((series_On.f k x0 x1 x3 (wrap64 (Int.tmod x4 20))).bind fun bt393 => ((series_On.f k x0 bt393.1 x3 (wrap64 (Int.tmod x4 20))).bind fun bt397 => (if bt397.2 = 0 then ((affidavitref01_Same.f k bt389.1 bt397.1).bind fun t401 => (some t401)) else (none))))) else (some true))
def affidavitlaw04_SeriesSums.l0 : Nat → Int → List Int → List Int → List Int → Int → List Int → List Int → Int → Option (Bool)
  | 0, _, _, _, _, _, _, _, _ => none
  | k + 1, x0, x1, x2, x3, x4, x11, x15, x16 => if x16 < (x1.length : Int) then (if 0 ≤ x16 then (if x16 < (x2.length : Int) then ((field_Add.f k x0 (rd x1 x16) (rd x2 x16)).bind fun bt375 => (if x15.length < 17592186044416 then (affidavitlaw04_SeriesSums.l0 k x0 x1 x2 x3 x4 x11 (x15 ++ [bt375.1]) (wrap64 (x16 + 1))) else (none))) else (none)) else (none)) else ((series_Rule.f k x0 x2).bind fun bt380 => ((series_Rule.f k x0 x15).bind fun bt384 => (if bt380.2 = 0 then (if bt384.2 = 0 then (if (wrap64 ((bt384.1.length : Int) - 1)) > (wrap64 ((wrap64 ((wrap64 ((x11.length : Int) - 1)) + (bt380.1.length : Int))) - 1)) then (if (wrap64 ((bt384.1.length : Int) - 1)) ≤ (wrap64 ((x1.length : Int) / 2)) then (none) else (affidavitlaw04_SeriesSums.j3 k x0 x1 x3 x4)) else (affidavitlaw04_SeriesSums.j3 k x0 x1 x3 x4)) else (none)) else (none))))
end
def affidavitlaw04_SeriesSums.f (k : Nat) (a0 : Int) (l1 : List Int) (l2 : List Int) (l3 : List Int) (a4 : Int) : Option (Bool) := (affidavitlaw04_awake.f k).bind fun t360 => (if t360 = true then ((affidavitlaw04_prime.f k a0).bind fun t361 => (if t361 = true then (if (l1.length : Int) > 40 then (affidavitlaw04_SeriesSums.j0 k a0 l1 l2 l3 a4 true) else (if (l3.length : Int) > 40 then (affidavitlaw04_SeriesSums.j0 k a0 l1 l2 l3 a4 true) else ((field_Has.f k a0 l1).bind fun t362 => (if t362 = true then ((field_Has.f k a0 l2).bind fun t363 => (affidavitlaw04_SeriesSums.j0 k a0 l1 l2 l3 a4 (!t363))) else (affidavitlaw04_SeriesSums.j0 k a0 l1 l2 l3 a4 true))))) else (affidavitlaw04_SeriesSums.j0 k a0 l1 l2 l3 a4 true))) else (none))
theorem affidavitlaw04_SeriesSums.mono_l : ∀ k, (∀ y0 y1 y2 y3 y4 y5, LeO (affidavitlaw04_SeriesSums.j0 k y0 y1 y2 y3 y4 y5) (affidavitlaw04_SeriesSums.j0 (k + 1) y0 y1 y2 y3 y4 y5)) ∧ (∀ y0 y1 y2 y3 y4 y5, LeO (affidavitlaw04_SeriesSums.j1 k y0 y1 y2 y3 y4 y5) (affidavitlaw04_SeriesSums.j1 (k + 1) y0 y1 y2 y3 y4 y5)) ∧ (∀ y0 y1 y2 y3, LeO (affidavitlaw04_SeriesSums.j3 k y0 y1 y2 y3) (affidavitlaw04_SeriesSums.j3 (k + 1) y0 y1 y2 y3)) ∧ (∀ y0 y1 y2 y3 y4 y5 y6 y7, LeO (affidavitlaw04_SeriesSums.l0 k y0 y1 y2 y3 y4 y5 y6 y7) (affidavitlaw04_SeriesSums.l0 (k + 1) y0 y1 y2 y3 y4 y5 y6 y7))
  | 0 => ⟨fun _ _ _ _ _ _ r h => by simp [affidavitlaw04_SeriesSums.j0] at h, fun _ _ _ _ _ _ r h => by simp [affidavitlaw04_SeriesSums.j1] at h, fun _ _ _ _ r h => by simp [affidavitlaw04_SeriesSums.j3] at h, fun _ _ _ _ _ _ _ _ r h => by simp [affidavitlaw04_SeriesSums.l0] at h⟩
  | k + 1 => by
    obtain ⟨ih0, ih1, ih2, ih3⟩ := affidavitlaw04_SeriesSums.mono_l k
    refine ⟨?_, ?_, ?_, ?_⟩
    · intro y0 y1 y2 y3 y4 y5
      unfold affidavitlaw04_SeriesSums.j0
      repeat' first
      | (with_reducible exact ih0 _ _ _ _ _ _)
      | (with_reducible exact ih1 _ _ _ _ _ _)
      | (with_reducible exact ih2 _ _ _ _)
      | (with_reducible exact ih3 _ _ _ _ _ _ _ _)
      | (with_reducible exact affidavitlaw04_awake.mono _)
      | (with_reducible exact affidavitlaw04_prime.mono _ _)
      | (with_reducible exact affidavitref01_Same.mono _ _ _)
      | (with_reducible exact field_Add.mono _ _ _ _)
      | (with_reducible exact field_Has.mono _ _ _)
      | (with_reducible exact series_On.mono _ _ _ _ _)
      | (with_reducible exact series_Right.mono _ _ _)
      | (with_reducible exact series_Rule.mono _ _ _)
      | (with_reducible exact LeO.refl _)
      | (with_reducible exact LeO.none _)
      | (with_reducible refine LeO.ite ?_ ?_)
      | (with_reducible refine LeO.bind ?_ (fun _ => ?_))
      | exact ih0 _ _ _ _ _ _
      | exact ih1 _ _ _ _ _ _
      | exact ih2 _ _ _ _
      | exact ih3 _ _ _ _ _ _ _ _
      | exact affidavitlaw04_awake.mono _
      | exact affidavitlaw04_prime.mono _ _
      | exact affidavitref01_Same.mono _ _ _
      | exact field_Add.mono _ _ _ _
      | exact field_Has.mono _ _ _
      | exact series_On.mono _ _ _ _ _
      | exact series_Right.mono _ _ _
      | exact series_Rule.mono _ _ _
      | exact LeO.none _
      | refine LeO.ite ?_ ?_
      | refine LeO.bind ?_ (fun _ => ?_)
    · intro y0 y1 y2 y3 y4 y5
      unfold affidavitlaw04_SeriesSums.j1
      repeat' first
      | (with_reducible exact ih0 _ _ _ _ _ _)
      | (with_reducible exact ih1 _ _ _ _ _ _)
      | (with_reducible exact ih2 _ _ _ _)
      | (with_reducible exact ih3 _ _ _ _ _ _ _ _)
      | (with_reducible exact affidavitlaw04_awake.mono _)
      | (with_reducible exact affidavitlaw04_prime.mono _ _)
      | (with_reducible exact affidavitref01_Same.mono _ _ _)
      | (with_reducible exact field_Add.mono _ _ _ _)
      | (with_reducible exact field_Has.mono _ _ _)
      | (with_reducible exact series_On.mono _ _ _ _ _)
      | (with_reducible exact series_Right.mono _ _ _)
      | (with_reducible exact series_Rule.mono _ _ _)
      | (with_reducible exact LeO.refl _)
      | (with_reducible exact LeO.none _)
      | (with_reducible refine LeO.ite ?_ ?_)
      | (with_reducible refine LeO.bind ?_ (fun _ => ?_))
      | exact ih0 _ _ _ _ _ _
      | exact ih1 _ _ _ _ _ _
      | exact ih2 _ _ _ _
      | exact ih3 _ _ _ _ _ _ _ _
      | exact affidavitlaw04_awake.mono _
      | exact affidavitlaw04_prime.mono _ _
      | exact affidavitref01_Same.mono _ _ _
      | exact field_Add.mono _ _ _ _
      | exact field_Has.mono _ _ _
      | exact series_On.mono _ _ _ _ _
      | exact series_Right.mono _ _ _
      | exact series_Rule.mono _ _ _
      | exact LeO.none _
      | refine LeO.ite ?_ ?_
      | refine LeO.bind ?_ (fun _ => ?_)
    · intro y0 y1 y2 y3
      unfold affidavitlaw04_SeriesSums.j3
      repeat' first
      | (with_reducible exact ih0 _ _ _ _ _ _)
      | (with_reducible exact ih1 _ _ _ _ _ _)
      | (with_reducible exact ih2 _ _ _ _)
      | (with_reducible exact ih3 _ _ _ _ _ _ _ _)
      | (with_reducible exact affidavitlaw04_awake.mono _)
      | (with_reducible exact affidavitlaw04_prime.mono _ _)
      | (with_reducible exact affidavitref01_Same.mono _ _ _)
      | (with_reducible exact field_Add.mono _ _ _ _)
      | (with_reducible exact field_Has.mono _ _ _)
      | (with_reducible exact series_On.mono _ _ _ _ _)
      | (with_reducible exact series_Right.mono _ _ _)
      | (with_reducible exact series_Rule.mono _ _ _)
      | (with_reducible exact LeO.refl _)
      | (with_reducible exact LeO.none _)
      | (with_reducible refine LeO.ite ?_ ?_)
      | (with_reducible refine LeO.bind ?_ (fun _ => ?_))
      | exact ih0 _ _ _ _ _ _
      | exact ih1 _ _ _ _ _ _
      | exact ih2 _ _ _ _
      | exact ih3 _ _ _ _ _ _ _ _
      | exact affidavitlaw04_awake.mono _
      | exact affidavitlaw04_prime.mono _ _
      | exact affidavitref01_Same.mono _ _ _
      | exact field_Add.mono _ _ _ _
      | exact field_Has.mono _ _ _
      | exact series_On.mono _ _ _ _ _
      | exact series_Right.mono _ _ _
      | exact series_Rule.mono _ _ _
      | exact LeO.none _
      | refine LeO.ite ?_ ?_
      | refine LeO.bind ?_ (fun _ => ?_)
    · intro y0 y1 y2 y3 y4 y5 y6 y7
      unfold affidavitlaw04_SeriesSums.l0
      repeat' first
      | (with_reducible exact ih0 _ _ _ _ _ _)
      | (with_reducible exact ih1 _ _ _ _ _ _)
      | (with_reducible exact ih2 _ _ _ _)
      | (with_reducible exact ih3 _ _ _ _ _ _ _ _)
      | (with_reducible exact affidavitlaw04_awake.mono _)
      | (with_reducible exact affidavitlaw04_prime.mono _ _)
      | (with_reducible exact affidavitref01_Same.mono _ _ _)
      | (with_reducible exact field_Add.mono _ _ _ _)
      | (with_reducible exact field_Has.mono _ _ _)
      | (with_reducible exact series_On.mono _ _ _ _ _)
      | (with_reducible exact series_Right.mono _ _ _)
      | (with_reducible exact series_Rule.mono _ _ _)
      | (with_reducible exact LeO.refl _)
      | (with_reducible exact LeO.none _)
      | (with_reducible refine LeO.ite ?_ ?_)
      | (with_reducible refine LeO.bind ?_ (fun _ => ?_))
      | exact ih0 _ _ _ _ _ _
      | exact ih1 _ _ _ _ _ _
      | exact ih2 _ _ _ _
      | exact ih3 _ _ _ _ _ _ _ _
      | exact affidavitlaw04_awake.mono _
      | exact affidavitlaw04_prime.mono _ _
      | exact affidavitref01_Same.mono _ _ _
      | exact field_Add.mono _ _ _ _
      | exact field_Has.mono _ _ _
      | exact series_On.mono _ _ _ _ _
      | exact series_Right.mono _ _ _
      | exact series_Rule.mono _ _ _
      | exact LeO.none _
      | refine LeO.ite ?_ ?_
      | refine LeO.bind ?_ (fun _ => ?_)
theorem affidavitlaw04_SeriesSums.mono : ∀ a0 a1 a2 a3 a4 k, LeO (affidavitlaw04_SeriesSums.f k a0 a1 a2 a3 a4) (affidavitlaw04_SeriesSums.f (k + 1) a0 a1 a2 a3 a4) := by
  intro a0 a1 a2 a3 a4 k
  obtain ⟨ih0, ih1, ih2, ih3⟩ := affidavitlaw04_SeriesSums.mono_l k
  unfold affidavitlaw04_SeriesSums.f
  repeat' first
      | (with_reducible exact ih0 _ _ _ _ _ _)
      | (with_reducible exact ih1 _ _ _ _ _ _)
      | (with_reducible exact ih2 _ _ _ _)
      | (with_reducible exact ih3 _ _ _ _ _ _ _ _)
      | (with_reducible exact affidavitlaw04_awake.mono _)
      | (with_reducible exact affidavitlaw04_prime.mono _ _)
      | (with_reducible exact affidavitref01_Same.mono _ _ _)
      | (with_reducible exact field_Add.mono _ _ _ _)
      | (with_reducible exact field_Has.mono _ _ _)
      | (with_reducible exact series_On.mono _ _ _ _ _)
      | (with_reducible exact series_Right.mono _ _ _)
      | (with_reducible exact series_Rule.mono _ _ _)
      | (with_reducible exact LeO.refl _)
      | (with_reducible exact LeO.none _)
      | (with_reducible refine LeO.ite ?_ ?_)
      | (with_reducible refine LeO.bind ?_ (fun _ => ?_))
      | exact ih0 _ _ _ _ _ _
      | exact ih1 _ _ _ _ _ _
      | exact ih2 _ _ _ _
      | exact ih3 _ _ _ _ _ _ _ _
      | exact affidavitlaw04_awake.mono _
      | exact affidavitlaw04_prime.mono _ _
      | exact affidavitref01_Same.mono _ _ _
      | exact field_Add.mono _ _ _ _
      | exact field_Has.mono _ _ _
      | exact series_On.mono _ _ _ _ _
      | exact series_Right.mono _ _ _
      | exact series_Rule.mono _ _ _
      | exact LeO.none _
      | refine LeO.ite ?_ ?_
      | refine LeO.bind ?_ (fun _ => ?_)
def affidavitlaw04_SeriesSums.T17 : Bool × List (List Nat × List Nat) := (true, [([], []), ([], []), ([], []), ([1, 2], [1, 2]), ([3], [3]), ([], []), ([], []), ([5, 6], [5, 6]), ([7], [7]), ([0, 4, 8], [0, 4, 8]), ([9], [9]), ([10], [10]), ([10], [10]), ([11, 9, 0, 1, 2, 3, 4, 5, 6, 7, 8, 9, 10, 11], [11]), ([12, 13, 0, 1, 2, 3, 4, 5, 6, 7, 8, 9, 10, 11, 12, 13], [12])])
def affidavitlaw04_SeriesSums.B17 : List Nat := [0, 0, 0, 6, 14, 0, 0, 96, 224, 511, 1023, 2047, 2047, 4095, 16383]
theorem affidavitlaw04_SeriesSums.tab17 : rtab .any (opsOf Try.f6 17) = affidavitlaw04_SeriesSums.T17 := by kernel_rfl
theorem affidavitlaw04_SeriesSums.bits17 : waitsOk affidavitlaw04_SeriesSums.T17.2 affidavitlaw04_SeriesSums.B17 = true := by kernel_rfl
set_option maxHeartbeats 8000000 in
set_option maxRecDepth 100000 in
theorem affidavitlaw04_SeriesSums.calls (k : Nat) (a0 : Int) (A1 : Option Addr) (c1 : Nat) (l1 : List Int) (A2 : Option Addr) (c2 : Nat) (l2 : List Int) (A3 : Option Addr) (c3 : Nat) (l3 : List Int) (a4 : Int) (r : Bool) (w : World) (hr1 : Kd.C (Kd.int .u64) w A1 l1.length l1) (hc1 : l1.length ≤ c1) (hr2 : Kd.C (Kd.int .u64) w A2 l2.length l2) (hc2 : l2.length ≤ c2) (hr3 : Kd.C (Kd.int .u64) w A3 l3.length l3) (hc3 : l3.length ≤ c3) (h : affidavitlaw04_SeriesSums.f k a0 l1 l2 l3 a4 = some r) :
    Calls Try.prog 6 #[.int .u64 a0, .slice A1 l1.length c1, .slice A2 l2.length c2, .slice A3 l3.length c3, .int .u8 a4] w fun e w' => e = .returned (.bool r) ∧ Below w.heap.size w w' := by
  have HR1 := Aside0.mk hr1
  have HC1 := Aside0.mk hc1
  clear hr1 hc1
  have HR2 := Aside0.mk hr2
  have HC2 := Aside0.mk hc2
  clear hr2 hc2
  have HR3 := Aside0.mk hr3
  have HC3 := Aside0.mk hc3
  clear hr3 hc3
  have HB := Aside0.mk (Below.refl w.heap.size w)
  have H : ((affidavitlaw04_awake.f k).bind fun t360 => (if t360 = true then ((affidavitlaw04_prime.f k a0).bind fun t361 => (if t361 = true then (if (l1.length : Int) > 40 then (affidavitlaw04_SeriesSums.j0 k a0 l1 l2 l3 a4 true) else (if (l3.length : Int) > 40 then (affidavitlaw04_SeriesSums.j0 k a0 l1 l2 l3 a4 true) else ((field_Has.f k a0 l1).bind fun t362 => (if t362 = true then ((field_Has.f k a0 l2).bind fun t363 => (affidavitlaw04_SeriesSums.j0 k a0 l1 l2 l3 a4 (!t363))) else (affidavitlaw04_SeriesSums.j0 k a0 l1 l2 l3 a4 true))))) else (affidavitlaw04_SeriesSums.j0 k a0 l1 l2 l3 a4 true))) else (none))) = some r := h
  clear h
  replace H := Option.bind_eq_some_iff.mp H
  obtain ⟨t360, A60, H⟩ := H
  replace H : (if t360 = true then ((affidavitlaw04_prime.f k a0).bind fun t361 => (if t361 = true then (if (l1.length : Int) > 40 then (affidavitlaw04_SeriesSums.j0 k a0 l1 l2 l3 a4 true) else (if (l3.length : Int) > 40 then (affidavitlaw04_SeriesSums.j0 k a0 l1 l2 l3 a4 true) else ((field_Has.f k a0 l1).bind fun t362 => (if t362 = true then ((field_Has.f k a0 l2).bind fun t363 => (affidavitlaw04_SeriesSums.j0 k a0 l1 l2 l3 a4 (!t363))) else (affidavitlaw04_SeriesSums.j0 k a0 l1 l2 l3 a4 true))))) else (affidavitlaw04_SeriesSums.j0 k a0 l1 l2 l3 a4 true))) else (none)) = some r := H
  have A6 := Aside0.mk A60
  clear A60
  by_cases c7 : t360 = true
  · subst c7
    have H1 : ((affidavitlaw04_prime.f k a0).bind fun t361 => (if t361 = true then (if (l1.length : Int) > 40 then (affidavitlaw04_SeriesSums.j0 k a0 l1 l2 l3 a4 true) else (if (l3.length : Int) > 40 then (affidavitlaw04_SeriesSums.j0 k a0 l1 l2 l3 a4 true) else ((field_Has.f k a0 l1).bind fun t362 => (if t362 = true then ((field_Has.f k a0 l2).bind fun t363 => (affidavitlaw04_SeriesSums.j0 k a0 l1 l2 l3 a4 (!t363))) else (affidavitlaw04_SeriesSums.j0 k a0 l1 l2 l3 a4 true))))) else (affidavitlaw04_SeriesSums.j0 k a0 l1 l2 l3 a4 true))) = some r := by rw [if_pos rfl] at H; exact H
    clear H
    have H := H1
    clear H1
    have HC8 := Aside0.mk H
    clear H
    go_enter Try.func6, Try.ntmps6
    go_upto_region 3 with (first | ((with_reducible refine gate_callee (f := 14) rfl ?_); refine goesL_ (some 30) rfl rfl Try.func14 (by kernel_rfl) rfl #[] rfl (by (try simp only [List.map_toArray, List.map_cons, List.map_nil]); first | done | rfl | (simp only [List.length_drop, List.length_take]; rfl)) ?_; (with_reducible refine (affidavitlaw04_awake.calls k  true _ A6.out).mono ?_); rintro e w9 ⟨rfl, hb⟩; refine ⟨_, rfl, ?_⟩; have n0_ := Aside0.mk (below_step (by repeat (first | (with_reducible first | exact HB.out | apply below_alloc | apply pw_below_drewN | apply below_drew1) | exact HB.out)) hb); clear HB; have HB := n0_; clear n0_; (try clear hb); (try clear hb2); (try clear hk); (try clear hi)))
    (try simp only [Act.put, List.setIfInBounds_toArray, List.set_cons_zero, List.set_cons_succ])
    go_cut [56] (fun v56 wc => ∃ (kq : Nat) (x56_7 : Bool), v56 = .bool x56_7 ∧ Aside0 (affidavitlaw04_SeriesSums.j0 kq a0 l1 l2 l3 a4 x56_7 = some r) ∧ Aside0 (kq ≤ k) ∧ Aside0 (Below w.heap.size w wc))
    case first =>
      have H := HC8.out
      clear HC8
      replace H := Option.bind_eq_some_iff.mp H
      obtain ⟨t361, A100, H⟩ := H
      replace H : (if t361 = true then (if (l1.length : Int) > 40 then (affidavitlaw04_SeriesSums.j0 k a0 l1 l2 l3 a4 true) else (if (l3.length : Int) > 40 then (affidavitlaw04_SeriesSums.j0 k a0 l1 l2 l3 a4 true) else ((field_Has.f k a0 l1).bind fun t362 => (if t362 = true then ((field_Has.f k a0 l2).bind fun t363 => (affidavitlaw04_SeriesSums.j0 k a0 l1 l2 l3 a4 (!t363))) else (affidavitlaw04_SeriesSums.j0 k a0 l1 l2 l3 a4 true))))) else (affidavitlaw04_SeriesSums.j0 k a0 l1 l2 l3 a4 true)) = some r := H
      have A10 := Aside0.mk A100
      clear A100
      by_cases c11 : t361 = true
      · subst c11
        have H1 : (if (l1.length : Int) > 40 then (affidavitlaw04_SeriesSums.j0 k a0 l1 l2 l3 a4 true) else (if (l3.length : Int) > 40 then (affidavitlaw04_SeriesSums.j0 k a0 l1 l2 l3 a4 true) else ((field_Has.f k a0 l1).bind fun t362 => (if t362 = true then ((field_Has.f k a0 l2).bind fun t363 => (affidavitlaw04_SeriesSums.j0 k a0 l1 l2 l3 a4 (!t363))) else (affidavitlaw04_SeriesSums.j0 k a0 l1 l2 l3 a4 true))))) = some r := by rw [if_pos rfl] at H; exact H
        clear H
        have H := H1
        clear H1
        by_cases c12 : (l1.length : Int) > 40
        · rw [if_pos c12] at H
          have c12b0 : decide (40 < (l1.length : Int)) = true := decide_eq_true c12
          have c12b1 : decide (40 < l1.length) = true := decide_eq_true (by omega)
          clear c12
          (first | rw [c12b0] | (simp only [i64_w, i32_w]; rw [c12b0]) | skip)
          have H' := Aside0.mk H
          clear H
          go_wp2_with (first | ((with_reducible refine gate_callee (f := 26) rfl ?_); refine goesL_ (some 33) rfl rfl Try.func26 (by kernel_rfl) rfl #[.int .u64 a0] rfl (by (try simp only [List.map_toArray, List.map_cons, List.map_nil]); first | done | rfl | (simp only [List.length_drop, List.length_take]; rfl)) ?_; (with_reducible refine (affidavitlaw04_prime.calls k a0 true _ A10.out).mono ?_); rintro e w' ⟨rfl, ⟨nd, rfl⟩⟩; refine ⟨_, rfl, ?_⟩))
          go_meet
          case rel => exact ⟨_, (true), (by first | rfl | (simp; done) | (simp [*]; done)), H', ⟨by first | omega | exact Nat.le_refl _⟩, ⟨by repeat (first | (with_reducible first | exact HB.out | apply below_alloc | apply pw_below_drewN | apply below_drew1) | exact HB.out)⟩⟩
        · rw [if_neg c12] at H
          have c12b0 : decide (40 < (l1.length : Int)) = false := decide_eq_false c12
          have c12b1 : decide (40 < l1.length) = false := decide_eq_false (by omega)
          clear c12
          (first | rw [c12b0] | (simp only [i64_w, i32_w]; rw [c12b0]) | skip)
          by_cases c13 : (l3.length : Int) > 40
          · rw [if_pos c13] at H
            have c13b0 : decide (40 < (l3.length : Int)) = true := decide_eq_true c13
            have c13b1 : decide (40 < l3.length) = true := decide_eq_true (by omega)
            clear c13
            have H' := Aside0.mk H
            clear H
            go_wp2_with (first | ((with_reducible refine gate_callee (f := 26) rfl ?_); refine goesL_ (some 33) rfl rfl Try.func26 (by kernel_rfl) rfl #[.int .u64 a0] rfl (by (try simp only [List.map_toArray, List.map_cons, List.map_nil]); first | done | rfl | (simp only [List.length_drop, List.length_take]; rfl)) ?_; (with_reducible refine (affidavitlaw04_prime.calls k a0 true _ A10.out).mono ?_); rintro e w' ⟨rfl, ⟨nd, rfl⟩⟩; refine ⟨_, rfl, ?_⟩))
            go_meet
            case rel => exact ⟨_, (true), (by first | rfl | (simp; done) | (simp [*]; done)), H', ⟨by first | omega | exact Nat.le_refl _⟩, ⟨by repeat (first | (with_reducible first | exact HB.out | apply below_alloc | apply pw_below_drewN | apply below_drew1) | exact HB.out)⟩⟩
          · rw [if_neg c13] at H
            have c13b0 : decide (40 < (l3.length : Int)) = false := decide_eq_false c13
            have c13b1 : decide (40 < l3.length) = false := decide_eq_false (by omega)
            clear c13
            replace H := Option.bind_eq_some_iff.mp H
            obtain ⟨t362, A140, H⟩ := H
            replace H : (if t362 = true then ((field_Has.f k a0 l2).bind fun t363 => (affidavitlaw04_SeriesSums.j0 k a0 l1 l2 l3 a4 (!t363))) else (affidavitlaw04_SeriesSums.j0 k a0 l1 l2 l3 a4 true)) = some r := H
            have A14 := Aside0.mk A140
            clear A140
            by_cases c15 : t362 = true
            · subst c15
              have H1 : ((field_Has.f k a0 l2).bind fun t363 => (affidavitlaw04_SeriesSums.j0 k a0 l1 l2 l3 a4 (!t363))) = some r := by rw [if_pos rfl] at H; exact H
              clear H
              have H := H1
              clear H1
              replace H := Option.bind_eq_some_iff.mp H
              obtain ⟨t363, A160, H⟩ := H
              replace H : (affidavitlaw04_SeriesSums.j0 k a0 l1 l2 l3 a4 (!t363)) = some r := H
              have A16 := Aside0.mk A160
              clear A160
              have H' := Aside0.mk H
              clear H
              go_wp2_with (first | ((with_reducible refine gate_callee (f := 26) rfl ?_); refine goesL_ (some 33) rfl rfl Try.func26 (by kernel_rfl) rfl #[.int .u64 a0] rfl (by (try simp only [List.map_toArray, List.map_cons, List.map_nil]); first | done | rfl | (simp only [List.length_drop, List.length_take]; rfl)) ?_; (with_reducible refine (affidavitlaw04_prime.calls k a0 true _ A10.out).mono ?_); rintro e w' ⟨rfl, ⟨nd, rfl⟩⟩; refine ⟨_, rfl, ?_⟩) | (go_at_call 28; (with_reducible refine (field_Has.calls k a0 _ _ l1 true _ ?side1 ?side2 A14.out).mono ?_); (case side1 => repeat (first | exact (Kd.C_below HR1.out (by repeat (first | (with_reducible first | exact HB.out | apply below_alloc | apply pw_below_drewN | apply below_drew1) | exact HB.out))) | (with_reducible refine Kd.C_alloc ?_ _) | (with_reducible refine Kd.C_drewN ?_ _) | (with_reducible refine Kd.C_drew ?_))); (case side2 => exact HC1.out); rintro e w' ⟨rfl, ⟨nd, rfl⟩⟩) | (go_at_call 28; (with_reducible refine (field_Has.calls k a0 _ _ l2 t363 _ ?side1 ?side2 A16.out).mono ?_); (case side1 => repeat (first | exact (Kd.C_below HR2.out (by repeat (first | (with_reducible first | exact HB.out | apply below_alloc | apply pw_below_drewN | apply below_drew1) | exact HB.out))) | (with_reducible refine Kd.C_alloc ?_ _) | (with_reducible refine Kd.C_drewN ?_ _) | (with_reducible refine Kd.C_drew ?_))); (case side2 => exact HC2.out); rintro e w' ⟨rfl, ⟨nd, rfl⟩⟩))
              go_meet
              case rel => exact ⟨_, (!t363), (by first | rfl | (simp; done) | (simp [*]; done)), H', ⟨by first | omega | exact Nat.le_refl _⟩, ⟨by repeat (first | (with_reducible first | exact HB.out | apply below_alloc | apply pw_below_drewN | apply below_drew1) | exact HB.out)⟩⟩
            · replace c15 := Bool.eq_false_iff.mpr c15
              subst c15
              have H1 : (affidavitlaw04_SeriesSums.j0 k a0 l1 l2 l3 a4 true) = some r := by rw [if_neg (show ¬ (false = true) by decide)] at H; exact H
              clear H
              have H := H1
              clear H1
              have H' := Aside0.mk H
              clear H
              go_wp2_with (first | ((with_reducible refine gate_callee (f := 26) rfl ?_); refine goesL_ (some 33) rfl rfl Try.func26 (by kernel_rfl) rfl #[.int .u64 a0] rfl (by (try simp only [List.map_toArray, List.map_cons, List.map_nil]); first | done | rfl | (simp only [List.length_drop, List.length_take]; rfl)) ?_; (with_reducible refine (affidavitlaw04_prime.calls k a0 true _ A10.out).mono ?_); rintro e w' ⟨rfl, ⟨nd, rfl⟩⟩; refine ⟨_, rfl, ?_⟩) | (go_at_call 28; (with_reducible refine (field_Has.calls k a0 _ _ l1 false _ ?side1 ?side2 A14.out).mono ?_); (case side1 => repeat (first | exact (Kd.C_below HR1.out (by repeat (first | (with_reducible first | exact HB.out | apply below_alloc | apply pw_below_drewN | apply below_drew1) | exact HB.out))) | (with_reducible refine Kd.C_alloc ?_ _) | (with_reducible refine Kd.C_drewN ?_ _) | (with_reducible refine Kd.C_drew ?_))); (case side2 => exact HC1.out); rintro e w' ⟨rfl, ⟨nd, rfl⟩⟩))
              go_meet
              case rel => exact ⟨_, (true), (by first | rfl | (simp; done) | (simp [*]; done)), H', ⟨by first | omega | exact Nat.le_refl _⟩, ⟨by repeat (first | (with_reducible first | exact HB.out | apply below_alloc | apply pw_below_drewN | apply below_drew1) | exact HB.out)⟩⟩
      · replace c11 := Bool.eq_false_iff.mpr c11
        subst c11
        have H1 : (affidavitlaw04_SeriesSums.j0 k a0 l1 l2 l3 a4 true) = some r := by rw [if_neg (show ¬ (false = true) by decide)] at H; exact H
        clear H
        have H := H1
        clear H1
        have H' := Aside0.mk H
        clear H
        go_wp2_with (first | ((with_reducible refine gate_callee (f := 26) rfl ?_); refine goesL_ (some 33) rfl rfl Try.func26 (by kernel_rfl) rfl #[.int .u64 a0] rfl (by (try simp only [List.map_toArray, List.map_cons, List.map_nil]); first | done | rfl | (simp only [List.length_drop, List.length_take]; rfl)) ?_; (with_reducible refine (affidavitlaw04_prime.calls k a0 false _ A10.out).mono ?_); rintro e w' ⟨rfl, ⟨nd, rfl⟩⟩; refine ⟨_, rfl, ?_⟩))
        go_meet
        case rel => exact ⟨_, (true), (by first | rfl | (simp; done) | (simp [*]; done)), H', ⟨by first | omega | exact Nat.le_refl _⟩, ⟨by repeat (first | (with_reducible first | exact HB.out | apply below_alloc | apply pw_below_drewN | apply below_drew1) | exact HB.out)⟩⟩
    case rest =>
      clear HC8
      try clear c1
      try clear c2
      try clear p2
      try clear c3
      try clear c6
      try clear c7
      try clear c11
      try clear c12
      try clear c12b0
      try clear c12b1
      try clear c13
      try clear c13b0
      try clear c13b1
      try clear c14
      try clear c15
      obtain ⟨kq, x56_7, rfl, HA, HJ7, HB⟩ := hcut
      cases kq with
      | zero => exact absurd HA.out (by simp [affidavitlaw04_SeriesSums.j0])
      | succ kj7 =>
        have H := HA.out
        clear HA
        simp only [affidavitlaw04_SeriesSums.j0] at H
        by_cases c17 : x56_7 = true
        · subst c17
          have H1 : (some true) = some r := by rw [if_pos rfl] at H; exact H
          clear H
          have H := H1
          clear H1
          obtain rfl := Option.some.inj H
          go_wp2
          go_ret
          exact ⟨by first | rfl | (simp [errW_none, errW_some] <;> rfl) | (simp [*, errW_none, errW_some] <;> rfl), by repeat (first | (with_reducible first | exact HB.out | apply below_alloc | apply pw_below_drewN | apply below_drew1) | exact HB.out)⟩
        · replace c17 := Bool.eq_false_iff.mpr c17
          subst c17
          have H1 : ((series_Rule.f kj7 a0 l1).bind fun bt364 => (if bt364.2 = 0 then (if (l1.length : Int) > 0 then (if 1 ≤ (l1.length : Int) then ((series_Rule.f kj7 a0 (l1.drop 1)).bind fun bt369 => (if bt369.2 = 0 then (if (bt369.1.length : Int) > (bt364.1.length : Int) then (none) else (affidavitlaw04_SeriesSums.j1 kj7 a0 l1 l2 l3 a4 bt364.1)) else (none))) else (none)) else (affidavitlaw04_SeriesSums.j1 kj7 a0 l1 l2 l3 a4 bt364.1)) else (none))) = some r := by rw [if_neg (show ¬ (false = true) by decide)] at H; exact H
          clear H
          have H := H1
          clear H1
          replace H := Option.bind_eq_some_iff.mp H
          obtain ⟨⟨t364, t367⟩, A180, H⟩ := H
          replace H : (if t367 = 0 then (if (l1.length : Int) > 0 then (if 1 ≤ (l1.length : Int) then ((series_Rule.f kj7 a0 (l1.drop 1)).bind fun bt369 => (if bt369.2 = 0 then (if (bt369.1.length : Int) > (t364.length : Int) then (none) else (affidavitlaw04_SeriesSums.j1 kj7 a0 l1 l2 l3 a4 t364)) else (none))) else (none)) else (affidavitlaw04_SeriesSums.j1 kj7 a0 l1 l2 l3 a4 t364)) else (none)) = some r := H
          have A18 := Aside0.mk A180
          clear A180
          by_cases c19 : t367 = 0
          · rw [if_pos c19] at H
            have c19b0 : (t367 == 0) = true := beq_iff_eq.mpr c19
            have c19b1 : (t367 != 0) = false := bne_eq_false_iff_eq.mpr c19
            clear c19
            have HC20 := Aside0.mk H
            clear H
            go_upto_if 67 with (first | ((with_reducible refine gate_callee (f := 25) rfl ?_); refine goesL_ (some 60) rfl rfl Try.func25 (by kernel_rfl) rfl #[.int .u64 a0, .slice A1 l1.length c1] rfl (by (try simp only [List.map_toArray, List.map_cons, List.map_nil]); first | done | rfl | (simp only [List.length_drop, List.length_take]; rfl)) ?_; (with_reducible refine (series_Rule.calls kj7 a0 _ _ l1 t364 t367 _ ?side1 ?side2 A18.out).mono ?_); (case side1 => repeat (first | exact (Kd.C_below HR1.out HB.out) | (with_reducible refine Kd.C_alloc ?_ _) | (with_reducible refine Kd.C_drewN ?_ _) | (with_reducible refine Kd.C_drew ?_))); (case side2 => exact HC1.out); rintro e w21 ⟨v365, rfl, ho0, hb⟩; refine ⟨_, rfl, ?_⟩; have n0_ := Aside0.mk (Kd.V_lower (Kd.V_mono (ok' := fun k_ => True) ho0 (fun k_ hk_ => trivial)) (below_size (by repeat (first | (with_reducible first | exact HB.out | apply below_alloc | apply pw_below_drewN | apply below_drew1) | exact HB.out)))); have n1_ := Aside0.mk (below_step (by repeat (first | (with_reducible first | exact HB.out | apply below_alloc | apply pw_below_drewN | apply below_drew1) | exact HB.out)) hb); clear HB; have HO366 := n0_; have HB := n1_; clear n0_ n1_; (try clear hb); (try clear hb2); (try clear hk); (try clear hi); (try clear ho0)))
            (try simp only [Act.put, List.setIfInBounds_toArray, List.set_cons_zero, List.set_cons_succ])
            go_cut [] (fun wc => ∃ (kq : Nat), Aside0 (affidavitlaw04_SeriesSums.j1 kq a0 l1 l2 l3 a4 t364 = some r) ∧ Aside0 (kq ≤ kj7) ∧ Aside0 (Kd.V (Kd.int .u64) 22 wc w.heap.size (fun _ => True) v365 t364) ∧ Aside0 (Below w.heap.size w wc))
            case first =>
              have H := HC20.out
              clear HC20
              by_cases c22 : (l1.length : Int) > 0
              · rw [if_pos c22] at H
                have c22b0 : decide (0 < (l1.length : Int)) = true := decide_eq_true c22
                have c22x : (0 < l1.length) := by omega
                have c22b1 : decide (0 < l1.length) = true := decide_eq_true (by omega)
                clear c22
                (first | rw [c22b0] | (simp only [i64_w, i32_w]; rw [c22b0]) | skip)
                by_cases c23 : 1 ≤ (l1.length : Int)
                · rw [if_pos c23] at H
                  have c23b0 := eq_true c23
                  have c23b1 : decide (1 ≤ (l1.length : Int)) = true := decide_eq_true c23
                  clear c23
                  replace H := Option.bind_eq_some_iff.mp H
                  obtain ⟨⟨t369, t372⟩, A240, H⟩ := H
                  replace H : (if t372 = 0 then (if (t369.length : Int) > (t364.length : Int) then (none) else (affidavitlaw04_SeriesSums.j1 kj7 a0 l1 l2 l3 a4 t364)) else (none)) = some r := H
                  have A24 := Aside0.mk A240
                  clear A240
                  by_cases c25 : t372 = 0
                  · rw [if_pos c25] at H
                    have c25b0 : (t372 == 0) = true := beq_iff_eq.mpr c25
                    have c25b1 : (t372 != 0) = false := bne_eq_false_iff_eq.mpr c25
                    clear c25
                    by_cases c26 : (t369.length : Int) > (t364.length : Int)
                    · rw [if_pos c26] at H
                      exact absurd H (by simp)
                    · rw [if_neg c26] at H
                      have c26b0 : decide ((t364.length : Int) < (t369.length : Int)) = false := decide_eq_false c26
                      have c26b1 : decide (t364.length < t369.length) = false := decide_eq_false (fun h => c26 (Int.ofNat_lt.mpr h))
                      clear c26
                      have H' := Aside0.mk H
                      clear H
                      obtain ⟨i027, hi027, _, hsz27, _⟩ := info_parts info22
                      obtain ⟨A27, hcut27, hA27, hC27⟩ := print_drop_of (P := Try.prog) (Value.int .u64) 0 23 22 .i64 Try.underlying23 hi027 hsz27 A1 c1 l1 1 (by omega) (of_decide_eq_true (by first | (with_reducible assumption) | assumption)) HC1.out
                      have HR368 := Aside0.mk (Kd.C_of_reads (h1 := fun _ => rfl) (hA27 _ (Kd.reads_of_C HR1.out)))
                      have HC368 := Aside0.mk hC27
                      clear hA27 hC27 hi027 hsz27
                      go_wp2_with (first | ((with_reducible refine gate_callee (f := 25) rfl ?_); refine goesL_ (some 72) rfl rfl Try.func25 (by kernel_rfl) rfl #[.int .u64 a0, .slice A27 (l1.drop 1).length (c1 - 1)] rfl (by (try simp only [List.map_toArray, List.map_cons, List.map_nil]); first | done | (rw [show (l1.drop 1).length = (l1.length - 1) from List.length_drop] <;> rfl) | rfl | (simp only [List.length_drop, List.length_take]; rfl)) ?_; (with_reducible refine (series_Rule.calls kj7 a0 _ _ (l1.drop 1) t369 t372 _ ?side1 ?side2 A24.out).mono ?_); (case side1 => repeat (first | exact (Kd.C_below HR368.out HB.out) | (with_reducible refine Kd.C_alloc ?_ _) | (with_reducible refine Kd.C_drewN ?_ _) | (with_reducible refine Kd.C_drew ?_))); (case side2 => exact HC368.out); rintro e w28 ⟨v370, rfl, ho0, hb⟩; refine ⟨_, rfl, ?_⟩; have n0_ := Aside0.mk (Kd.V_below (by (with_reducible repeat (first | apply Kd.V_alloc | apply Kd.V_drewN | apply Kd.V_drew)); exact HO366.out) hb); have n1_ := Aside0.mk (Kd.V_lower (Kd.V_mono (ok' := fun k_ => True) ho0 (fun k_ hk_ => trivial)) (below_size (by repeat (first | (with_reducible first | exact HB.out | apply below_alloc | apply pw_below_drewN | apply below_drew1) | exact HB.out)))); have n2_ := Aside0.mk (below_step (by repeat (first | (with_reducible first | exact HB.out | apply below_alloc | apply pw_below_drewN | apply below_drew1) | exact HB.out)) hb); clear HO366; clear HB; have HO366 := n0_; have HO371 := n1_; have HB := n2_; clear n0_ n1_ n2_; (try clear hb); (try clear hb2); (try clear hk); (try clear hi); (try clear ho0); obtain ⟨Ao29, co29, eo29⟩ := Kd.V_slice HO371.out; subst eo29; obtain ⟨Ao30, co30, eo30⟩ := Kd.V_slice HO366.out; subst eo30))
                      go_meet
                      case rel => exact ⟨_, H', ⟨by have := HJ7.out; first | omega | exact Nat.le_refl _⟩, ⟨by (with_reducible repeat (first | apply Kd.V_alloc | apply Kd.V_drewN | apply Kd.V_drew)); exact HO366.out⟩, ⟨by repeat (first | (with_reducible first | exact HB.out | apply below_alloc | apply pw_below_drewN | apply below_drew1) | exact HB.out)⟩⟩
                  · rw [if_neg c25] at H
                    exact absurd H (by simp)
                · rw [if_neg c23] at H
                  exact absurd H (by simp)
              · rw [if_neg c22] at H
                have c22b0 : decide (0 < (l1.length : Int)) = false := decide_eq_false c22
                have c22x : ¬ (0 < l1.length) := by omega
                have c22b1 : decide (0 < l1.length) = false := decide_eq_false (by omega)
                clear c22
                (first | rw [c22b0] | (simp only [i64_w, i32_w]; rw [c22b0]) | skip)
                have H' := Aside0.mk H
                clear H
                go_wp2
                go_meet
                case rel => exact ⟨_, H', ⟨by have := HJ7.out; first | omega | exact Nat.le_refl _⟩, ⟨by (with_reducible repeat (first | apply Kd.V_alloc | apply Kd.V_drewN | apply Kd.V_drew)); exact HO366.out⟩, ⟨by repeat (first | (with_reducible first | exact HB.out | apply below_alloc | apply pw_below_drewN | apply below_drew1) | exact HB.out)⟩⟩
            case rest =>
              clear HC20
              try clear c1
              try clear c2
              try clear p2
              try clear c3
              try clear c6
              try clear c7
              try clear c11
              try clear c12
              try clear c12b0
              try clear c12b1
              try clear c13
              try clear c13b0
              try clear c13b1
              try clear c14
              try clear c15
              try clear c17
              try clear c19
              try clear c19b0
              try clear c19b1
              try clear c22
              try clear c22b0
              try clear c22b1
              try clear c23
              try clear c23b0
              try clear c23b1
              try clear c25
              try clear c25b0
              try clear c25b1
              try clear c26
              try clear c26b0
              try clear c26b1
              try clear p2
              obtain ⟨kq, HA, HJ19, HO_11, HB⟩ := hcut
              cases kq with
              | zero => exact absurd HA.out (by simp [affidavitlaw04_SeriesSums.j1])
              | succ kj19 =>
                have H := HA.out
                clear HA
                simp only [affidavitlaw04_SeriesSums.j1] at H
                have HC31 := Aside0.mk H
                clear H
                go_upto_if 88 with (fail)
                go_cut [] (fun wc => ∃ (kq : Nat), Aside0 (affidavitlaw04_SeriesSums.j3 kq a0 l1 l3 a4 = some r) ∧ Aside0 (kq ≤ kj19) ∧ Aside0 (Below w.heap.size w wc))
                case first =>
                  have H := HC31.out
                  clear HC31
                  by_cases c32 : (l2.length : Int) = (l1.length : Int)
                  · rw [if_pos c32] at H
                    have c32b0 : ((l2.length : Int) == (l1.length : Int)) = true := beq_iff_eq.mpr c32
                    have c32b1 : ((l2.length : Int) != (l1.length : Int)) = false := bne_eq_false_iff_eq.mpr c32
                    have c32b2 : (l2.length == l1.length) = true := by first | simpa using c32 | (simp at c32 ⊢; omega)
                    clear c32
                    (first | rw [c32b0] | (simp only [i64_w, i32_w]; rw [c32b0]) | skip)
                    have H' := Aside0.mk H
                    clear H
                    go_wp2
                    go_loopg [15, 16] kj19 (fun kq v15 v16 w' => ∃ (x15_3 : List Int) (x16_3 : Int), v16 = .int .i64 x16_3 ∧ Aside0 (affidavitlaw04_SeriesSums.l0 kq a0 l1 l2 l3 a4 t364 x15_3 x16_3 = some r) ∧ Aside0 (kq ≤ kj19) ∧ Aside0 (Kd.V (Kd.int .u64) 22 w' w.heap.size (fun k_ => some k_ ≠ (v15 : Value).ownBlock) v365 t364) ∧ Aside0 (Kd.R (Kd.int .u64) 22 w' w.heap.size (fun _ => True) v15 x15_3) ∧ Aside0 (Below w.heap.size w w'))
                    case atStart => exact ⟨(([] : List Int)), (0), (by first | rfl | (simp; done) | (simp [*]; done)), H', ⟨Nat.le_refl _⟩, ⟨by (with_reducible repeat (first | apply Kd.V_alloc | apply Kd.V_drewN | apply Kd.V_drew)); exact Kd.V_mono HO_11.out (fun _ hk => (by simp [Value.ownBlock]))⟩, ⟨by first | exact Kd.R_nil _ _ _ _ _ | exact Kd.N_nil _ _ _ _ _ | exact Kd.V_nil _ _ _ _ _ | exact Kd.Q_nil _ _ _ _ _ | exact Kd.S_nil _ _ _ _ _⟩, ⟨by repeat (first | (with_reducible first | exact HB.out | apply below_alloc | apply pw_below_drewN | apply below_drew1) | exact HB.out)⟩⟩
                    case round =>
                      clear H'
                      try clear c1
                      try clear c2
                      try clear p2
                      try clear c3
                      try clear c6
                      try clear c7
                      try clear c11
                      try clear c12
                      try clear c12b0
                      try clear c12b1
                      try clear c13
                      try clear c13b0
                      try clear c13b1
                      try clear c14
                      try clear c15
                      try clear c17
                      try clear c19
                      try clear c19b0
                      try clear c19b1
                      try clear c22
                      try clear c22b0
                      try clear c22b1
                      try clear c23
                      try clear c23b0
                      try clear c23b1
                      try clear c25
                      try clear c25b0
                      try clear c25b1
                      try clear c26
                      try clear c26b0
                      try clear c26b1
                      try clear c32
                      try clear c32b0
                      try clear c32b1
                      try clear c32b2
                      try clear p2
                      obtain ⟨x15_3, x16_3, rfl, HA, HK3, HO_11, HO_15, HB⟩ := hrel
                      cases gk with
                      | zero => exact absurd HA.out (by simp [affidavitlaw04_SeriesSums.l0])
                      | succ k3 =>
                        have H := HA.out
                        clear HA
                        simp only [affidavitlaw04_SeriesSums.l0] at H
                        by_cases c33 : x16_3 < (l1.length : Int)
                        · rw [if_pos c33] at H
                          have c33b0 : decide (x16_3 < (l1.length : Int)) = true := decide_eq_true c33
                          clear c33
                          by_cases c34 : 0 ≤ x16_3
                          · rw [if_pos c34] at H
                            have c34b0 : decide (0 ≤ x16_3) = true := decide_eq_true c34
                            clear c34
                            by_cases c35 : x16_3 < (l2.length : Int)
                            · rw [if_pos c35] at H
                              have c35b0 : decide (x16_3 < (l2.length : Int)) = true := decide_eq_true c35
                              clear c35
                              replace H := Option.bind_eq_some_iff.mp H
                              obtain ⟨⟨t375, t376⟩, A360, H⟩ := H
                              replace H : (if x15_3.length < 17592186044416 then (affidavitlaw04_SeriesSums.l0 k3 a0 l1 l2 l3 a4 t364 (x15_3 ++ [t375]) (wrap64 (x16_3 + 1))) else (none)) = some r := H
                              have A36 := Aside0.mk A360
                              clear A360
                              by_cases c37 : x15_3.length < 17592186044416
                              · rw [if_pos c37] at H
                                have LMc37 := Aside0.mk c37
                                clear c37
                                obtain ⟨y377, hy377⟩ : ∃ y_ : List Int, y_ = (x15_3 ++ [t375]) := ⟨_, rfl⟩
                                replace H : (affidavitlaw04_SeriesSums.l0 k3 a0 l1 l2 l3 a4 t364 y377 (wrap64 (x16_3 + 1))) = some r := by first | (rw [hy377]; with_reducible exact H) | (have H2_ := (Option.bind_some _ _).symm.trans H; rw [hy377]; with_reducible exact H2_) | (have H2_ := (Option.bind_some _ _).symm.trans H; with_reducible exact H2_) | with_reducible exact H | (rw [hy377]; exact H) | exact H
                                have Ny377 := Aside0.mk hy377
                                clear hy377
                                have H' := Aside0.mk H
                                clear H
                                try go_wp2
                                have n0_ := Aside0.mk (Kd.V_drew HO_11.out)
                                have n1_ := Aside0.mk (Kd.R_drew HO_15.out)
                                have n2_ := Aside0.mk (below_drew1 HB.out)
                                clear HO_11
                                clear HO_15
                                clear HB
                                have HO_11 := n0_
                                have HO_15 := n1_
                                have HB := n2_
                                clear n0_ n1_ n2_
                                have p373 : 0 ≤ (x16_3 : Int) := of_decide_eq_true (by first | (with_reducible assumption) | assumption)
                                have q373 : x16_3 < (l1.length : Int) := of_decide_eq_true (by first | (with_reducible assumption) | assumption)
                                obtain ⟨ad373, e373, hx373_0⟩ := Kd.at_int HR1.out x16_3 p373 q373
                                have hw373_0 := hx373_0
                                cases e373
                                replace hx373_0 := (HB.out.cell (World.block_lt_of_cell? w _ hx373_0)).trans hx373_0
                                replace p373 := eq_true p373
                                replace q373 := eq_true q373
                                have p374 : 0 ≤ (x16_3 : Int) := of_decide_eq_true (by first | (with_reducible assumption) | assumption)
                                have q374 : x16_3 < (l2.length : Int) := of_decide_eq_true (by first | (with_reducible assumption) | assumption)
                                obtain ⟨ad374, e374, hx374_0⟩ := Kd.at_int HR2.out x16_3 p374 q374
                                have hw374_0 := hx374_0
                                cases e374
                                replace hx374_0 := (HB.out.cell (World.block_lt_of_cell? w _ hx374_0)).trans hx374_0
                                replace p374 := eq_true p374
                                replace q374 := eq_true q374
                                refine start_ (n := 15) (S := fun w' => w'.cell? (ad373.add (x16_3).toNat) = some (.int .u64 (rd l1 x16_3)) ∧ w'.cell? (ad374.add (x16_3).toNat) = some (.int .u64 (rd l2 x16_3))) (ds := []) #[false, false, false, false, false, false, false, false, false, false, false, false, false, false, false] (by kernel_rfl) rfl rfl ⟨((HB.out.cell (World.block_lt_of_cell? w _ hw373_0)).trans hw373_0), ((HB.out.cell (World.block_lt_of_cell? w _ hw374_0)).trans hw374_0)⟩ (fun hHeld => ?_); refine with_tabW affidavitlaw04_SeriesSums.tab17 affidavitlaw04_SeriesSums.bits17 (fun HT_ HW_ => ?_)
                                generalize wr.drew = w38 at HO_11 HO_15 HB hx373_0 hx374_0 hHeld ⊢
                                refine pure_ (i := 0) (N := some 96) (v := ?_) (a' := ?_) #[true, false, false, false, false, false, false, false, false, false, false, false, false, false, false] rfl rfl (any_of HT_.out (by kernel_rfl)) (fun _ _ _ h => h) (Or.inl ⟨by rfl, ?_⟩) ?_ ?_
                                rotate_left
                                · intro w'
                                  go_simp
                                  with_reducible rfl
                                rotate_left
                                · simp only [Act.put, List.setIfInBounds_toArray, List.set_cons_zero, List.set_cons_succ, i64_w, i32_w]
                                  rfl
                                refine pure_ (i := 1) (N := some 97) (v := ?_) (a' := ?_) #[true, true, false, false, false, false, false, false, false, false, false, false, false, false, false] rfl rfl (any_of HT_.out (by kernel_rfl)) (fun _ _ _ h => h) (Or.inl ⟨by rfl, ?_⟩) ?_ ?_
                                rotate_left
                                · intro w'
                                  go_simp
                                  with_reducible rfl
                                rotate_left
                                · simp only [Act.put, List.setIfInBounds_toArray, List.set_cons_zero, List.set_cons_succ, i64_w, i32_w]
                                  rfl
                                refine pure_ (i := 2) (N := some 98) (v := ?_) (a' := ?_) #[true, true, true, false, false, false, false, false, false, false, false, false, false, false, false] rfl rfl (any_of HT_.out (by kernel_rfl)) (fun _ _ _ h => h) (Or.inl ⟨by rfl, ?_⟩) ?_ ?_
                                rotate_left
                                · intro w'
                                  go_simp
                                  with_reducible rfl
                                rotate_left
                                · simp only [Act.put, List.setIfInBounds_toArray, List.set_cons_zero, List.set_cons_succ, i64_w, i32_w]
                                  rfl
                                refine pure_ (i := 3) (N := some 99) (v := ?_) (a' := ?_) #[true, true, true, true, false, false, false, false, false, false, false, false, false, false, false] rfl rfl (any_of HT_.out (by kernel_rfl)) (fun _ _ _ h => h) (Or.inl ⟨by rfl, ?_⟩) ?_ ?_
                                rotate_left
                                · intro w'
                                  go_simp
                                  with_reducible rfl
                                rotate_left
                                · simp only [Act.put, List.setIfInBounds_toArray, List.set_cons_zero, List.set_cons_succ, i64_w, i32_w]
                                  rfl
                                refine pure_ (i := 5) (N := some 101) (v := ?_) (a' := ?_) #[true, true, true, true, false, true, false, false, false, false, false, false, false, false, false] rfl rfl (any_of HT_.out (by kernel_rfl)) (fun _ _ _ h => h) (Or.inl ⟨by rfl, ?_⟩) ?_ ?_
                                rotate_left
                                · intro w'
                                  go_simp
                                  with_reducible rfl
                                rotate_left
                                · simp only [Act.put, List.setIfInBounds_toArray, List.set_cons_zero, List.set_cons_succ, i64_w, i32_w]
                                  rfl
                                refine pure_ (i := 6) (N := some 102) (v := ?_) (a' := ?_) #[true, true, true, true, false, true, true, false, false, false, false, false, false, false, false] rfl rfl (any_of HT_.out (by kernel_rfl)) (fun _ _ _ h => h) (Or.inl ⟨by rfl, ?_⟩) ?_ ?_
                                rotate_left
                                · intro w'
                                  go_simp
                                  with_reducible rfl
                                rotate_left
                                · simp only [Act.put, List.setIfInBounds_toArray, List.set_cons_zero, List.set_cons_succ, i64_w, i32_w]
                                  rfl
                                refine pure_ (i := 7) (N := some 103) (v := ?_) (a' := ?_) #[true, true, true, true, false, true, true, true, false, false, false, false, false, false, false] rfl rfl (any_of HT_.out (by kernel_rfl)) (fun _ _ _ h => h) (Or.inl ⟨by rfl, ?_⟩) ?_ ?_
                                rotate_left
                                · intro w'
                                  go_simp
                                  with_reducible rfl
                                rotate_left
                                · simp only [Act.put, List.setIfInBounds_toArray, List.set_cons_zero, List.set_cons_succ, i64_w, i32_w]
                                  rfl
                                refine take_ (i := 4) (N := some 100) (v := ?_) (a' := ?_) #[true, true, true, true, true, true, true, true, false, false, false, false, false, false, false] rfl rfl (take_ofW HT_.out HW_.out (by kernel_rfl)) (fun _ _ _ h => h) (Or.inl ⟨by rfl, ?_⟩) hHeld ?_ ?_
                                rotate_left
                                · rintro w' ⟨s0, s1⟩
                                  go_simp
                                  with_reducible rfl
                                rotate_left
                                · simp only [Act.put, List.setIfInBounds_toArray, List.set_cons_zero, List.set_cons_succ, i64_w, i32_w]
                                  rfl
                                refine take_ (i := 8) (N := some 104) (v := ?_) (a' := ?_) #[true, true, true, true, true, true, true, true, true, false, false, false, false, false, false] rfl rfl (take_ofW HT_.out HW_.out (by kernel_rfl)) (fun _ _ _ h => h) (Or.inl ⟨by rfl, ?_⟩) hHeld ?_ ?_
                                rotate_left
                                · rintro w' ⟨s0, s1⟩
                                  go_simp
                                  with_reducible rfl
                                rotate_left
                                · simp only [Act.put, List.setIfInBounds_toArray, List.set_cons_zero, List.set_cons_succ, i64_w, i32_w]
                                  rfl
                                refine one_ (i := 9) (N := some 105) #[true, true, true, true, true, true, true, true, true, true, false, false, false, false, false] rfl rfl (one_of HT_.out (by kernel_rfl)) (by decide) (fun K hK => ?_)
                                refine goes_ Try.func30 (by kernel_rfl) rfl #[.int .u64 a0, .int .u64 (rd l1 x16_3), .int .u64 (rd l2 x16_3)] (by rfl) rfl rfl (by (try simp only [List.map_toArray, List.map_cons, List.map_nil]); first | done | rfl | (simp only [List.length_drop, List.length_take]; rfl)) ?_
                                with_reducible refine (field_Add.calls k3 a0 (rd l1 x16_3) (rd l2 x16_3) t375 t376 _ A36.out).mono ?_
                                rintro e w39 ⟨rfl, hb⟩
                                refine ⟨_, rfl, ?_⟩
                                have n0_ := Aside0.mk (Kd.V_below (by (with_reducible repeat (first | apply Kd.V_alloc | apply Kd.V_drewN | apply Kd.V_drew)); exact HO_11.out) hb)
                                have n1_ := Aside0.mk (Kd.R_below (by (with_reducible repeat (first | apply Kd.R_alloc | apply Kd.R_drewN | apply Kd.R_drew)); exact HO_15.out) hb)
                                have n2_ := Aside0.mk (below_step (by repeat (first | (with_reducible first | exact HB.out | apply below_alloc | apply pw_below_drewN | apply below_drew1) | exact HB.out)) hb)
                                clear HO_11
                                clear HO_15
                                clear HB
                                have HO_11 := n0_
                                have HO_15 := n1_
                                have HB := n2_
                                clear n0_ n1_ n2_
                                (try clear hb)
                                (try clear hb2)
                                (try clear hk)
                                (try clear hi)
                                refine hK.out _ _ ⟨((HB.out.cell (World.block_lt_of_cell? w _ hw373_0)).trans hw373_0), ((HB.out.cell (World.block_lt_of_cell? w _ hw374_0)).trans hw374_0)⟩ (fun hHeld => ?_)
                                clear hK K
                                refine norm_ (a' := ?_) ?_ ?_
                                rotate_left
                                · show Act.put _ (some 105) _ = _
                                  simp only [Act.put, List.setIfInBounds_toArray, List.set_cons_zero, List.set_cons_succ, i64_w, i32_w]
                                  rfl
                                refine pure_ (i := 10) (N := some 95) (v := ?_) (a' := ?_) #[true, true, true, true, true, true, true, true, true, true, true, false, false, false, false] rfl rfl (any_of HT_.out (by kernel_rfl)) (fun _ _ _ h => h) (Or.inl ⟨by rfl, ?_⟩) ?_ ?_
                                rotate_left
                                · intro w'
                                  go_simp
                                  with_reducible rfl
                                rotate_left
                                · simp only [Act.put, List.setIfInBounds_toArray, List.set_cons_zero, List.set_cons_succ, i64_w, i32_w]
                                  rfl
                                refine pure_ (i := 11) (N := some 106) (v := ?_) (a' := ?_) #[true, true, true, true, true, true, true, true, true, true, true, true, false, false, false] rfl rfl (any_of HT_.out (by kernel_rfl)) (fun _ _ _ h => h) (Or.inl ⟨by rfl, ?_⟩) ?_ ?_
                                rotate_left
                                · intro w'
                                  go_simp
                                  with_reducible rfl
                                rotate_left
                                · simp only [Act.put, List.setIfInBounds_toArray, List.set_cons_zero, List.set_cons_succ, i64_w, i32_w]
                                  rfl
                                refine pure_ (i := 12) (N := some 107) (v := ?_) (a' := ?_) #[true, true, true, true, true, true, true, true, true, true, true, true, true, false, false] rfl rfl (any_of HT_.out (by kernel_rfl)) (fun _ _ _ h => h) (Or.inl ⟨by rfl, ?_⟩) ?_ ?_
                                rotate_left
                                · intro w'
                                  go_simp
                                  with_reducible rfl
                                rotate_left
                                · simp only [Act.put, List.setIfInBounds_toArray, List.set_cons_zero, List.set_cons_succ, i64_w, i32_w]
                                  rfl
                                refine pure_ (i := 13) (N := some 17) (v := ?_) (a' := ?_) #[true, true, true, true, true, true, true, true, true, true, true, true, true, true, false] rfl rfl (any_of HT_.out (by kernel_rfl)) (fun _ _ _ h => h) (Or.inl ⟨by rfl, ?_⟩) ?_ ?_
                                rotate_left
                                · intro w'
                                  go_simp
                                  with_reducible rfl
                                rotate_left
                                · simp only [Act.put, List.setIfInBounds_toArray, List.set_cons_zero, List.set_cons_succ, i64_w, i32_w]
                                  rfl
                                refine pure_ (i := 14) (N := some 18) (v := ?_) (a' := ?_) #[true, true, true, true, true, true, true, true, true, true, true, true, true, true, true] rfl rfl (any_of HT_.out (by kernel_rfl)) (fun _ _ _ h => h) (Or.inl ⟨by rfl, ?_⟩) ?_ ?_
                                rotate_left
                                · intro w'
                                  go_simp
                                  with_reducible rfl
                                rotate_left
                                · simp only [Act.put, List.setIfInBounds_toArray, List.set_cons_zero, List.set_cons_succ, i64_w, i32_w]
                                  rfl
                                refine done_ (done_of HT_.out (by kernel_rfl)) ?_
                                try go_wp2_with (first | ((with_reducible refine gate_builtin (b := .append) (xs := #[.tmp 108, .tmp 110]) rfl ?_); (try (refine gate_guard (by rfl) ?_; dsimp only)); at_builtin; refine Kd.R_append (Kd.int .u64) (w0 := w) w.heap.size rfl (.tmp 108) (.tmp 110) 23 22 (.int .u64 0) 8 rfl Try.underlying23 info22 rfl (by decide) (by omega) u15 x15_3 t375 [.int .u64 t375] (fun _ => True) (fun _ => False) rfl rfl ?aP (fun _ hk => hk.elim) ?aF ?aO ?aB ?aS ?aL ?_; (case aP => exact rfl); (case aB => exact (by repeat (first | (with_reducible first | exact HB.out | apply below_alloc | apply pw_below_drewN | apply below_drew1) | exact HB.out))); (case aF => exact (fun _ _ => trivial)); (case aO => exact (by (with_reducible repeat (first | apply Kd.R_alloc | apply Kd.R_drewN | apply Kd.R_drew)); exact HO_15.out)); (case aS => exact (below_size (by repeat (first | (with_reducible first | exact HB.out | apply below_alloc | apply pw_below_drewN | apply below_drew1) | exact HB.out)))); (case aL => have := LMc37.out; omega); intro v378 w40 ho hb hg hat; rw [← Ny377.out] at ho; have n0_ := Aside0.mk (Kd.V_afterv (ok := (fun _ => True)) (by (with_reducible repeat (first | apply Kd.V_alloc | apply Kd.V_drewN | apply Kd.V_drew)); exact Kd.V_mono HO_11.out (fun _ hk => ⟨trivial, hk⟩)) hg hat); have n1_ := Aside0.mk (hb); have n2_ := Aside0.mk (ho); clear HO_11; clear HB; clear HO_15; have HO_11 := n0_; have HB := n1_; have HO379 := n2_; clear n0_ n1_ n2_; clear ho hb hg hat))
                                go_roundg k3
                                case measure => have := HJ7.out; have := HJ19.out; have := HK3.out; omega
                                case rel => exact ⟨(y377), (wrap64 (x16_3 + 1)), (by first | rfl | (simp; done) | (simp [*]; done)), H', ⟨by have := HJ7.out; have := HJ19.out; have := HK3.out; omega⟩, ⟨by (with_reducible repeat (first | apply Kd.V_alloc | apply Kd.V_drewN | apply Kd.V_drew)); exact Kd.V_mono HO_11.out (fun _ hk => hk.2)⟩, ⟨by (with_reducible repeat (first | apply Kd.R_alloc | apply Kd.R_drewN | apply Kd.R_drew)); exact HO379.out⟩, ⟨by repeat (first | (with_reducible first | exact HB.out | apply below_alloc | apply pw_below_drewN | apply below_drew1) | exact HB.out)⟩⟩
                              · rw [if_neg c37] at H
                                exact absurd H (by simp)
                            · rw [if_neg c35] at H
                              exact absurd H (by simp)
                          · rw [if_neg c34] at H
                            exact absurd H (by simp)
                        · rw [if_neg c33] at H
                          have c33b0 : decide (x16_3 < (l1.length : Int)) = false := decide_eq_false c33
                          clear c33
                          replace H := Option.bind_eq_some_iff.mp H
                          obtain ⟨⟨t380, t383⟩, A410, H⟩ := H
                          replace H : ((series_Rule.f k3 a0 x15_3).bind fun bt384 => (if t383 = 0 then (if bt384.2 = 0 then (if (wrap64 ((bt384.1.length : Int) - 1)) > (wrap64 ((wrap64 ((wrap64 ((t364.length : Int) - 1)) + (t380.length : Int))) - 1)) then (if (wrap64 ((bt384.1.length : Int) - 1)) ≤ (wrap64 ((l1.length : Int) / 2)) then (none) else (affidavitlaw04_SeriesSums.j3 k3 a0 l1 l3 a4)) else (affidavitlaw04_SeriesSums.j3 k3 a0 l1 l3 a4)) else (none)) else (none))) = some r := H
                          have A41 := Aside0.mk A410
                          clear A410
                          replace H := Option.bind_eq_some_iff.mp H
                          obtain ⟨⟨t384, t387⟩, A420, H⟩ := H
                          replace H : (if t383 = 0 then (if t387 = 0 then (if (wrap64 ((t384.length : Int) - 1)) > (wrap64 ((wrap64 ((wrap64 ((t364.length : Int) - 1)) + (t380.length : Int))) - 1)) then (if (wrap64 ((t384.length : Int) - 1)) ≤ (wrap64 ((l1.length : Int) / 2)) then (none) else (affidavitlaw04_SeriesSums.j3 k3 a0 l1 l3 a4)) else (affidavitlaw04_SeriesSums.j3 k3 a0 l1 l3 a4)) else (none)) else (none)) = some r := H
                          have A42 := Aside0.mk A420
                          clear A420
                          by_cases c43 : t383 = 0
                          · rw [if_pos c43] at H
                            have c43b0 : (t383 == 0) = true := beq_iff_eq.mpr c43
                            have c43b1 : (t383 != 0) = false := bne_eq_false_iff_eq.mpr c43
                            clear c43
                            by_cases c44 : t387 = 0
                            · rw [if_pos c44] at H
                              have c44b0 : (t387 == 0) = true := beq_iff_eq.mpr c44
                              have c44b1 : (t387 != 0) = false := bne_eq_false_iff_eq.mpr c44
                              clear c44
                              by_cases c45 : (wrap64 ((t384.length : Int) - 1)) > (wrap64 ((wrap64 ((wrap64 ((t364.length : Int) - 1)) + (t380.length : Int))) - 1))
                              · rw [if_pos c45] at H
                                have c45b0 : decide ((wrap64 ((wrap64 ((wrap64 ((t364.length : Int) - 1)) + (t380.length : Int))) - 1)) < (wrap64 ((t384.length : Int) - 1))) = true := decide_eq_true c45
                                clear c45
                                by_cases c46 : (wrap64 ((t384.length : Int) - 1)) ≤ (wrap64 ((l1.length : Int) / 2))
                                · rw [if_pos c46] at H
                                  exact absurd H (by simp)
                                · rw [if_neg c46] at H
                                  have c46b0 : decide ((wrap64 ((t384.length : Int) - 1)) ≤ (wrap64 ((l1.length : Int) / 2))) = false := decide_eq_false c46
                                  clear c46
                                  have H' := Aside0.mk H
                                  clear H
                                  go_wp2_with (first | ((with_reducible refine gate_callee (f := 25) rfl ?_); refine goesL_ (some 115) rfl rfl Try.func25 (by kernel_rfl) rfl #[.int .u64 a0, .slice A2 l2.length c2] rfl (by (try simp only [List.map_toArray, List.map_cons, List.map_nil]); first | done | rfl | (simp only [List.length_drop, List.length_take]; rfl)) ?_; (with_reducible refine (series_Rule.calls k3 a0 _ _ l2 t380 t383 _ ?side1 ?side2 A41.out).mono ?_); (case side1 => repeat (first | exact (Kd.C_below HR2.out HB.out) | (with_reducible refine Kd.C_alloc ?_ _) | (with_reducible refine Kd.C_drewN ?_ _) | (with_reducible refine Kd.C_drew ?_))); (case side2 => exact HC2.out); rintro e w47 ⟨v381, rfl, ho0, hb⟩; refine ⟨_, rfl, ?_⟩; have n0_ := Aside0.mk (Kd.V_below (by (with_reducible repeat (first | apply Kd.V_alloc | apply Kd.V_drewN | apply Kd.V_drew)); exact HO_11.out) hb); have n1_ := Aside0.mk (Kd.R_below (by (with_reducible repeat (first | apply Kd.R_alloc | apply Kd.R_drewN | apply Kd.R_drew)); exact HO_15.out) hb); have n2_ := Aside0.mk (Kd.V_lower (Kd.V_mono (ok' := fun k_ => some k_ ≠ (u15 : Value).ownBlock) ho0 (fun k_ hk_ => (Kd.fresh' (Kd.R_lt (by (with_reducible repeat (first | apply Kd.R_alloc | apply Kd.R_drewN | apply Kd.R_drew)); exact HO_15.out)) k_ hk_))) (below_size (by repeat (first | (with_reducible first | exact HB.out | apply below_alloc | apply pw_below_drewN | apply below_drew1) | exact HB.out)))); have n3_ := Aside0.mk (below_step (by repeat (first | (with_reducible first | exact HB.out | apply below_alloc | apply pw_below_drewN | apply below_drew1) | exact HB.out)) hb); clear HO_11; clear HO_15; clear HB; have HO_11 := n0_; have HO_15 := n1_; have HO382 := n2_; have HB := n3_; clear n0_ n1_ n2_ n3_; (try clear hb); (try clear hb2); (try clear hk); (try clear hi); (try clear ho0); obtain ⟨Ao48, co48, eo48⟩ := Kd.R_slice HO_15.out; subst eo48) | ((with_reducible refine gate_callee (f := 25) rfl ?_); refine goesL_ (some 121) rfl rfl Try.func25 (by kernel_rfl) rfl #[.int .u64 a0, .slice Ao48 x15_3.length co48] rfl (by (try simp only [List.map_toArray, List.map_cons, List.map_nil]); first | done | rfl | (simp only [List.length_drop, List.length_take]; rfl)) ?_; (with_reducible refine (series_Rule.calls k3 a0 _ _ x15_3 t384 t387 _ ?side1 ?side2 A42.out).mono ?_); (case side1 => repeat (first | exact (Kd.R_reads' HO_15.out).2.2 | (with_reducible refine Kd.C_alloc ?_ _) | (with_reducible refine Kd.C_drewN ?_ _) | (with_reducible refine Kd.C_drew ?_))); (case side2 => exact (Kd.R_reads' HO_15.out).2.1); rintro e w49 ⟨v385, rfl, ho0, hb⟩; refine ⟨_, rfl, ?_⟩; have n0_ := Aside0.mk (Kd.V_below (by (with_reducible repeat (first | apply Kd.V_alloc | apply Kd.V_drewN | apply Kd.V_drew)); exact HO_11.out) hb); have n1_ := Aside0.mk (Kd.R_below (by (with_reducible repeat (first | apply Kd.R_alloc | apply Kd.R_drewN | apply Kd.R_drew)); exact HO_15.out) hb); have n2_ := Aside0.mk (Kd.V_below (by (with_reducible repeat (first | apply Kd.V_alloc | apply Kd.V_drewN | apply Kd.V_drew)); exact HO382.out) hb); have n3_ := Aside0.mk (Kd.V_lower (Kd.V_mono (ok' := fun k_ => some k_ ≠ (.slice Ao48 x15_3.length co48 : Value).ownBlock) ho0 (fun k_ hk_ => (Kd.fresh' (Kd.R_lt (by (with_reducible repeat (first | apply Kd.R_alloc | apply Kd.R_drewN | apply Kd.R_drew)); exact HO_15.out)) k_ hk_))) (below_size (by repeat (first | (with_reducible first | exact HB.out | apply below_alloc | apply pw_below_drewN | apply below_drew1) | exact HB.out)))); have n4_ := Aside0.mk (below_step (by repeat (first | (with_reducible first | exact HB.out | apply below_alloc | apply pw_below_drewN | apply below_drew1) | exact HB.out)) hb); clear HO_11; clear HO_15; clear HO382; clear HB; have HO_11 := n0_; have HO_15 := n1_; have HO382 := n2_; have HO386 := n3_; have HB := n4_; clear n0_ n1_ n2_ n3_ n4_; (try clear hb); (try clear hb2); (try clear hk); (try clear hi); (try clear ho0); obtain ⟨Ao50, co50, eo50⟩ := Kd.V_slice HO386.out; subst eo50; obtain ⟨Ao51, co51, eo51⟩ := Kd.V_slice HO_11.out; subst eo51; obtain ⟨Ao52, co52, eo52⟩ := Kd.V_slice HO382.out; subst eo52))
                                  go_meet
                                  case rel => exact ⟨_, H', ⟨by have := HJ7.out; have := HJ19.out; have := HK3.out; first | omega | exact Nat.le_refl _⟩, ⟨by repeat (first | (with_reducible first | exact HB.out | apply below_alloc | apply pw_below_drewN | apply below_drew1) | exact HB.out)⟩⟩
                              · rw [if_neg c45] at H
                                have c45b0 : decide ((wrap64 ((wrap64 ((wrap64 ((t364.length : Int) - 1)) + (t380.length : Int))) - 1)) < (wrap64 ((t384.length : Int) - 1))) = false := decide_eq_false c45
                                clear c45
                                have H' := Aside0.mk H
                                clear H
                                go_wp2_with (first | ((with_reducible refine gate_callee (f := 25) rfl ?_); refine goesL_ (some 115) rfl rfl Try.func25 (by kernel_rfl) rfl #[.int .u64 a0, .slice A2 l2.length c2] rfl (by (try simp only [List.map_toArray, List.map_cons, List.map_nil]); first | done | rfl | (simp only [List.length_drop, List.length_take]; rfl)) ?_; (with_reducible refine (series_Rule.calls k3 a0 _ _ l2 t380 t383 _ ?side1 ?side2 A41.out).mono ?_); (case side1 => repeat (first | exact (Kd.C_below HR2.out HB.out) | (with_reducible refine Kd.C_alloc ?_ _) | (with_reducible refine Kd.C_drewN ?_ _) | (with_reducible refine Kd.C_drew ?_))); (case side2 => exact HC2.out); rintro e w53 ⟨v381, rfl, ho0, hb⟩; refine ⟨_, rfl, ?_⟩; have n0_ := Aside0.mk (Kd.V_below (by (with_reducible repeat (first | apply Kd.V_alloc | apply Kd.V_drewN | apply Kd.V_drew)); exact HO_11.out) hb); have n1_ := Aside0.mk (Kd.R_below (by (with_reducible repeat (first | apply Kd.R_alloc | apply Kd.R_drewN | apply Kd.R_drew)); exact HO_15.out) hb); have n2_ := Aside0.mk (Kd.V_lower (Kd.V_mono (ok' := fun k_ => some k_ ≠ (u15 : Value).ownBlock) ho0 (fun k_ hk_ => (Kd.fresh' (Kd.R_lt (by (with_reducible repeat (first | apply Kd.R_alloc | apply Kd.R_drewN | apply Kd.R_drew)); exact HO_15.out)) k_ hk_))) (below_size (by repeat (first | (with_reducible first | exact HB.out | apply below_alloc | apply pw_below_drewN | apply below_drew1) | exact HB.out)))); have n3_ := Aside0.mk (below_step (by repeat (first | (with_reducible first | exact HB.out | apply below_alloc | apply pw_below_drewN | apply below_drew1) | exact HB.out)) hb); clear HO_11; clear HO_15; clear HB; have HO_11 := n0_; have HO_15 := n1_; have HO382 := n2_; have HB := n3_; clear n0_ n1_ n2_ n3_; (try clear hb); (try clear hb2); (try clear hk); (try clear hi); (try clear ho0); obtain ⟨Ao54, co54, eo54⟩ := Kd.R_slice HO_15.out; subst eo54) | ((with_reducible refine gate_callee (f := 25) rfl ?_); refine goesL_ (some 121) rfl rfl Try.func25 (by kernel_rfl) rfl #[.int .u64 a0, .slice Ao54 x15_3.length co54] rfl (by (try simp only [List.map_toArray, List.map_cons, List.map_nil]); first | done | rfl | (simp only [List.length_drop, List.length_take]; rfl)) ?_; (with_reducible refine (series_Rule.calls k3 a0 _ _ x15_3 t384 t387 _ ?side1 ?side2 A42.out).mono ?_); (case side1 => repeat (first | exact (Kd.R_reads' HO_15.out).2.2 | (with_reducible refine Kd.C_alloc ?_ _) | (with_reducible refine Kd.C_drewN ?_ _) | (with_reducible refine Kd.C_drew ?_))); (case side2 => exact (Kd.R_reads' HO_15.out).2.1); rintro e w55 ⟨v385, rfl, ho0, hb⟩; refine ⟨_, rfl, ?_⟩; have n0_ := Aside0.mk (Kd.V_below (by (with_reducible repeat (first | apply Kd.V_alloc | apply Kd.V_drewN | apply Kd.V_drew)); exact HO_11.out) hb); have n1_ := Aside0.mk (Kd.R_below (by (with_reducible repeat (first | apply Kd.R_alloc | apply Kd.R_drewN | apply Kd.R_drew)); exact HO_15.out) hb); have n2_ := Aside0.mk (Kd.V_below (by (with_reducible repeat (first | apply Kd.V_alloc | apply Kd.V_drewN | apply Kd.V_drew)); exact HO382.out) hb); have n3_ := Aside0.mk (Kd.V_lower (Kd.V_mono (ok' := fun k_ => some k_ ≠ (.slice Ao54 x15_3.length co54 : Value).ownBlock) ho0 (fun k_ hk_ => (Kd.fresh' (Kd.R_lt (by (with_reducible repeat (first | apply Kd.R_alloc | apply Kd.R_drewN | apply Kd.R_drew)); exact HO_15.out)) k_ hk_))) (below_size (by repeat (first | (with_reducible first | exact HB.out | apply below_alloc | apply pw_below_drewN | apply below_drew1) | exact HB.out)))); have n4_ := Aside0.mk (below_step (by repeat (first | (with_reducible first | exact HB.out | apply below_alloc | apply pw_below_drewN | apply below_drew1) | exact HB.out)) hb); clear HO_11; clear HO_15; clear HO382; clear HB; have HO_11 := n0_; have HO_15 := n1_; have HO382 := n2_; have HO386 := n3_; have HB := n4_; clear n0_ n1_ n2_ n3_ n4_; (try clear hb); (try clear hb2); (try clear hk); (try clear hi); (try clear ho0); obtain ⟨Ao56, co56, eo56⟩ := Kd.V_slice HO386.out; subst eo56; obtain ⟨Ao57, co57, eo57⟩ := Kd.V_slice HO_11.out; subst eo57; obtain ⟨Ao58, co58, eo58⟩ := Kd.V_slice HO382.out; subst eo58))
                                go_meet
                                case rel => exact ⟨_, H', ⟨by have := HJ7.out; have := HJ19.out; have := HK3.out; first | omega | exact Nat.le_refl _⟩, ⟨by repeat (first | (with_reducible first | exact HB.out | apply below_alloc | apply pw_below_drewN | apply below_drew1) | exact HB.out)⟩⟩
                            · rw [if_neg c44] at H
                              exact absurd H (by simp)
                          · rw [if_neg c43] at H
                            exact absurd H (by simp)
                  · rw [if_neg c32] at H
                    have c32b0 : ((l2.length : Int) == (l1.length : Int)) = false := beq_eq_false_iff_ne.mpr c32
                    have c32b1 : ((l2.length : Int) != (l1.length : Int)) = true := bne_iff_ne.mpr c32
                    have c32b2 : (l2.length == l1.length) = false := by first | simpa using c32 | (simp at c32 ⊢; omega)
                    (first | rw [c32b0] | (simp only [i64_w, i32_w]; rw [c32b0]) | skip)
                    have H' := Aside0.mk H
                    clear H
                    go_wp2
                    go_meet
                    case rel => exact ⟨_, H', ⟨by have := HJ7.out; have := HJ19.out; first | omega | exact Nat.le_refl _⟩, ⟨by repeat (first | (with_reducible first | exact HB.out | apply below_alloc | apply pw_below_drewN | apply below_drew1) | exact HB.out)⟩⟩
                case rest =>
                  clear HC31
                  try clear c1
                  try clear c2
                  try clear p2
                  try clear c3
                  try clear p3
                  try clear q3
                  try clear hx3
                  try clear c4
                  try clear c6
                  try clear p6
                  try clear c7
                  try clear c11
                  try clear c12
                  try clear c12b0
                  try clear c12b1
                  try clear c13
                  try clear c13b0
                  try clear c13b1
                  try clear c14
                  try clear c15
                  try clear c17
                  try clear c19
                  try clear c19b0
                  try clear c19b1
                  try clear c22
                  try clear c22b0
                  try clear c22b1
                  try clear c23
                  try clear c23b0
                  try clear c23b1
                  try clear c25
                  try clear c25b0
                  try clear c25b1
                  try clear c26
                  try clear c26b0
                  try clear c26b1
                  try clear c30
                  try clear c32
                  try clear c32b0
                  try clear c32b1
                  try clear c32b2
                  try clear c33
                  try clear c33b0
                  try clear c34
                  try clear c34b0
                  try clear c35
                  try clear c35b0
                  try clear c37
                  try clear p37
                  try clear q37
                  try clear hx37
                  try clear c43
                  try clear c43b0
                  try clear c43b1
                  try clear c44
                  try clear c44b0
                  try clear c44b1
                  try clear c45
                  try clear c45b0
                  try clear c46
                  try clear c46b0
                  try clear hx373_0
                  try clear hx374_0
                  try clear p2
                  try clear p373
                  try clear p374
                  try clear q373
                  try clear q374
                  obtain ⟨kq, HA, HJ30, HB⟩ := hcut
                  cases kq with
                  | zero => exact absurd HA.out (by simp [affidavitlaw04_SeriesSums.j3])
                  | succ kj30 =>
                    have H := HA.out
                    clear HA
                    simp only [affidavitlaw04_SeriesSums.j3] at H
                    replace H := Option.bind_eq_some_iff.mp H
                    obtain ⟨t388, A590, H⟩ := H
                    replace H : (if t388 = true then ((series_On.f kj30 a0 l1 l3 (wrap64 (2 * (wrap64 (Int.tmod a4 20))))).bind fun bt389 => ((series_On.f kj30 a0 l1 l3 (wrap64 (Int.tmod a4 20))).bind fun bt393 => ((series_On.f kj30 a0 bt393.1 l3 (wrap64 (Int.tmod a4 20))).bind fun bt397 => (if bt397.2 = 0 then ((affidavitref01_Same.f kj30 bt389.1 bt397.1).bind fun t401 => (some t401)) else (none))))) else (some true)) = some r := H
                    have A59 := Aside0.mk A590
                    clear A590
                    by_cases c60 : t388 = true
                    · subst c60
                      have H1 : ((series_On.f kj30 a0 l1 l3 (wrap64 (2 * (wrap64 (Int.tmod a4 20))))).bind fun bt389 => ((series_On.f kj30 a0 l1 l3 (wrap64 (Int.tmod a4 20))).bind fun bt393 => ((series_On.f kj30 a0 bt393.1 l3 (wrap64 (Int.tmod a4 20))).bind fun bt397 => (if bt397.2 = 0 then ((affidavitref01_Same.f kj30 bt389.1 bt397.1).bind fun t401 => (some t401)) else (none))))) = some r := by rw [if_pos rfl] at H; exact H
                      clear H
                      have H := H1
                      clear H1
                      replace H := Option.bind_eq_some_iff.mp H
                      obtain ⟨⟨t389, t390⟩, A610, H⟩ := H
                      replace H : ((series_On.f kj30 a0 l1 l3 (wrap64 (Int.tmod a4 20))).bind fun bt393 => ((series_On.f kj30 a0 bt393.1 l3 (wrap64 (Int.tmod a4 20))).bind fun bt397 => (if bt397.2 = 0 then ((affidavitref01_Same.f kj30 t389 bt397.1).bind fun t401 => (some t401)) else (none)))) = some r := H
                      have A61 := Aside0.mk A610
                      clear A610
                      replace H := Option.bind_eq_some_iff.mp H
                      obtain ⟨⟨t393, t394⟩, A620, H⟩ := H
                      replace H : ((series_On.f kj30 a0 t393 l3 (wrap64 (Int.tmod a4 20))).bind fun bt397 => (if bt397.2 = 0 then ((affidavitref01_Same.f kj30 t389 bt397.1).bind fun t401 => (some t401)) else (none))) = some r := H
                      have A62 := Aside0.mk A620
                      clear A620
                      replace H := Option.bind_eq_some_iff.mp H
                      obtain ⟨⟨t397, t398⟩, A630, H⟩ := H
                      replace H : (if t398 = 0 then ((affidavitref01_Same.f kj30 t389 t397).bind fun t401 => (some t401)) else (none)) = some r := H
                      have A63 := Aside0.mk A630
                      clear A630
                      by_cases c64 : t398 = 0
                      · rw [if_pos c64] at H
                        have c64b0 : (t398 == 0) = true := beq_iff_eq.mpr c64
                        have c64b1 : (t398 != 0) = false := bne_eq_false_iff_eq.mpr c64
                        clear c64
                        replace H := Option.bind_eq_some_iff.mp H
                        obtain ⟨t401, A650, H⟩ := H
                        replace H : (some t401) = some r := H
                        have A65 := Aside0.mk A650
                        clear A650
                        obtain rfl := Option.some.inj H
                        go_wp2_with (first | ((with_reducible refine gate_callee (f := 18) rfl ?_); refine goesL_ (some 154) rfl rfl Try.func18 (by kernel_rfl) rfl #[.int .u64 a0, .slice A3 l3.length c3] rfl (by (try simp only [List.map_toArray, List.map_cons, List.map_nil]); first | done | rfl | (simp only [List.length_drop, List.length_take]; rfl)) ?_; (with_reducible refine (series_Right.calls kj30 a0 _ _ l3 true _ ?side1 ?side2 A59.out).mono ?_); (case side1 => repeat (first | exact (Kd.C_below HR3.out HB.out) | (with_reducible refine Kd.C_alloc ?_ _) | (with_reducible refine Kd.C_drewN ?_ _) | (with_reducible refine Kd.C_drew ?_))); (case side2 => exact HC3.out); rintro e w' ⟨rfl, ⟨nd, rfl⟩⟩; refine ⟨_, rfl, ?_⟩) | ((with_reducible refine gate_callee (f := 16) rfl ?_); refine goesL_ (some 165) rfl rfl Try.func16 (by kernel_rfl) rfl #[.int .u64 a0, .slice A1 l1.length c1, .slice A3 l3.length c3, .int .i64 (wrap64 (2 * (wrap64 (Int.tmod a4 20))))] rfl (by (try simp only [List.map_toArray, List.map_cons, List.map_nil]); first | done | rfl | (simp only [List.length_drop, List.length_take]; rfl)) ?_; (with_reducible refine (series_On.calls kj30 a0 _ _ l1 _ _ l3 (wrap64 (2 * (wrap64 (Int.tmod a4 20)))) t389 t390 _ ?side1 ?side2 ?side3 ?side4 A61.out).mono ?_); (case side1 => repeat (first | exact (Kd.C_below HR1.out (by repeat (first | (with_reducible first | exact HB.out | apply below_alloc | apply pw_below_drewN | apply below_drew1) | exact HB.out))) | (with_reducible refine Kd.C_alloc ?_ _) | (with_reducible refine Kd.C_drewN ?_ _) | (with_reducible refine Kd.C_drew ?_))); (case side2 => exact HC1.out); (case side3 => repeat (first | exact (Kd.C_below HR3.out (by repeat (first | (with_reducible first | exact HB.out | apply below_alloc | apply pw_below_drewN | apply below_drew1) | exact HB.out))) | (with_reducible refine Kd.C_alloc ?_ _) | (with_reducible refine Kd.C_drewN ?_ _) | (with_reducible refine Kd.C_drew ?_))); (case side4 => exact HC3.out); rintro e w66 ⟨v391, rfl, ho0, hb⟩; refine ⟨_, rfl, ?_⟩; have n0_ := Aside0.mk (Kd.R_lower ho0 (below_size (by repeat (first | (with_reducible first | exact HB.out | apply below_alloc | apply pw_below_drewN | apply below_drew1) | exact HB.out)))); have n1_ := Aside0.mk (below_step (by repeat (first | (with_reducible first | exact HB.out | apply below_alloc | apply pw_below_drewN | apply below_drew1) | exact HB.out)) hb); clear HB; have HO392 := n0_; have HB := n1_; clear n0_ n1_; (try clear hb); (try clear hb2); (try clear hk); (try clear hi); (try clear ho0)) | ((with_reducible refine gate_callee (f := 16) rfl ?_); refine goesL_ (some 173) rfl rfl Try.func16 (by kernel_rfl) rfl #[.int .u64 a0, .slice A1 l1.length c1, .slice A3 l3.length c3, .int .i64 (wrap64 (Int.tmod a4 20))] rfl (by (try simp only [List.map_toArray, List.map_cons, List.map_nil]); first | done | rfl | (simp only [List.length_drop, List.length_take]; rfl)) ?_; (with_reducible refine (series_On.calls kj30 a0 _ _ l1 _ _ l3 (wrap64 (Int.tmod a4 20)) t393 t394 _ ?side1 ?side2 ?side3 ?side4 A62.out).mono ?_); (case side1 => repeat (first | exact (Kd.C_below HR1.out HB.out) | (with_reducible refine Kd.C_alloc ?_ _) | (with_reducible refine Kd.C_drewN ?_ _) | (with_reducible refine Kd.C_drew ?_))); (case side2 => exact HC1.out); (case side3 => repeat (first | exact (Kd.C_below HR3.out HB.out) | (with_reducible refine Kd.C_alloc ?_ _) | (with_reducible refine Kd.C_drewN ?_ _) | (with_reducible refine Kd.C_drew ?_))); (case side4 => exact HC3.out); rintro e w67 ⟨v395, rfl, ho0, hb⟩; refine ⟨_, rfl, ?_⟩; have n0_ := Aside0.mk (Kd.R_elder' (by (with_reducible repeat (first | apply Kd.R_alloc | apply Kd.R_drewN | apply Kd.R_drew)); exact HO392.out) (Kd.R_base ho0) hb); have n1_ := Aside0.mk (Kd.R_lower (Kd.R_new' ho0 (Kd.R_lt (by (with_reducible repeat (first | apply Kd.R_alloc | apply Kd.R_drewN | apply Kd.R_drew)); exact HO392.out))) (below_size (by repeat (first | (with_reducible first | exact HB.out | apply below_alloc | apply pw_below_drewN | apply below_drew1) | exact HB.out)))); have n2_ := Aside0.mk (below_step (by repeat (first | (with_reducible first | exact HB.out | apply below_alloc | apply pw_below_drewN | apply below_drew1) | exact HB.out)) hb); clear HO392; clear HB; have HO392 := n0_; have HO396 := n1_; have HB := n2_; clear n0_ n1_ n2_; (try clear hb); (try clear hb2); (try clear hk); (try clear hi); (try clear ho0); obtain ⟨Ao68, co68, eo68⟩ := Kd.R_slice HO396.out; subst eo68) | ((with_reducible refine gate_callee (f := 16) rfl ?_); refine goesL_ (some 181) rfl rfl Try.func16 (by kernel_rfl) rfl #[.int .u64 a0, .slice Ao68 t393.length co68, .slice A3 l3.length c3, .int .i64 (wrap64 (Int.tmod a4 20))] rfl (by (try simp only [List.map_toArray, List.map_cons, List.map_nil]); first | done | rfl | (simp only [List.length_drop, List.length_take]; rfl)) ?_; (with_reducible refine (series_On.calls kj30 a0 _ _ t393 _ _ l3 (wrap64 (Int.tmod a4 20)) t397 t398 _ ?side1 ?side2 ?side3 ?side4 A63.out).mono ?_); (case side1 => repeat (first | exact (Kd.R_reads' HO396.out).2.2 | (with_reducible refine Kd.C_alloc ?_ _) | (with_reducible refine Kd.C_drewN ?_ _) | (with_reducible refine Kd.C_drew ?_))); (case side2 => exact (Kd.R_reads' HO396.out).2.1); (case side3 => repeat (first | exact (Kd.C_below HR3.out HB.out) | (with_reducible refine Kd.C_alloc ?_ _) | (with_reducible refine Kd.C_drewN ?_ _) | (with_reducible refine Kd.C_drew ?_))); (case side4 => exact HC3.out); rintro e w69 ⟨v399, rfl, ho0, hb⟩; refine ⟨_, rfl, ?_⟩; have n0_ := Aside0.mk (Kd.R_elder' (by (with_reducible repeat (first | apply Kd.R_alloc | apply Kd.R_drewN | apply Kd.R_drew)); exact HO392.out) (Kd.R_base ho0) hb); have n1_ := Aside0.mk (Kd.R_elder' (by (with_reducible repeat (first | apply Kd.R_alloc | apply Kd.R_drewN | apply Kd.R_drew)); exact HO396.out) (Kd.R_base ho0) hb); have n2_ := Aside0.mk (Kd.R_lower (Kd.R_new' (Kd.R_new' ho0 (Kd.R_lt (by (with_reducible repeat (first | apply Kd.R_alloc | apply Kd.R_drewN | apply Kd.R_drew)); exact HO392.out))) (Kd.R_lt (by (with_reducible repeat (first | apply Kd.R_alloc | apply Kd.R_drewN | apply Kd.R_drew)); exact HO396.out))) (below_size (by repeat (first | (with_reducible first | exact HB.out | apply below_alloc | apply pw_below_drewN | apply below_drew1) | exact HB.out)))); have n3_ := Aside0.mk (below_step (by repeat (first | (with_reducible first | exact HB.out | apply below_alloc | apply pw_below_drewN | apply below_drew1) | exact HB.out)) hb); clear HO392; clear HO396; clear HB; have HO392 := n0_; have HO396 := n1_; have HO400 := n2_; have HB := n3_; clear n0_ n1_ n2_ n3_; (try clear hb); (try clear hb2); (try clear hk); (try clear hi); (try clear ho0); obtain ⟨Ao70, co70, eo70⟩ := Kd.R_slice HO392.out; subst eo70; obtain ⟨Ao71, co71, eo71⟩ := Kd.R_slice HO400.out; subst eo71) | (go_at_call 21; (with_reducible refine (affidavitref01_Same.calls kj30 _ _ t389 _ _ t397 t401 _ ?side1 ?side2 ?side3 ?side4 A65.out).mono ?_); (case side1 => repeat (first | exact (Kd.R_reads' HO392.out).2.2 | (with_reducible refine Kd.C_alloc ?_ _) | (with_reducible refine Kd.C_drewN ?_ _) | (with_reducible refine Kd.C_drew ?_))); (case side2 => exact (Kd.R_reads' HO392.out).2.1); (case side3 => repeat (first | exact (Kd.R_reads' HO400.out).2.2 | (with_reducible refine Kd.C_alloc ?_ _) | (with_reducible refine Kd.C_drewN ?_ _) | (with_reducible refine Kd.C_drew ?_))); (case side4 => exact (Kd.R_reads' HO400.out).2.1); rintro e w' ⟨rfl, ⟨nd, rfl⟩⟩))
                        go_ret
                        exact ⟨by first | rfl | (simp [errW_none, errW_some] <;> rfl) | (simp [*, errW_none, errW_some] <;> rfl), by repeat (first | (with_reducible first | exact HB.out | apply below_alloc | apply pw_below_drewN | apply below_drew1) | exact HB.out)⟩
                      · rw [if_neg c64] at H
                        exact absurd H (by simp)
                    · replace c60 := Bool.eq_false_iff.mpr c60
                      subst c60
                      have H1 : (some true) = some r := by rw [if_neg (show ¬ (false = true) by decide)] at H; exact H
                      clear H
                      have H := H1
                      clear H1
                      obtain rfl := Option.some.inj H
                      go_wp2_with (first | ((with_reducible refine gate_callee (f := 18) rfl ?_); refine goesL_ (some 154) rfl rfl Try.func18 (by kernel_rfl) rfl #[.int .u64 a0, .slice A3 l3.length c3] rfl (by (try simp only [List.map_toArray, List.map_cons, List.map_nil]); first | done | rfl | (simp only [List.length_drop, List.length_take]; rfl)) ?_; (with_reducible refine (series_Right.calls kj30 a0 _ _ l3 false _ ?side1 ?side2 A59.out).mono ?_); (case side1 => repeat (first | exact (Kd.C_below HR3.out HB.out) | (with_reducible refine Kd.C_alloc ?_ _) | (with_reducible refine Kd.C_drewN ?_ _) | (with_reducible refine Kd.C_drew ?_))); (case side2 => exact HC3.out); rintro e w' ⟨rfl, ⟨nd, rfl⟩⟩; refine ⟨_, rfl, ?_⟩))
                      go_ret
                      exact ⟨by first | rfl | (simp [errW_none, errW_some] <;> rfl) | (simp [*, errW_none, errW_some] <;> rfl), by repeat (first | (with_reducible first | exact HB.out | apply below_alloc | apply pw_below_drewN | apply below_drew1) | exact HB.out)⟩
          · rw [if_neg c19] at H
            exact absurd H (by simp)
  · replace c7 := Bool.eq_false_iff.mpr c7
    subst c7
    have H1 : (none) = some r := by rw [if_neg (show ¬ (false = true) by decide)] at H; exact H
    clear H
    have H := H1
    clear H1
    exact absurd H (by simp)

/-- THE ONE PURE STATEMENT of affidavitlaw04_SeriesSums: yours. -/
def affidavitlaw04_SeriesSums.Pure : Prop := ∀ (a0 : Int) (l1 : List Int) (l2 : List Int) (l3 : List Int) (a4 : Int), (Lit.int .u64 a0).wf = true → l1.length ≤ maxLen → l1.length * 8 ≤ 140737488351232 → (∀ x ∈ l1, (Lit.int .u64 x).wf = true) → l2.length ≤ maxLen → l2.length * 8 ≤ 140737488351232 → (∀ x ∈ l2, (Lit.int .u64 x).wf = true) → l3.length ≤ maxLen → l3.length * 8 ≤ 140737488351232 → (∀ x ∈ l3, (Lit.int .u64 x).wf = true) → (Lit.int .u8 a4).wf = true → ∃ k, affidavitlaw04_SeriesSums.f k a0 l1 l2 l3 a4 = some true
theorem affidavitlaw04_SeriesSums.walk (P : affidavitlaw04_SeriesSums.Pure) (a0 : Int) (a1 : Option Addr) (len1 cap1 : Nat) (z1 : List Int) (a2 : Option Addr) (len2 cap2 : Nat) (z2 : List Int) (a3 : Option Addr) (len3 cap3 : Nat) (z3 : List Int) (a4 : Int) (w : World) (w0 : (Lit.int .u64 a0).wf = true) (w1 : (a1 = none ∧ len1 = 0 ∧ cap1 = 0 ∧ z1 = []) ∨ ∃ x, a1 = some x ∧ len1 ≤ cap1 ∧ cap1 ≤ maxLen ∧ z1.length = cap1 ∧ (∀ i, i < z1.length → w.cell? (x.add i) = some (.int .u64 (z1.getD i 0))) ∧ ∀ n ∈ z1, (Lit.int .u64 n).wf = true) (y1 : len1 * 8 ≤ 140737488351232) (w2 : (a2 = none ∧ len2 = 0 ∧ cap2 = 0 ∧ z2 = []) ∨ ∃ x, a2 = some x ∧ len2 ≤ cap2 ∧ cap2 ≤ maxLen ∧ z2.length = cap2 ∧ (∀ i, i < z2.length → w.cell? (x.add i) = some (.int .u64 (z2.getD i 0))) ∧ ∀ n ∈ z2, (Lit.int .u64 n).wf = true) (y2 : len2 * 8 ≤ 140737488351232) (w3 : (a3 = none ∧ len3 = 0 ∧ cap3 = 0 ∧ z3 = []) ∨ ∃ x, a3 = some x ∧ len3 ≤ cap3 ∧ cap3 ≤ maxLen ∧ z3.length = cap3 ∧ (∀ i, i < z3.length → w.cell? (x.add i) = some (.int .u64 (z3.getD i 0))) ∧ ∀ n ∈ z3, (Lit.int .u64 n).wf = true) (y3 : len3 * 8 ≤ 140737488351232) (w4 : (Lit.int .u8 a4).wf = true) :
    Calls Try.prog 6 #[.int .u64 a0, .slice a1 len1 cap1, .slice a2 len2 cap2, .slice a3 len3 cap3, .int .u8 a4] w fun e w' => e = .returned (.bool true) ∧ Below w.heap.size w w' := by
  obtain ⟨l1, rfl, hr1, hm1, hw1, hc1⟩ := ReadsInt.ofRowC w1
  obtain ⟨l2, rfl, hr2, hm2, hw2, hc2⟩ := ReadsInt.ofRowC w2
  obtain ⟨l3, rfl, hr3, hm3, hw3, hc3⟩ := ReadsInt.ofRowC w3
  obtain ⟨k, h⟩ := P a0 l1 l2 l3 a4 w0 hm1 y1 hw1 hm2 y2 hw2 hm3 y3 hw3 w4
  refine (affidavitlaw04_SeriesSums.calls k a0 _ _ l1 _ _ l2 _ _ l3 a4 true w (Kd.C_of_reads (d := (0 : Int)) (h1 := fun _ => rfl) hr1) hc1 (Kd.C_of_reads (d := (0 : Int)) (h1 := fun _ => rfl) hr2) hc2 (Kd.C_of_reads (d := (0 : Int)) (h1 := fun _ => rfl) hr3) hc3 h).mono ?_
  rintro e w' ⟨rfl, hd⟩
  exact ⟨rfl, hd⟩

end Go.Proofs.Ytffcjgelcdilcaa.PSer
